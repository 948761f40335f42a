/-
  OfflineTight returns true for every five numbers; what was in memory before the call stays as it was.
-/
import Derived.Test.YtnehjnaecgpkmaaTrue
namespace Go.Proofs.Ytnehjnaecgpkmaa
open Go.RowKit

set_option maxHeartbeats 400000 in
theorem tight_no (start sent term drift elapsed : Int) (w : World) (h : ∀ W, Calls Try.prog 16 #[.int .i64 start, .int .i64 0, .int .i64 sent, .int .i64 term, .int .i64 drift] W (GrNo W)) :
    Calls Try.prog 6 #[.int .i64 start, .int .i64 sent, .int .i64 term, .int .i64 drift, .int .i64 elapsed] w fun e w' => e = .returned (.bool true) ∧ Below w.heap.size w w' := by
  have H := Lib.hid h
  clear h
  go_enter Try.func6, Try.ntmps6
  go_wp2_with fail
  refine (new_any _).mono ?_
  rintro e w1 ⟨rfl, _, HB⟩
  go_wp2_with fail
  refine (H.out _).mono ?_
  rintro e w2 hg
  obtain ⟨pt, rfl, HB2⟩ := hg
  have o2 := HB.trans (HB2.mono HB.size)
  go_wp2_with (go_at_call 10; refine (awake20_any _).mono ?_; rintro e w9 ⟨rfl, HB9⟩)
  go_ret
  exact ⟨rfl, (o2.alloc o2.size _).trans (HB9.mono (by simp; have := o2.size; omega))⟩

set_option maxHeartbeats 800000 in
theorem tight_out (start sent term drift elapsed : Int) (w : World) (g0 : 0 ≤ start) (g1 : start ≤ 1000) (h3 : isTermB term = true) (hs : soundB ⟨axB, 1, sent, term, drift⟩ = true)
    (h : elapsed < 0 ∨ 1048576 < elapsed ∨ 1099511627776 - elapsed < sent) :
    Calls Try.prog 6 #[.int .i64 start, .int .i64 sent, .int .i64 term, .int .i64 drift, .int .i64 elapsed] w fun e w' => e = .returned (.bool true) ∧ Below w.heap.size w w' := by
  obtain ⟨_, _, s0, s1, t0, t1, r0, r1⟩ := sound_parts hs
  go_enter Try.func6, Try.ntmps6
  go_wp2_with fail
  refine (new_any _).mono ?_
  rintro e w1 ⟨rfl, _, HB⟩
  go_wp2_with fail
  refine (granted_yes start 0 sent term drift _ g0 g1 (by omega) (by omega) h3 hs).mono ?_
  rintro e w2 hg
  obtain ⟨rfl, hT, HB2⟩ := hg
  have o2 := HB.trans (HB2.mono HB.size)
  go_wp2_with (go_at_call 10; refine (awake20_any _).mono ?_; rintro e w9 ⟨rfl, HB9⟩)
  all_goals (go_ret; exact ⟨rfl, (o2.alloc o2.size _).trans (HB9.mono (by simp; have := o2.size; omega))⟩)

theorem not_hold {c : Claim} {e : Int} (hs : soundB c = true) (h0 : 0 ≤ e) (h1 : c.sent + e ≤ 1099511627776) (h : holdB c (c.sent + e) = false) : c.term ≤ mostI e c.drift := by
  obtain ⟨p, f, s, t, d⟩ := c
  rcases Int.lt_or_le (mostI e d) t with h2 | h2
  · have : holdB ⟨p, f, s, t, d⟩ (s + e) = true := by
      simp only [holdB, hs, Bool.true_and, Bool.and_eq_true, decide_eq_true_eq]
      rw [show s + e - s = e from by omega]
      exact ⟨⟨by omega, h1⟩, h2⟩
    rw [this] at h; cases h
  · exact h2
theorem most_le (e d : Int) (h0 : 0 ≤ e) (h1 : e ≤ 1048576) (h2 : 0 ≤ d) (h3 : d ≤ 500) : 0 ≤ mostI e d ∧ mostI e d ≤ 1100000000 := by
  have a := mul_bd e d h0 (by omega) h2 h3
  have b : e * d ≤ 1048576 * 500 := by
    have := Int.mul_le_mul_of_nonneg_right h1 h2
    have := Int.mul_le_mul_of_nonneg_left h3 (show (0 : Int) ≤ 1048576 by omega)
    omega
  unfold mostI
  omega

set_option maxHeartbeats 800000 in
theorem tight_in (start sent term drift elapsed : Int) (w : World) (g0 : 0 ≤ start) (g1 : start ≤ 1000) (h3 : isTermB term = true) (hs : soundB ⟨axB, 1, sent, term, drift⟩ = true)
    (e0 : 0 ≤ elapsed) (e1 : elapsed ≤ 1048576) (e2 : sent ≤ 1099511627776 - elapsed) :
    Calls Try.prog 6 #[.int .i64 start, .int .i64 sent, .int .i64 term, .int .i64 drift, .int .i64 elapsed] w fun e w' => e = .returned (.bool true) ∧ Below w.heap.size w w' := by
  obtain ⟨_, _, s0, s1, t0, t1, r0, r1⟩ := sound_parts hs
  obtain ⟨m0, m1⟩ := most_le elapsed drift e0 e1 r0 r1
  cases hh : holdB ⟨axB, 1, sent, term, drift⟩ (sent + elapsed)
  · have hm := not_hold hs e0 (show sent + elapsed ≤ _ by omega) hh
    dsimp only at hm
    have N1 := Lib.hid hh
    have hv : Hid (hldB (start + 0 + mostI elapsed drift) annB 1 (start + 0) (start + 0 + term) annB 1 = false) := by
      show _ = false
      simp [hldB, hNow]
      omega
    clear hh
    go_enter Try.func6, Try.ntmps6
    go_wp2_with fail
    refine (new_any _).mono ?_
    rintro e w1 ⟨rfl, _, HB⟩
    go_wp2_with fail
    refine (granted_yes start 0 sent term drift _ g0 g1 (by omega) (by omega) h3 hs).mono ?_
    rintro e w2 hg
    obtain ⟨rfl, hT, HB2⟩ := hg
    have o2 := HB.trans (HB2.mono HB.size)
    go_wp2_with (go_at_call 12; refine (holding_is _ N1.out).mono ?_; rintro e w3 ⟨rfl, HB3⟩)
    refine (Most_any _ _ _ e0 (by omega) r0 r1).mono ?_
    rintro e w3' ⟨rfl, rfl⟩
    go_wp2_with fail
    have k3 := ((Box5.new w2 (.string axB) (.int .i64 1) (.int .i64 sent) (.int .i64 term) (.int .i64 drift) 23).below HB3).cell5
    have o3 := (o2.alloc o2.size _).trans (HB3.mono (by simp; have := o2.size; omega))
    have hT3 := (hT.alloc _).after HB3
    have l1 := hT.lt
    have l2 := hT.mp.lt
    have l3 := HB.size
    refine (advance_yes _ _ _ _ _ _ hT3 (by omega) (by omega) (by omega) (by omega)).mono ?_
    rintro e w4 ⟨rfl, hT4, hO4⟩
    have k4 := k3.only hO4 (by omega) (by omega)
    have o4 := o3.trans (hO4.below o3.size (by omega) (by omega))
    (have k4' := k4; obtain ⟨d0, d1, d2, d3, d4, lt_k4, fz_k4⟩ := k4')
    go_wp2_with fail
    refine (holds_some _ hT4 (look_one _) hv.out).mono ?_
    rintro e w5 ⟨rfl, HB5⟩
    have o5 := o4.trans (HB5.mono o4.size)
    go_wp2_with (go_at_call 10; refine (awake20_any _).mono ?_; rintro e w9 ⟨rfl, HB9⟩)
    go_ret
    exact ⟨rfl, o5.trans (HB9.mono o5.size)⟩
  · have N1 := Lib.hid hh
    clear hh
    go_enter Try.func6, Try.ntmps6
    go_wp2_with fail
    refine (new_any _).mono ?_
    rintro e w1 ⟨rfl, _, HB⟩
    go_wp2_with fail
    refine (granted_yes start 0 sent term drift _ g0 g1 (by omega) (by omega) h3 hs).mono ?_
    rintro e w2 hg
    obtain ⟨rfl, hT, HB2⟩ := hg
    have o2 := HB.trans (HB2.mono HB.size)
    go_wp2_with (first | (go_at_call 12; refine (holding_is _ N1.out).mono ?_; rintro e w3 ⟨rfl, HB3⟩) | (go_at_call 10; refine (awake20_any _).mono ?_; rintro e w9 ⟨rfl, HB9⟩))
    go_ret
    have o3 := (o2.alloc o2.size _).trans (HB3.mono (by simp; have := o2.size; omega))
    exact ⟨rfl, o3.trans (HB9.mono o3.size)⟩

theorem tight_any (start sent term drift elapsed : Int) (w : World) :
    Calls Try.prog 6 #[.int .i64 start, .int .i64 sent, .int .i64 term, .int .i64 drift, .int .i64 elapsed] w fun e w' => e = .returned (.bool true) ∧ Below w.heap.size w w' := by
  by_cases g : start < 0 ∨ 1000 < start
  · exact tight_no start sent term drift elapsed w (fun W => granted_out start 0 sent term drift W (by omega))
  · cases h3 : isTermB term
    · exact tight_no start sent term drift elapsed w (fun W => granted_term start 0 sent term drift W (by omega) (by omega) (by omega) (by omega) h3)
    · cases hs : soundB ⟨axB, 1, sent, term, drift⟩
      · exact tight_no start sent term drift elapsed w (fun W => granted_unsound start 0 sent term drift W (by omega) (by omega) (by omega) (by omega) h3 hs)
      · by_cases h : elapsed < 0 ∨ 1048576 < elapsed ∨ 1099511627776 - elapsed < sent
        · exact tight_out start sent term drift elapsed w (by omega) (by omega) h3 hs h
        · exact tight_in start sent term drift elapsed w (by omega) (by omega) h3 hs (by omega) (by omega) (by omega)

end Go.Proofs.Ytnehjnaecgpkmaa
