/-
  OfflineTrue returns true for every seven numbers; what was in memory before the call stays as it was.
-/
import Derived.Test.YtnehjnaecgpkmaaGrant
namespace Go.Proofs.Ytnehjnaecgpkmaa
open Go.RowKit

set_option maxHeartbeats 400000 in
theorem Most_any (t d : Int) (w : World) (h0 : 0 ≤ t) (h1 : t ≤ 1099511627776) (h2 : 0 ≤ d) (h3 : d ≤ 500) :
    Calls Try.prog 17 #[.int .i64 t, .int .i64 d] w fun e w' => e = .returned (.int .i64 (mostI t d)) ∧ w = w' := by
  obtain ⟨m0, m1⟩ := mul_bd t d h0 h1 h2 h3
  go_enter Try.func17, Try.ntmps17
  go_wp2_with fail
  go_ret
  exact ⟨rfl, rfl⟩

theorem look_one (v : Value) : look [(axB, v)] axB = some v := by simp [look, List.find?, ba_self]

set_option maxHeartbeats 400000 in
theorem true_no (start delay sent term drift elapsed server : Int) (w : World) (h : ∀ W, Calls Try.prog 16 #[.int .i64 start, .int .i64 delay, .int .i64 sent, .int .i64 term, .int .i64 drift] W (GrNo W)) :
    Calls Try.prog 5 #[.int .i64 start, .int .i64 delay, .int .i64 sent, .int .i64 term, .int .i64 drift, .int .i64 elapsed, .int .i64 server] w fun e w' => e = .returned (.bool true) ∧ Below w.heap.size w w' := by
  have H := Lib.hid h
  clear h
  go_enter Try.func5, Try.ntmps5
  go_wp2_with fail
  refine (new_any _).mono ?_
  rintro e w1 ⟨rfl, _, HB⟩
  go_wp2_with fail
  refine (H.out _).mono ?_
  rintro e w2 hg
  obtain ⟨pt, rfl, HB2⟩ := hg
  have o2 := HB.trans (HB2.mono HB.size)
  go_wp2_with (go_at_call 10; refine (awake20_any _).mono ?_; rintro e w3 ⟨rfl, HB3⟩)
  go_ret
  exact ⟨rfl, (o2.alloc o2.size _).trans (HB3.mono (by simp; have := o2.size; omega))⟩

theorem hold_most {c : Claim} {e : Int} (h : holdB c (c.sent + e) = true) : mostI e c.drift < c.term := by
  obtain ⟨p, f, s, t, d⟩ := c
  have := (hold_parts h).2.2.2
  rwa [show s + e - s = e from by omega] at this

set_option maxHeartbeats 800000 in
theorem true_out (start delay sent term drift elapsed server : Int) (w : World) (g0 : 0 ≤ start) (g1 : start ≤ 1000) (g2 : 0 ≤ delay) (g3 : delay ≤ 1000) (h3 : isTermB term = true) (hs : soundB ⟨axB, 1, sent, term, drift⟩ = true)
    (h : elapsed < 0 ∨ 1048576 < elapsed ∨ server < delay ∨ mostI elapsed drift < server) :
    Calls Try.prog 5 #[.int .i64 start, .int .i64 delay, .int .i64 sent, .int .i64 term, .int .i64 drift, .int .i64 elapsed, .int .i64 server] w fun e w' => e = .returned (.bool true) ∧ Below w.heap.size w w' := by
  obtain ⟨_, _, s0, s1, t0, t1, r0, r1⟩ := sound_parts hs
  go_enter Try.func5, Try.ntmps5
  go_wp2_with fail
  refine (new_any _).mono ?_
  rintro e w1 ⟨rfl, _, HB⟩
  go_wp2_with fail
  refine (granted_yes start delay sent term drift _ g0 g1 g2 g3 h3 hs).mono ?_
  rintro e w2 hg
  obtain ⟨rfl, hT, HB2⟩ := hg
  have o2 := HB.trans (HB2.mono HB.size)
  go_wp2_with (first | (go_at_call 10; refine (awake20_any _).mono ?_; rintro e w3 ⟨rfl, HB3⟩) | (go_at_call 17; refine (Most_any _ _ _ (by omega) (by omega) r0 r1).mono ?_; rintro e w3 ⟨rfl, rfl⟩))
  all_goals (go_ret; exact ⟨rfl, (o2.alloc o2.size _).trans (HB3.mono (by simp; have := o2.size; omega))⟩)

set_option maxHeartbeats 800000 in
theorem true_in (start delay sent term drift elapsed server : Int) (w : World) (g0 : 0 ≤ start) (g1 : start ≤ 1000) (g2 : 0 ≤ delay) (g3 : delay ≤ 1000) (h3 : isTermB term = true) (hs : soundB ⟨axB, 1, sent, term, drift⟩ = true)
    (e0 : 0 ≤ elapsed) (e1 : elapsed ≤ 1048576) (e2 : delay ≤ server) (e3 : server ≤ mostI elapsed drift) :
    Calls Try.prog 5 #[.int .i64 start, .int .i64 delay, .int .i64 sent, .int .i64 term, .int .i64 drift, .int .i64 elapsed, .int .i64 server] w fun e w' => e = .returned (.bool true) ∧ Below w.heap.size w w' := by
  obtain ⟨_, _, s0, s1, t0, t1, r0, r1⟩ := sound_parts hs
  cases hh : holdB ⟨axB, 1, sent, term, drift⟩ (sent + elapsed)
  · have N1 := Lib.hid hh
    clear hh
    go_enter Try.func5, Try.ntmps5
    go_wp2_with fail
    refine (new_any _).mono ?_
    rintro e w1 ⟨rfl, _, HB⟩
    go_wp2_with fail
    refine (granted_yes start delay sent term drift _ g0 g1 g2 g3 h3 hs).mono ?_
    rintro e w2 hg
    obtain ⟨rfl, hT, HB2⟩ := hg
    have o2 := HB.trans (HB2.mono HB.size)
    go_wp2_with (first | (go_at_call 10; refine (awake20_any _).mono ?_; rintro e w4 ⟨rfl, HB4⟩) | (go_at_call 17; refine (Most_any _ _ _ (by omega) (by omega) r0 r1).mono ?_; rintro e w3 ⟨rfl, rfl⟩) | (go_at_call 12; refine (holding_is _ N1.out).mono ?_; rintro e w3 ⟨rfl, HB3⟩))
    go_ret
    have o3 := (o2.alloc o2.size _).trans (HB3.mono (by simp; have := o2.size; omega))
    exact ⟨rfl, o3.trans (HB4.mono o3.size)⟩
  · have hm := hold_most hh
    dsimp only at hm
    have N1 := Lib.hid hh
    have hv : Hid (hldB (start + delay + (server - delay)) annB 1 (start + delay) (start + delay + term) annB 1 = true) := by
      show _ = true
      simp [hldB, hNow]
      omega
    clear hh
    go_enter Try.func5, Try.ntmps5
    go_wp2_with fail
    refine (new_any _).mono ?_
    rintro e w1 ⟨rfl, _, HB⟩
    go_wp2_with fail
    refine (granted_yes start delay sent term drift _ g0 g1 g2 g3 h3 hs).mono ?_
    rintro e w2 hg
    obtain ⟨rfl, hT, HB2⟩ := hg
    have o2 := HB.trans (HB2.mono HB.size)
    go_wp2_with (first | (go_at_call 17; refine (Most_any _ _ _ (by omega) (by omega) r0 r1).mono ?_; rintro e w3 ⟨rfl, rfl⟩) | (go_at_call 12; refine (holding_is _ N1.out).mono ?_; rintro e w3 ⟨rfl, HB3⟩))
    have k3 := ((Box5.new w2 (.string axB) (.int .i64 1) (.int .i64 sent) (.int .i64 term) (.int .i64 drift) 23).below HB3).cell5
    have o3 := (o2.alloc o2.size _).trans (HB3.mono (by simp; have := o2.size; omega))
    have hT3 := (hT.alloc _).after HB3
    have l1 := hT.lt
    have l2 := hT.mp.lt
    have l3 := HB.size
    refine (advance_yes _ _ _ _ _ _ hT3 (by omega) (by omega) (by omega) (by omega)).mono ?_
    rintro e w4 ⟨rfl, hT4, hO4⟩
    have k4 := k3.only hO4 (by omega) (by omega)
    have o4 := o3.trans (hO4.below o3.size (by omega) (by omega))
    (have k4' := k4; obtain ⟨d0, d1, d2, d3, d4, lt_k4, fz_k4⟩ := k4')
    go_wp2_with fail
    refine (holds_some _ hT4 (look_one _) hv.out).mono ?_
    rintro e w5 ⟨rfl, HB5⟩
    have o5 := o4.trans (HB5.mono o4.size)
    go_wp2_with (go_at_call 10; refine (awake20_any _).mono ?_; rintro e w6 ⟨rfl, HB6⟩)
    go_ret
    exact ⟨rfl, o5.trans (HB6.mono o5.size)⟩

theorem true_any (start delay sent term drift elapsed server : Int) (w : World) :
    Calls Try.prog 5 #[.int .i64 start, .int .i64 delay, .int .i64 sent, .int .i64 term, .int .i64 drift, .int .i64 elapsed, .int .i64 server] w fun e w' => e = .returned (.bool true) ∧ Below w.heap.size w w' := by
  by_cases g : start < 0 ∨ 1000 < start ∨ delay < 0 ∨ 1000 < delay
  · exact true_no start delay sent term drift elapsed server w (fun W => granted_out start delay sent term drift W g)
  · cases h3 : isTermB term
    · exact true_no start delay sent term drift elapsed server w (fun W => granted_term start delay sent term drift W (by omega) (by omega) (by omega) (by omega) h3)
    · cases hs : soundB ⟨axB, 1, sent, term, drift⟩
      · exact true_no start delay sent term drift elapsed server w (fun W => granted_unsound start delay sent term drift W (by omega) (by omega) (by omega) (by omega) h3 hs)
      · by_cases h : elapsed < 0 ∨ 1048576 < elapsed ∨ server < delay ∨ mostI elapsed drift < server
        · exact true_out start delay sent term drift elapsed server w (by omega) (by omega) (by omega) (by omega) h3 hs h
        · exact true_in start delay sent term drift elapsed server w (by omega) (by omega) (by omega) (by omega) h3 hs (by omega) (by omega) (by omega) (by omega)

end Go.Proofs.Ytnehjnaecgpkmaa
