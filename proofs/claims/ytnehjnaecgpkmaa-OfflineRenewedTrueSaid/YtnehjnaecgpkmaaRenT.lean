/-
  OfflineRenewedTrue returns true for every five numbers; what was in memory before the call stays as it was.
-/
import Derived.Test.YtnehjnaecgpkmaaTight
namespace Go.Proofs.Ytnehjnaecgpkmaa
open Go.RowKit

theorem put_one (v u : Value) : put [(axB, v)] axB u = [(axB, u)] := by simp [put, ba_self]
theorem most_sub (a b d : Int) (h0 : 0 ≤ a) (h1 : 0 ≤ b) (hd : 0 ≤ d) : mostI (a + b) d ≤ mostI a d + mostI b d := by
  unfold mostI
  rw [Int.add_mul]
  have := Int.mul_nonneg h0 hd
  have := Int.mul_nonneg h1 hd
  omega

set_option maxRecDepth 100000 in
set_option maxHeartbeats 800000 in
theorem rt_out (term drift wait again elapsed : Int) (w : World) (h : wait < 0 ∨ 2000 < wait ∨ elapsed < 0 ∨ 4000 < elapsed ∨ drift < 0 ∨ 500 < drift ∨ again < 1 ∨ 1048576 < again) :
    Calls Try.prog 7 #[.int .i64 term, .int .i64 drift, .int .i64 wait, .int .i64 again, .int .i64 elapsed] w fun e w' => e = .returned (.bool true) ∧ Below w.heap.size w w' := by
  go_enter Try.func7, Try.ntmps7
  go_wp2_with fail
  refine (new_any _).mono ?_
  rintro e w1 ⟨rfl, _, HB⟩
  go_wp2_with (go_at_call 10; refine (awake20_any _).mono ?_; rintro e w9 ⟨rfl, HB9⟩)
  all_goals (go_ret; exact ⟨rfl, HB.trans (HB9.mono HB.size)⟩)

set_option maxRecDepth 100000 in
set_option maxHeartbeats 800000 in
theorem rt_no (term drift wait again elapsed : Int) (w : World) (g0 : 0 ≤ wait) (g1 : wait ≤ 2000) (g2 : 0 ≤ elapsed) (g3 : elapsed ≤ 4000) (r0 : 0 ≤ drift) (r1 : drift ≤ 500) (a0 : 1 ≤ again) (a1 : again ≤ 1048576) (h : ∀ W, Calls Try.prog 16 #[.int .i64 0, .int .i64 0, .int .i64 0, .int .i64 term, .int .i64 drift] W (GrNo W)) :
    Calls Try.prog 7 #[.int .i64 term, .int .i64 drift, .int .i64 wait, .int .i64 again, .int .i64 elapsed] w fun e w' => e = .returned (.bool true) ∧ Below w.heap.size w w' := by
  have H := Lib.hid h
  clear h
  go_enter Try.func7, Try.ntmps7
  go_wp2_with fail
  refine (new_any _).mono ?_
  rintro e w1 ⟨rfl, _, HB⟩
  go_wp2_with fail
  refine (H.out _).mono ?_
  rintro e w2 hg
  obtain ⟨pt, rfl, HB2⟩ := hg
  have o2 := HB.trans (HB2.mono HB.size)
  go_wp2_with fail
  refine (Most_any _ _ _ g0 (by omega) r0 r1).mono ?_
  rintro e w3' ⟨rfl, rfl⟩
  go_wp2_with (go_at_call 10; refine (awake20_any _).mono ?_; rintro e w9 ⟨rfl, HB9⟩)
  go_ret
  exact ⟨rfl, (o2.alloc o2.size _).trans (HB9.mono (by simp; have := o2.size; omega))⟩

set_option maxRecDepth 100000 in
set_option maxHeartbeats 1600000 in
theorem rt_over (term drift wait again elapsed : Int) (w : World) (g0 : 0 ≤ wait) (g1 : wait ≤ 2000) (g2 : 0 ≤ elapsed) (g3 : elapsed ≤ 4000) (r0 : 0 ≤ drift) (r1 : drift ≤ 500) (a0 : 1 ≤ again) (a1 : again ≤ 1048576) (h3 : isTermB term = true) (hs : soundB ⟨axB, 1, 0, term, drift⟩ = true) (hf : term ≤ mostI wait drift) :
    Calls Try.prog 7 #[.int .i64 term, .int .i64 drift, .int .i64 wait, .int .i64 again, .int .i64 elapsed] w fun e w' => e = .returned (.bool true) ∧ Below w.heap.size w w' := by
  have ha : isTermB again = true := by simp [isTermB]; omega
  obtain ⟨m0, m1⟩ := most_le wait drift g0 (by omega) r0 r1
  have hv : Hid (hldB (0 + 0 + mostI wait drift) annB 1 (0 + 0) (0 + 0 + term) annB 1 = false) := by
    show _ = false
    simp [hldB, hNow]
    omega
  go_enter Try.func7, Try.ntmps7
  go_wp2_with fail
  refine (new_any _).mono ?_
  rintro e w1 ⟨rfl, _, HB⟩
  go_wp2_with fail
  refine (granted_yes 0 0 0 term drift _ (by omega) (by omega) (by omega) (by omega) h3 hs).mono ?_
  rintro e w2 hg
  obtain ⟨rfl, hT, HB2⟩ := hg
  have o2 := HB.trans (HB2.mono HB.size)
  go_wp2_with fail
  refine (Most_any _ _ _ g0 (by omega) r0 r1).mono ?_
  rintro e w3' ⟨rfl, rfl⟩
  go_wp2_with fail
  have hT2 := hT.alloc (.cells #[.string axB, .int .i64 1, .int .i64 0, .int .i64 term, .int .i64 drift] 23)
  have k2 := (Box5.new w2 (.string axB) (.int .i64 1) (.int .i64 0) (.int .i64 term) (.int .i64 drift) 23).cell5
  have p2 := o2.alloc o2.size (.cells #[.string axB, .int .i64 1, .int .i64 0, .int .i64 term, .int .i64 drift] 23)
  have l1 := hT.lt
  have l2 := hT.mp.lt
  have l3 := HB.size
  refine (advance_yes _ _ _ _ _ _ hT2 (by omega) (by omega) (by omega) (by omega)).mono ?_
  rintro e w3 ⟨rfl, hT3, hO3⟩
  have k3 := k2.only hO3 (by omega) (by omega)
  have o3 := p2.trans (hO3.below p2.size (by omega) (by omega))
  (have k3' := k3; obtain ⟨d0, d1, d2, d3, d4, lt_k3, fz_k3⟩ := k3')
  go_wp2_with fail
  refine (renew_no _ _ _ _ _ _ _ _ _ hT3 ha _ _ _ _ _ (look_one _) hv.out).mono ?_
  rintro e w4 ⟨rfl, HB4⟩
  have o4 := o3.trans (HB4.mono o3.size)
  go_wp2_with (go_at_call 10; refine (awake20_any _).mono ?_; rintro e w9 ⟨rfl, HB9⟩)
  go_ret
  exact ⟨rfl, (o4.alloc o4.size _).trans (HB9.mono (by simp; have := o4.size; omega))⟩

set_option maxRecDepth 100000 in
set_option maxHeartbeats 1600000 in
theorem rt_new_false (term drift wait again elapsed : Int) (w : World) (g0 : 0 ≤ wait) (g1 : wait ≤ 2000) (g2 : 0 ≤ elapsed) (g3 : elapsed ≤ 4000) (r0 : 0 ≤ drift) (r1 : drift ≤ 500) (a0 : 1 ≤ again) (a1 : again ≤ 1048576) (h3 : isTermB term = true) (hs : soundB ⟨axB, 1, 0, term, drift⟩ = true) (hf : mostI wait drift < term) (hs2 : soundB ⟨axB, 1, wait, again, drift⟩ = true) (hge : endI ⟨axB, 1, 0, term, drift⟩ ≤ endI ⟨axB, 1, wait, again, drift⟩) (hh : holdB ⟨axB, 1, wait, again, drift⟩ (wait + elapsed) = false) :
    Calls Try.prog 7 #[.int .i64 term, .int .i64 drift, .int .i64 wait, .int .i64 again, .int .i64 elapsed] w fun e w' => e = .returned (.bool true) ∧ Below w.heap.size w w' := by
  have ha : isTermB again = true := by simp [isTermB]; omega
  obtain ⟨m0, m1⟩ := most_le wait drift g0 (by omega) r0 r1
  obtain ⟨n0, n1⟩ := most_le (wait + elapsed) drift (by omega) (by omega) r0 r1
  have hmm := most_mono wait (wait + elapsed) drift (by omega) g0 r0
  have hv : Hid (hldB (0 + 0 + mostI wait drift) annB 1 (0 + 0) (0 + 0 + term) annB 1 = true) := by
    show _ = true
    simp [hldB, hNow]
    omega
  have N1 := Lib.hid hh
  have HG := Lib.hid hge
  clear hh hge
  go_enter Try.func7, Try.ntmps7
  go_wp2_with fail
  refine (new_any _).mono ?_
  rintro e w1 ⟨rfl, _, HB⟩
  go_wp2_with fail
  refine (granted_yes 0 0 0 term drift _ (by omega) (by omega) (by omega) (by omega) h3 hs).mono ?_
  rintro e w2 hg
  obtain ⟨rfl, hT, HB2⟩ := hg
  have o2 := HB.trans (HB2.mono HB.size)
  go_wp2_with fail
  refine (Most_any _ _ _ g0 (by omega) r0 r1).mono ?_
  rintro e w3' ⟨rfl, rfl⟩
  go_wp2_with fail
  have hT2 := hT.alloc (.cells #[.string axB, .int .i64 1, .int .i64 0, .int .i64 term, .int .i64 drift] 23)
  have k2 := (Box5.new w2 (.string axB) (.int .i64 1) (.int .i64 0) (.int .i64 term) (.int .i64 drift) 23).cell5
  have p2 := o2.alloc o2.size (.cells #[.string axB, .int .i64 1, .int .i64 0, .int .i64 term, .int .i64 drift] 23)
  have l1 := hT.lt
  have l2 := hT.mp.lt
  have l3 := HB.size
  refine (advance_yes _ _ _ _ _ _ hT2 (by omega) (by omega) (by omega) (by omega)).mono ?_
  rintro e w3 ⟨rfl, hT3, hO3⟩
  have k3 := k2.only hO3 (by omega) (by omega)
  have o3 := p2.trans (hO3.below p2.size (by omega) (by omega))
  (have k3' := k3; obtain ⟨d0, d1, d2, d3, d4, lt_k3, fz_k3⟩ := k3')
  go_wp2_with fail
  refine (renew_yes _ _ _ _ _ _ _ _ _ hT3 ha (by omega) (by omega) _ _ _ _ _ (look_one _) hv.out).mono ?_
  rintro e w4 ⟨rfl, hT4, hO4⟩
  rw [put_one] at hT4
  have k4 := k3.only hO4 (by omega) (by omega)
  have o4 := o3.trans (hO4.below o3.size (by omega) (by omega))
  clear d0 d1 d2 d3 d4 lt_k3 fz_k3
  (have k4' := k4; obtain ⟨d0, d1, d2, d3, d4, lt_k4, fz_k4⟩ := k4')
  go_wp2_with fail
  refine (renewed_new axB 1 0 term drift wait again _ hs g0 hs2 HG.out).mono ?_
  rintro e w5 ⟨rfl, HB5⟩
  have k5 := (k4.alloc _).below HB5
  have o5 := (o4.alloc o4.size _).trans (HB5.mono (by simp; have := o4.size; omega))
  have hT5 := (hT4.alloc _).after HB5
  go_wp2_with fail
  refine (Most_any _ _ _ (by omega) (by omega) r0 r1).mono ?_
  rintro e w5' ⟨rfl, rfl⟩
  go_wp2_with fail
  have k6 := k5.alloc (.cells #[(.string axB), (.int .i64 1), (.int .i64 wait), (.int .i64 again), (.int .i64 drift)] 23)
  have j6 := (Box5.new w5 (.string axB) (.int .i64 1) (.int .i64 wait) (.int .i64 again) (.int .i64 drift) 23).cell5
  have o6 := o5.alloc o5.size (.cells #[(.string axB), (.int .i64 1), (.int .i64 wait), (.int .i64 again), (.int .i64 drift)] 23)
  have hT6 := hT5.alloc (.cells #[(.string axB), (.int .i64 1), (.int .i64 wait), (.int .i64 again), (.int .i64 drift)] 23)
  have l4 := o5.size
  have l5 := hT5.lt
  have l6 := hT5.mp.lt
  refine (advance_yes _ _ _ _ _ _ hT6 (by omega) (by omega) (by omega) (by omega)).mono ?_
  rintro e w7 ⟨rfl, hT7, hO7⟩
  have k7 := k6.only hO7 (by omega) (by omega)
  have j7 := j6.only hO7 (by omega) (by omega)
  have o7 := o6.trans (hO7.below o6.size (by omega) (by omega))
  (have j7' := j7; obtain ⟨y0, y1, y2, y3, y4, lt_j7, fz_j7⟩ := j7')
  go_wp2_with fail
  refine (holding_is _ N1.out).mono ?_
  rintro e w8 ⟨rfl, HB8⟩
  have k8 := k7.below HB8
  have o8 := o7.trans (HB8.mono o7.size)
  clear y0 y1 y2 y3 y4 d0 d1 d2 d3 d4
  go_wp2_with (go_at_call 10; refine (awake20_any _).mono ?_; rintro e w9 ⟨rfl, HB9⟩)
  go_ret
  exact ⟨rfl, o8.trans (HB9.mono o8.size)⟩

set_option maxRecDepth 100000 in
set_option maxHeartbeats 1600000 in
theorem rt_new_true (term drift wait again elapsed : Int) (w : World) (g0 : 0 ≤ wait) (g1 : wait ≤ 2000) (g2 : 0 ≤ elapsed) (g3 : elapsed ≤ 4000) (r0 : 0 ≤ drift) (r1 : drift ≤ 500) (a0 : 1 ≤ again) (a1 : again ≤ 1048576) (h3 : isTermB term = true) (hs : soundB ⟨axB, 1, 0, term, drift⟩ = true) (hf : mostI wait drift < term) (hs2 : soundB ⟨axB, 1, wait, again, drift⟩ = true) (hge : endI ⟨axB, 1, 0, term, drift⟩ ≤ endI ⟨axB, 1, wait, again, drift⟩) (hh : holdB ⟨axB, 1, wait, again, drift⟩ (wait + elapsed) = true) :
    Calls Try.prog 7 #[.int .i64 term, .int .i64 drift, .int .i64 wait, .int .i64 again, .int .i64 elapsed] w fun e w' => e = .returned (.bool true) ∧ Below w.heap.size w w' := by
  have ha : isTermB again = true := by simp [isTermB]; omega
  obtain ⟨m0, m1⟩ := most_le wait drift g0 (by omega) r0 r1
  obtain ⟨n0, n1⟩ := most_le (wait + elapsed) drift (by omega) (by omega) r0 r1
  have hmm := most_mono wait (wait + elapsed) drift (by omega) g0 r0
  have hv : Hid (hldB (0 + 0 + mostI wait drift) annB 1 (0 + 0) (0 + 0 + term) annB 1 = true) := by
    show _ = true
    simp [hldB, hNow]
    omega
  have hq : mostI (wait + elapsed) drift < max (0 + 0 + term) (0 + 0 + mostI wait drift + again) := by
    have hp := hold_parts hh
    have hp2 := hp.2.2.2
    rw [show wait + elapsed - wait = elapsed from by omega] at hp2
    have := most_sub wait elapsed drift g0 g2 r0
    omega
  have hv2 : Hid (hldB (0 + 0 + mostI wait drift + (mostI (wait + elapsed) drift - mostI wait drift)) annB 1 (0 + 0) (max (0 + 0 + term) (0 + 0 + mostI wait drift + again)) annB 1 = true) := by
    show _ = true
    simp only [hldB, hNow, Bool.and_eq_true, decide_eq_true_eq]
    refine ⟨⟨⟨by omega, by omega⟩, by simp⟩, by simp⟩
  clear hq
  have N1 := Lib.hid hh
  have HG := Lib.hid hge
  clear hh hge
  go_enter Try.func7, Try.ntmps7
  go_wp2_with fail
  refine (new_any _).mono ?_
  rintro e w1 ⟨rfl, _, HB⟩
  go_wp2_with fail
  refine (granted_yes 0 0 0 term drift _ (by omega) (by omega) (by omega) (by omega) h3 hs).mono ?_
  rintro e w2 hg
  obtain ⟨rfl, hT, HB2⟩ := hg
  have o2 := HB.trans (HB2.mono HB.size)
  go_wp2_with fail
  refine (Most_any _ _ _ g0 (by omega) r0 r1).mono ?_
  rintro e w3' ⟨rfl, rfl⟩
  go_wp2_with fail
  have hT2 := hT.alloc (.cells #[.string axB, .int .i64 1, .int .i64 0, .int .i64 term, .int .i64 drift] 23)
  have k2 := (Box5.new w2 (.string axB) (.int .i64 1) (.int .i64 0) (.int .i64 term) (.int .i64 drift) 23).cell5
  have p2 := o2.alloc o2.size (.cells #[.string axB, .int .i64 1, .int .i64 0, .int .i64 term, .int .i64 drift] 23)
  have l1 := hT.lt
  have l2 := hT.mp.lt
  have l3 := HB.size
  refine (advance_yes _ _ _ _ _ _ hT2 (by omega) (by omega) (by omega) (by omega)).mono ?_
  rintro e w3 ⟨rfl, hT3, hO3⟩
  have k3 := k2.only hO3 (by omega) (by omega)
  have o3 := p2.trans (hO3.below p2.size (by omega) (by omega))
  (have k3' := k3; obtain ⟨d0, d1, d2, d3, d4, lt_k3, fz_k3⟩ := k3')
  go_wp2_with fail
  refine (renew_yes _ _ _ _ _ _ _ _ _ hT3 ha (by omega) (by omega) _ _ _ _ _ (look_one _) hv.out).mono ?_
  rintro e w4 ⟨rfl, hT4, hO4⟩
  rw [put_one] at hT4
  have k4 := k3.only hO4 (by omega) (by omega)
  have o4 := o3.trans (hO4.below o3.size (by omega) (by omega))
  clear d0 d1 d2 d3 d4 lt_k3 fz_k3
  (have k4' := k4; obtain ⟨d0, d1, d2, d3, d4, lt_k4, fz_k4⟩ := k4')
  go_wp2_with fail
  refine (renewed_new axB 1 0 term drift wait again _ hs g0 hs2 HG.out).mono ?_
  rintro e w5 ⟨rfl, HB5⟩
  have k5 := (k4.alloc _).below HB5
  have o5 := (o4.alloc o4.size _).trans (HB5.mono (by simp; have := o4.size; omega))
  have hT5 := (hT4.alloc _).after HB5
  go_wp2_with fail
  refine (Most_any _ _ _ (by omega) (by omega) r0 r1).mono ?_
  rintro e w5' ⟨rfl, rfl⟩
  go_wp2_with fail
  have k6 := k5.alloc (.cells #[(.string axB), (.int .i64 1), (.int .i64 wait), (.int .i64 again), (.int .i64 drift)] 23)
  have j6 := (Box5.new w5 (.string axB) (.int .i64 1) (.int .i64 wait) (.int .i64 again) (.int .i64 drift) 23).cell5
  have o6 := o5.alloc o5.size (.cells #[(.string axB), (.int .i64 1), (.int .i64 wait), (.int .i64 again), (.int .i64 drift)] 23)
  have hT6 := hT5.alloc (.cells #[(.string axB), (.int .i64 1), (.int .i64 wait), (.int .i64 again), (.int .i64 drift)] 23)
  have l4 := o5.size
  have l5 := hT5.lt
  have l6 := hT5.mp.lt
  refine (advance_yes _ _ _ _ _ _ hT6 (by omega) (by omega) (by omega) (by omega)).mono ?_
  rintro e w7 ⟨rfl, hT7, hO7⟩
  have k7 := k6.only hO7 (by omega) (by omega)
  have j7 := j6.only hO7 (by omega) (by omega)
  have o7 := o6.trans (hO7.below o6.size (by omega) (by omega))
  (have j7' := j7; obtain ⟨y0, y1, y2, y3, y4, lt_j7, fz_j7⟩ := j7')
  go_wp2_with fail
  refine (holding_is _ N1.out).mono ?_
  rintro e w8 ⟨rfl, HB8⟩
  have k8 := k7.below HB8
  have o8 := o7.trans (HB8.mono o7.size)
  clear y0 y1 y2 y3 y4 d0 d1 d2 d3 d4
  (have k8' := k8; obtain ⟨x0, x1, x2, x3, x4, lt_k8, fz_k8⟩ := k8')
  go_wp2_with fail
  refine (holds_some _ (hT7.after HB8) (look_one _) hv2.out).mono ?_
  rintro e wa ⟨rfl, HBa⟩
  have oa := o8.trans (HBa.mono o8.size)
  go_wp2_with (go_at_call 10; refine (awake20_any _).mono ?_; rintro e w9 ⟨rfl, HB9⟩)
  go_ret
  exact ⟨rfl, oa.trans (HB9.mono oa.size)⟩

set_option maxRecDepth 100000 in
set_option maxHeartbeats 1600000 in
theorem rt_old_false (term drift wait again elapsed : Int) (w : World) (g0 : 0 ≤ wait) (g1 : wait ≤ 2000) (g2 : 0 ≤ elapsed) (g3 : elapsed ≤ 4000) (r0 : 0 ≤ drift) (r1 : drift ≤ 500) (a0 : 1 ≤ again) (a1 : again ≤ 1048576) (h3 : isTermB term = true) (hs : soundB ⟨axB, 1, 0, term, drift⟩ = true) (hf : mostI wait drift < term) (hs2 : soundB ⟨axB, 1, wait, again, drift⟩ = true) (hge : endI ⟨axB, 1, wait, again, drift⟩ < endI ⟨axB, 1, 0, term, drift⟩) (hh : holdB ⟨axB, 1, 0, term, drift⟩ (wait + elapsed) = false) :
    Calls Try.prog 7 #[.int .i64 term, .int .i64 drift, .int .i64 wait, .int .i64 again, .int .i64 elapsed] w fun e w' => e = .returned (.bool true) ∧ Below w.heap.size w w' := by
  have ha : isTermB again = true := by simp [isTermB]; omega
  obtain ⟨m0, m1⟩ := most_le wait drift g0 (by omega) r0 r1
  obtain ⟨n0, n1⟩ := most_le (wait + elapsed) drift (by omega) (by omega) r0 r1
  have hmm := most_mono wait (wait + elapsed) drift (by omega) g0 r0
  have hv : Hid (hldB (0 + 0 + mostI wait drift) annB 1 (0 + 0) (0 + 0 + term) annB 1 = true) := by
    show _ = true
    simp [hldB, hNow]
    omega
  have N1 := Lib.hid hh
  have HG := Lib.hid hge
  clear hh hge
  go_enter Try.func7, Try.ntmps7
  go_wp2_with fail
  refine (new_any _).mono ?_
  rintro e w1 ⟨rfl, _, HB⟩
  go_wp2_with fail
  refine (granted_yes 0 0 0 term drift _ (by omega) (by omega) (by omega) (by omega) h3 hs).mono ?_
  rintro e w2 hg
  obtain ⟨rfl, hT, HB2⟩ := hg
  have o2 := HB.trans (HB2.mono HB.size)
  go_wp2_with fail
  refine (Most_any _ _ _ g0 (by omega) r0 r1).mono ?_
  rintro e w3' ⟨rfl, rfl⟩
  go_wp2_with fail
  have hT2 := hT.alloc (.cells #[.string axB, .int .i64 1, .int .i64 0, .int .i64 term, .int .i64 drift] 23)
  have k2 := (Box5.new w2 (.string axB) (.int .i64 1) (.int .i64 0) (.int .i64 term) (.int .i64 drift) 23).cell5
  have p2 := o2.alloc o2.size (.cells #[.string axB, .int .i64 1, .int .i64 0, .int .i64 term, .int .i64 drift] 23)
  have l1 := hT.lt
  have l2 := hT.mp.lt
  have l3 := HB.size
  refine (advance_yes _ _ _ _ _ _ hT2 (by omega) (by omega) (by omega) (by omega)).mono ?_
  rintro e w3 ⟨rfl, hT3, hO3⟩
  have k3 := k2.only hO3 (by omega) (by omega)
  have o3 := p2.trans (hO3.below p2.size (by omega) (by omega))
  (have k3' := k3; obtain ⟨d0, d1, d2, d3, d4, lt_k3, fz_k3⟩ := k3')
  go_wp2_with fail
  refine (renew_yes _ _ _ _ _ _ _ _ _ hT3 ha (by omega) (by omega) _ _ _ _ _ (look_one _) hv.out).mono ?_
  rintro e w4 ⟨rfl, hT4, hO4⟩
  rw [put_one] at hT4
  have k4 := k3.only hO4 (by omega) (by omega)
  have o4 := o3.trans (hO4.below o3.size (by omega) (by omega))
  clear d0 d1 d2 d3 d4 lt_k3 fz_k3
  (have k4' := k4; obtain ⟨d0, d1, d2, d3, d4, lt_k4, fz_k4⟩ := k4')
  go_wp2_with fail
  refine (renewed_old axB 1 0 term drift wait again _ hs g0 hs2 HG.out).mono ?_
  rintro e w5 ⟨rfl, HB5⟩
  have k5 := (k4.alloc _).below HB5
  have o5 := (o4.alloc o4.size _).trans (HB5.mono (by simp; have := o4.size; omega))
  have hT5 := (hT4.alloc _).after HB5
  go_wp2_with fail
  refine (Most_any _ _ _ (by omega) (by omega) r0 r1).mono ?_
  rintro e w5' ⟨rfl, rfl⟩
  go_wp2_with fail
  have k6 := k5.alloc (.cells #[(.string axB), (.int .i64 1), (.int .i64 0), (.int .i64 term), (.int .i64 drift)] 23)
  have j6 := (Box5.new w5 (.string axB) (.int .i64 1) (.int .i64 0) (.int .i64 term) (.int .i64 drift) 23).cell5
  have o6 := o5.alloc o5.size (.cells #[(.string axB), (.int .i64 1), (.int .i64 0), (.int .i64 term), (.int .i64 drift)] 23)
  have hT6 := hT5.alloc (.cells #[(.string axB), (.int .i64 1), (.int .i64 0), (.int .i64 term), (.int .i64 drift)] 23)
  have l4 := o5.size
  have l5 := hT5.lt
  have l6 := hT5.mp.lt
  refine (advance_yes _ _ _ _ _ _ hT6 (by omega) (by omega) (by omega) (by omega)).mono ?_
  rintro e w7 ⟨rfl, hT7, hO7⟩
  have k7 := k6.only hO7 (by omega) (by omega)
  have j7 := j6.only hO7 (by omega) (by omega)
  have o7 := o6.trans (hO7.below o6.size (by omega) (by omega))
  (have j7' := j7; obtain ⟨y0, y1, y2, y3, y4, lt_j7, fz_j7⟩ := j7')
  go_wp2_with fail
  refine (holding_is _ N1.out).mono ?_
  rintro e w8 ⟨rfl, HB8⟩
  have k8 := k7.below HB8
  have o8 := o7.trans (HB8.mono o7.size)
  clear y0 y1 y2 y3 y4 d0 d1 d2 d3 d4
  go_wp2_with (go_at_call 10; refine (awake20_any _).mono ?_; rintro e w9 ⟨rfl, HB9⟩)
  go_ret
  exact ⟨rfl, o8.trans (HB9.mono o8.size)⟩

set_option maxRecDepth 100000 in
set_option maxHeartbeats 1600000 in
theorem rt_old_true (term drift wait again elapsed : Int) (w : World) (g0 : 0 ≤ wait) (g1 : wait ≤ 2000) (g2 : 0 ≤ elapsed) (g3 : elapsed ≤ 4000) (r0 : 0 ≤ drift) (r1 : drift ≤ 500) (a0 : 1 ≤ again) (a1 : again ≤ 1048576) (h3 : isTermB term = true) (hs : soundB ⟨axB, 1, 0, term, drift⟩ = true) (hf : mostI wait drift < term) (hs2 : soundB ⟨axB, 1, wait, again, drift⟩ = true) (hge : endI ⟨axB, 1, wait, again, drift⟩ < endI ⟨axB, 1, 0, term, drift⟩) (hh : holdB ⟨axB, 1, 0, term, drift⟩ (wait + elapsed) = true) :
    Calls Try.prog 7 #[.int .i64 term, .int .i64 drift, .int .i64 wait, .int .i64 again, .int .i64 elapsed] w fun e w' => e = .returned (.bool true) ∧ Below w.heap.size w w' := by
  have ha : isTermB again = true := by simp [isTermB]; omega
  obtain ⟨m0, m1⟩ := most_le wait drift g0 (by omega) r0 r1
  obtain ⟨n0, n1⟩ := most_le (wait + elapsed) drift (by omega) (by omega) r0 r1
  have hmm := most_mono wait (wait + elapsed) drift (by omega) g0 r0
  have hv : Hid (hldB (0 + 0 + mostI wait drift) annB 1 (0 + 0) (0 + 0 + term) annB 1 = true) := by
    show _ = true
    simp [hldB, hNow]
    omega
  have hq : mostI (wait + elapsed) drift < max (0 + 0 + term) (0 + 0 + mostI wait drift + again) := by
    have hp := hold_parts hh
    have hp2 := hp.2.2.2
    rw [show wait + elapsed - 0 = wait + elapsed from by omega] at hp2
    omega
  have hv2 : Hid (hldB (0 + 0 + mostI wait drift + (mostI (wait + elapsed) drift - mostI wait drift)) annB 1 (0 + 0) (max (0 + 0 + term) (0 + 0 + mostI wait drift + again)) annB 1 = true) := by
    show _ = true
    simp only [hldB, hNow, Bool.and_eq_true, decide_eq_true_eq]
    refine ⟨⟨⟨by omega, by omega⟩, by simp⟩, by simp⟩
  clear hq
  have N1 := Lib.hid hh
  have HG := Lib.hid hge
  clear hh hge
  go_enter Try.func7, Try.ntmps7
  go_wp2_with fail
  refine (new_any _).mono ?_
  rintro e w1 ⟨rfl, _, HB⟩
  go_wp2_with fail
  refine (granted_yes 0 0 0 term drift _ (by omega) (by omega) (by omega) (by omega) h3 hs).mono ?_
  rintro e w2 hg
  obtain ⟨rfl, hT, HB2⟩ := hg
  have o2 := HB.trans (HB2.mono HB.size)
  go_wp2_with fail
  refine (Most_any _ _ _ g0 (by omega) r0 r1).mono ?_
  rintro e w3' ⟨rfl, rfl⟩
  go_wp2_with fail
  have hT2 := hT.alloc (.cells #[.string axB, .int .i64 1, .int .i64 0, .int .i64 term, .int .i64 drift] 23)
  have k2 := (Box5.new w2 (.string axB) (.int .i64 1) (.int .i64 0) (.int .i64 term) (.int .i64 drift) 23).cell5
  have p2 := o2.alloc o2.size (.cells #[.string axB, .int .i64 1, .int .i64 0, .int .i64 term, .int .i64 drift] 23)
  have l1 := hT.lt
  have l2 := hT.mp.lt
  have l3 := HB.size
  refine (advance_yes _ _ _ _ _ _ hT2 (by omega) (by omega) (by omega) (by omega)).mono ?_
  rintro e w3 ⟨rfl, hT3, hO3⟩
  have k3 := k2.only hO3 (by omega) (by omega)
  have o3 := p2.trans (hO3.below p2.size (by omega) (by omega))
  (have k3' := k3; obtain ⟨d0, d1, d2, d3, d4, lt_k3, fz_k3⟩ := k3')
  go_wp2_with fail
  refine (renew_yes _ _ _ _ _ _ _ _ _ hT3 ha (by omega) (by omega) _ _ _ _ _ (look_one _) hv.out).mono ?_
  rintro e w4 ⟨rfl, hT4, hO4⟩
  rw [put_one] at hT4
  have k4 := k3.only hO4 (by omega) (by omega)
  have o4 := o3.trans (hO4.below o3.size (by omega) (by omega))
  clear d0 d1 d2 d3 d4 lt_k3 fz_k3
  (have k4' := k4; obtain ⟨d0, d1, d2, d3, d4, lt_k4, fz_k4⟩ := k4')
  go_wp2_with fail
  refine (renewed_old axB 1 0 term drift wait again _ hs g0 hs2 HG.out).mono ?_
  rintro e w5 ⟨rfl, HB5⟩
  have k5 := (k4.alloc _).below HB5
  have o5 := (o4.alloc o4.size _).trans (HB5.mono (by simp; have := o4.size; omega))
  have hT5 := (hT4.alloc _).after HB5
  go_wp2_with fail
  refine (Most_any _ _ _ (by omega) (by omega) r0 r1).mono ?_
  rintro e w5' ⟨rfl, rfl⟩
  go_wp2_with fail
  have k6 := k5.alloc (.cells #[(.string axB), (.int .i64 1), (.int .i64 0), (.int .i64 term), (.int .i64 drift)] 23)
  have j6 := (Box5.new w5 (.string axB) (.int .i64 1) (.int .i64 0) (.int .i64 term) (.int .i64 drift) 23).cell5
  have o6 := o5.alloc o5.size (.cells #[(.string axB), (.int .i64 1), (.int .i64 0), (.int .i64 term), (.int .i64 drift)] 23)
  have hT6 := hT5.alloc (.cells #[(.string axB), (.int .i64 1), (.int .i64 0), (.int .i64 term), (.int .i64 drift)] 23)
  have l4 := o5.size
  have l5 := hT5.lt
  have l6 := hT5.mp.lt
  refine (advance_yes _ _ _ _ _ _ hT6 (by omega) (by omega) (by omega) (by omega)).mono ?_
  rintro e w7 ⟨rfl, hT7, hO7⟩
  have k7 := k6.only hO7 (by omega) (by omega)
  have j7 := j6.only hO7 (by omega) (by omega)
  have o7 := o6.trans (hO7.below o6.size (by omega) (by omega))
  (have j7' := j7; obtain ⟨y0, y1, y2, y3, y4, lt_j7, fz_j7⟩ := j7')
  go_wp2_with fail
  refine (holding_is _ N1.out).mono ?_
  rintro e w8 ⟨rfl, HB8⟩
  have k8 := k7.below HB8
  have o8 := o7.trans (HB8.mono o7.size)
  clear y0 y1 y2 y3 y4 d0 d1 d2 d3 d4
  (have k8' := k8; obtain ⟨x0, x1, x2, x3, x4, lt_k8, fz_k8⟩ := k8')
  go_wp2_with fail
  refine (holds_some _ (hT7.after HB8) (look_one _) hv2.out).mono ?_
  rintro e wa ⟨rfl, HBa⟩
  have oa := o8.trans (HBa.mono o8.size)
  go_wp2_with (go_at_call 10; refine (awake20_any _).mono ?_; rintro e w9 ⟨rfl, HB9⟩)
  go_ret
  exact ⟨rfl, oa.trans (HB9.mono oa.size)⟩

theorem rt_any (term drift wait again elapsed : Int) (w : World) :
    Calls Try.prog 7 #[.int .i64 term, .int .i64 drift, .int .i64 wait, .int .i64 again, .int .i64 elapsed] w fun e w' => e = .returned (.bool true) ∧ Below w.heap.size w w' := by
  by_cases g : wait < 0 ∨ 2000 < wait ∨ elapsed < 0 ∨ 4000 < elapsed ∨ drift < 0 ∨ 500 < drift ∨ again < 1 ∨ 1048576 < again
  · exact rt_out term drift wait again elapsed w g
  · cases h3 : isTermB term
    · exact rt_no term drift wait again elapsed w (by omega) (by omega) (by omega) (by omega) (by omega) (by omega) (by omega) (by omega) (fun W => granted_term 0 0 0 term drift W (by omega) (by omega) (by omega) (by omega) h3)
    · cases hs : soundB ⟨axB, 1, 0, term, drift⟩
      · exact rt_no term drift wait again elapsed w (by omega) (by omega) (by omega) (by omega) (by omega) (by omega) (by omega) (by omega) (fun W => granted_unsound 0 0 0 term drift W (by omega) (by omega) (by omega) (by omega) h3 hs)
      · by_cases hf : mostI wait drift < term
        · have hs2 : soundB ⟨axB, 1, wait, again, drift⟩ = true := by
            have hv : validB axB.data.toList = true := by decide
            have hz : axB.size ≤ 200 := by decide
            simp [soundB, hv, hz]
            omega
          by_cases hge : endI ⟨axB, 1, 0, term, drift⟩ ≤ endI ⟨axB, 1, wait, again, drift⟩
          · cases hh : holdB ⟨axB, 1, wait, again, drift⟩ (wait + elapsed)
            · exact rt_new_false term drift wait again elapsed w (by omega) (by omega) (by omega) (by omega) (by omega) (by omega) (by omega) (by omega) h3 hs hf hs2 hge hh
            · exact rt_new_true term drift wait again elapsed w (by omega) (by omega) (by omega) (by omega) (by omega) (by omega) (by omega) (by omega) h3 hs hf hs2 hge hh
          · cases hh : holdB ⟨axB, 1, 0, term, drift⟩ (wait + elapsed)
            · exact rt_old_false term drift wait again elapsed w (by omega) (by omega) (by omega) (by omega) (by omega) (by omega) (by omega) (by omega) h3 hs hf hs2 (by omega) hh
            · exact rt_old_true term drift wait again elapsed w (by omega) (by omega) (by omega) (by omega) (by omega) (by omega) (by omega) (by omega) h3 hs hf hs2 (by omega) hh
        · exact rt_over term drift wait again elapsed w (by omega) (by omega) (by omega) (by omega) (by omega) (by omega) (by omega) (by omega) h3 hs (by omega)

end Go.Proofs.Ytnehjnaecgpkmaa
