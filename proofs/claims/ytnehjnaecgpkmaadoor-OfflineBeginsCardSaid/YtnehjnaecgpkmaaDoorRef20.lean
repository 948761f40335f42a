/-
  The reference of layer 20: Sound, Most, Begin, Holding, End, Left, Renewed answer as the program's functions do.
-/
import Derived.Test.YtnehjnaecgpkmaaDoorUse
import Derived.Test.YtnehjnaecgpkmaaDoorOff3
namespace Go.Proofs.YtnehjnaecgpkmaaDoor
open Go.RowKit

theorem soundB_use (p : ByteArray) (f s t d : Int) : soundB ⟨p, f, s, t, d⟩ = (useB p && decide (1 ≤ f) && decide (0 ≤ s) && decide (s ≤ 1099511627776) && decide (1 ≤ t) && decide (t ≤ 1048576) && decide (0 ≤ d) && decide (d ≤ 500)) := rfl

set_option maxHeartbeats 800000 in
theorem rsound_any (p : ByteArray) (f s t d : Int) (w : World) (hs : p.size < 4294967281) (hg : G0 w) :
    Calls Tryd.prog 34 #[.agg #[.string p, .int .i64 f, .int .i64 s, .int .i64 t, .int .i64 d]] w fun e w' => e = .returned (.bool (soundB ⟨p, f, s, t, d⟩)) ∧ Below w.heap.size w w' := by
  have hg1 := hg.below ((Below.refl w.heap.size w).alloc (Nat.le_refl _) (.cells #[.string p, .int .i64 f, .int .i64 s, .int .i64 t, .int .i64 d] 23))
  rw [soundB_use]
  cases hv : useB p
  · have HV := Lib.hid hv
    clear hv
    go_enter Tryd.func34, Tryd.ntmps34
    go_wp2_with fail
    refine (usable_any _ _ hs hg1).mono ?_
    rw [HV.out]
    rintro e w1 ⟨rfl, HB⟩
    have k := (Box5.new w (.string p) (.int .i64 f) (.int .i64 s) (.int .i64 t) (.int .i64 d) 23).below HB
    go_wp2_with fail
    go_ret
    exact ⟨ret_bool (by simp), k.old⟩
  · have HV := Lib.hid hv
    clear hv
    go_enter Tryd.func34, Tryd.ntmps34
    go_wp2_with fail
    refine (usable_any _ _ hs hg1).mono ?_
    rw [HV.out]
    rintro e w1 ⟨rfl, HB⟩
    have k := (Box5.new w (.string p) (.int .i64 f) (.int .i64 s) (.int .i64 t) (.int .i64 d) 23).below HB
    (have k' := k; obtain ⟨c0, c1, c2, c3, c4, lt_k, _, fz_k⟩ := k')
    go_wp2_with fail
    all_goals (go_ret; refine ⟨ret_bool ?_, k.old⟩; rw [Bool.eq_iff_iff]; simp <;> omega)
theorem rsound_is {p : ByteArray} {f s t d : Int} {b : Bool} (w : World) (hs : p.size < 4294967281) (hg : G0 w) (hb : soundB ⟨p, f, s, t, d⟩ = b) :
    Calls Tryd.prog 34 #[.agg #[.string p, .int .i64 f, .int .i64 s, .int .i64 t, .int .i64 d]] w fun e w' => e = .returned (.bool b) ∧ Below w.heap.size w w' := by
  have := rsound_any p f s t d w hs hg
  rw [hb] at this
  exact this

set_option maxHeartbeats 400000 in
theorem rmost_any (t d : Int) (w : World) (h0 : 0 ≤ t) (h1 : t ≤ 1099511627776) (h2 : 0 ≤ d) (h3 : d ≤ 500) :
    Calls Tryd.prog 36 #[.int .i64 t, .int .i64 d] w fun e w' => e = .returned (.int .i64 (mostI t d)) ∧ w = w' := by
  obtain ⟨m0, m1⟩ := mul_bd t d h0 h1 h2 h3
  go_enter Tryd.func36, Tryd.ntmps36
  go_wp2_with fail
  go_ret
  exact ⟨rfl, rfl⟩

set_option maxHeartbeats 400000 in
theorem rbegin_no (p : ByteArray) (f s t d : Int) (w : World) (hs : p.size < 4294967281) (hg : G0 w) (hb : soundB ⟨p, f, s, t, d⟩ = false) :
    Calls Tryd.prog 10 #[.string p, .int .i64 f, .int .i64 s, .int .i64 t, .int .i64 d] w fun e w' => e = .returned (.tuple #[.agg #[.string ⟨#[]⟩, .int .i64 0, .int .i64 0, .int .i64 0, .int .i64 0], .int .i64 200]) ∧ Below w.heap.size w w' := by
  have hg1 := hg.below (((Below.refl w.heap.size w).alloc (Nat.le_refl _) (.cells #[.string ⟨#[]⟩, .int .i64 0, .int .i64 0, .int .i64 0, .int .i64 0] 23)).alloc (by simp) (.cells #[.string p, .int .i64 f, .int .i64 s, .int .i64 t, .int .i64 d] 23))
  go_enter Tryd.func10, Tryd.ntmps10
  go_wp2_with fail
  refine (rsound_is _ hs hg1 hb).mono ?_
  rintro e w' ⟨rfl, HB⟩
  have k := ((Box5.new w (.string ⟨#[]⟩) (.int .i64 0) (.int .i64 0) (.int .i64 0) (.int .i64 0) 23).alloc _).below HB
  have j := (Box5.new1 w (.cells #[.string ⟨#[]⟩, .int .i64 0, .int .i64 0, .int .i64 0, .int .i64 0] 23) (.string p) (.int .i64 f) (.int .i64 s) (.int .i64 t) (.int .i64 d) 23).below HB
  (have k' := k; obtain ⟨d0, d1, d2, d3, d4, lt_k, _, fz_k⟩ := k')
  (have j' := j; obtain ⟨e0, e1, e2, e3, e4, lt_j, _, fz_j⟩ := j')
  go_wp2_with fail
  have ho := k.old
  refine bodyPost_ret (v := .tuple #[.agg #[.string ⟨#[]⟩, .int .i64 0, .int .i64 0, .int .i64 0, .int .i64 0], .int .i64 200]) (by simp [results, Tryd.results10, go_sem, d0, d1, d2, d3, d4]) rfl ⟨rfl, ?_⟩
  (repeat (first | (with_reducible exact Below.refl _ _) | (with_reducible assumption) | (with_reducible refine Below.setCell ?_ ?_ _; rotate_left; focus (first | exact Nat.le_refl _ | (dsimp only; omega))) | (with_reducible refine Below.drew ?_) | (with_reducible refine below_drewN ?_ _) | (with_reducible refine Below.alloc ?_ ?_ _; rotate_left; focus (first | exact Nat.le_refl _ | (simp; done) | (simp; omega))) | (with_reducible refine Below.trans ?_ (HB.mono ?_); rotate_left; focus (first | exact Nat.le_refl _ | (simp; done) | (simp; omega)))))
set_option maxHeartbeats 400000 in
theorem rbegin_yes (p : ByteArray) (f s t d : Int) (w : World) (hs : p.size < 4294967281) (hg : G0 w) (hb : soundB ⟨p, f, s, t, d⟩ = true) :
    Calls Tryd.prog 10 #[.string p, .int .i64 f, .int .i64 s, .int .i64 t, .int .i64 d] w fun e w' => e = .returned (.tuple #[.agg #[.string p, .int .i64 f, .int .i64 s, .int .i64 t, .int .i64 d], .int .i64 0]) ∧ Below w.heap.size w w' := by
  have hg1 := hg.below (((Below.refl w.heap.size w).alloc (Nat.le_refl _) (.cells #[.string ⟨#[]⟩, .int .i64 0, .int .i64 0, .int .i64 0, .int .i64 0] 23)).alloc (by simp) (.cells #[.string p, .int .i64 f, .int .i64 s, .int .i64 t, .int .i64 d] 23))
  go_enter Tryd.func10, Tryd.ntmps10
  go_wp2_with fail
  refine (rsound_is _ hs hg1 hb).mono ?_
  rintro e w' ⟨rfl, HB⟩
  have k := ((Box5.new w (.string ⟨#[]⟩) (.int .i64 0) (.int .i64 0) (.int .i64 0) (.int .i64 0) 23).alloc _).below HB
  have j := (Box5.new1 w (.cells #[.string ⟨#[]⟩, .int .i64 0, .int .i64 0, .int .i64 0, .int .i64 0] 23) (.string p) (.int .i64 f) (.int .i64 s) (.int .i64 t) (.int .i64 d) 23).below HB
  (have k' := k; obtain ⟨d0, d1, d2, d3, d4, lt_k, _, fz_k⟩ := k')
  (have j' := j; obtain ⟨e0, e1, e2, e3, e4, lt_j, _, fz_j⟩ := j')
  go_wp2_with fail
  have ho := k.old
  refine bodyPost_ret (v := .tuple #[.agg #[.string p, .int .i64 f, .int .i64 s, .int .i64 t, .int .i64 d], .int .i64 0]) (by simp [results, Tryd.results10, go_sem, d0, d1, d2, d3, d4]) rfl ⟨rfl, ?_⟩
  (repeat (first | (with_reducible exact Below.refl _ _) | (with_reducible assumption) | (with_reducible refine Below.setCell ?_ ?_ _; rotate_left; focus (first | exact Nat.le_refl _ | (dsimp only; omega))) | (with_reducible refine Below.drew ?_) | (with_reducible refine below_drewN ?_ _) | (with_reducible refine Below.alloc ?_ ?_ _; rotate_left; focus (first | exact Nat.le_refl _ | (simp; done) | (simp; omega))) | (with_reducible refine Below.trans ?_ (HB.mono ?_); rotate_left; focus (first | exact Nat.le_refl _ | (simp; done) | (simp; omega)))))
set_option maxHeartbeats 800000 in
theorem rholding_any (p : ByteArray) (f s t d now : Int) (w : World) (hs : p.size < 4294967281) (hg : G0 w) :
    Calls Tryd.prog 12 #[.agg #[.string p, .int .i64 f, .int .i64 s, .int .i64 t, .int .i64 d], .int .i64 now] w fun e w' => e = .returned (.bool (holdB ⟨p, f, s, t, d⟩ now)) ∧ Below w.heap.size w w' := by
  have hS := (Box5.new w (.string p) (.int .i64 f) (.int .i64 s) (.int .i64 t) (.int .i64 d) 23).drew
  cases hb : soundB ⟨p, f, s, t, d⟩
  · go_enter Tryd.func12, Tryd.ntmps12
    go_wp2_with fail
    (refine wp_region_s (S := Box5 w w.heap.size (.string p) (.int .i64 f) (.int .i64 s) (.int .i64 t) (.int .i64 d)) (by kernel_rfl) (by kernel_rfl) hS ?_; have hN : Nonempty (Held (Box5 w w.heap.size (.string p) (.int .i64 f) (.int .i64 s) (.int .i64 t) (.int .i64 d))) := ⟨⟨_, hS⟩⟩; have r0 := fun y : Held (Box5 w w.heap.size (.string p) (.int .i64 f) (.int .i64 s) (.int .i64 t) (.int .i64 d)) => y.ok.c0; have r1 := fun y : Held (Box5 w w.heap.size (.string p) (.int .i64 f) (.int .i64 s) (.int .i64 t) (.int .i64 d)) => y.ok.c1; have r2 := fun y : Held (Box5 w w.heap.size (.string p) (.int .i64 f) (.int .i64 s) (.int .i64 t) (.int .i64 d)) => y.ok.c2; have r3 := fun y : Held (Box5 w w.heap.size (.string p) (.int .i64 f) (.int .i64 s) (.int .i64 t) (.int .i64 d)) => y.ok.c3; have r4 := fun y : Held (Box5 w w.heap.size (.string p) (.int .i64 f) (.int .i64 s) (.int .i64 t) (.int .i64 d)) => y.ok.c4; (repeat (go_big_quiet_step ((go_at_call 34; exact held_below (fun _ _ h h' => h.below h') (rsound_is _ hs (hg.below (Box5.old (Held.ok _))) hb))))); refine wpQuiet_nil ?_; rintro _ ⟨⟨x, hx⟩, rfl⟩; clear hN r0 r1 r2 r3 r4)
    go_wp2_with fail
    go_ret
    exact ⟨ret_bool (by simp [holdB, hb]), hx.old⟩
  · obtain ⟨_, _, hs0, hs1, ht0, ht1, hd0, hd1⟩ := sound_parts hb
    by_cases h1 : s ≤ now
    · by_cases h2 : now ≤ 1099511627776
      · have hn0 : 0 ≤ now - s := by omega
        have hn1 : now - s ≤ 1099511627776 := by omega
        have HM := Lib.hid (fun W => rmost_any (now - s) d W hn0 hn1 hd0 hd1)
        go_enter Tryd.func12, Tryd.ntmps12
        go_wp2_with fail
        (refine wp_region_s (S := Box5 w w.heap.size (.string p) (.int .i64 f) (.int .i64 s) (.int .i64 t) (.int .i64 d)) (by kernel_rfl) (by kernel_rfl) hS ?_; have hN : Nonempty (Held (Box5 w w.heap.size (.string p) (.int .i64 f) (.int .i64 s) (.int .i64 t) (.int .i64 d))) := ⟨⟨_, hS⟩⟩; have r0 := fun y : Held (Box5 w w.heap.size (.string p) (.int .i64 f) (.int .i64 s) (.int .i64 t) (.int .i64 d)) => y.ok.c0; have r1 := fun y : Held (Box5 w w.heap.size (.string p) (.int .i64 f) (.int .i64 s) (.int .i64 t) (.int .i64 d)) => y.ok.c1; have r2 := fun y : Held (Box5 w w.heap.size (.string p) (.int .i64 f) (.int .i64 s) (.int .i64 t) (.int .i64 d)) => y.ok.c2; have r3 := fun y : Held (Box5 w w.heap.size (.string p) (.int .i64 f) (.int .i64 s) (.int .i64 t) (.int .i64 d)) => y.ok.c3; have r4 := fun y : Held (Box5 w w.heap.size (.string p) (.int .i64 f) (.int .i64 s) (.int .i64 t) (.int .i64 d)) => y.ok.c4; (repeat (go_big_quiet_step (first | (go_at_call 34; exact held_below (fun _ _ h h' => h.below h') (rsound_is _ hs (hg.below (Box5.old (Held.ok _))) hb)) | (go_at_call 36; exact held_same (HM.out _))))); refine wpQuiet_nil ?_; rintro _ ⟨⟨x, hx⟩, rfl⟩; clear hN r0 r1 r2 r3 r4)
        go_wp2_with fail
        go_ret
        exact ⟨ret_bool (by simp [holdB, hb, h1, h2]), hx.old⟩
      · have g2 : decide (now ≤ 1099511627776) = false := by simpa using h2
        go_enter Tryd.func12, Tryd.ntmps12
        go_wp2_with fail
        (refine wp_region_s (S := Box5 w w.heap.size (.string p) (.int .i64 f) (.int .i64 s) (.int .i64 t) (.int .i64 d)) (by kernel_rfl) (by kernel_rfl) hS ?_; have hN : Nonempty (Held (Box5 w w.heap.size (.string p) (.int .i64 f) (.int .i64 s) (.int .i64 t) (.int .i64 d))) := ⟨⟨_, hS⟩⟩; have r0 := fun y : Held (Box5 w w.heap.size (.string p) (.int .i64 f) (.int .i64 s) (.int .i64 t) (.int .i64 d)) => y.ok.c0; have r1 := fun y : Held (Box5 w w.heap.size (.string p) (.int .i64 f) (.int .i64 s) (.int .i64 t) (.int .i64 d)) => y.ok.c1; have r2 := fun y : Held (Box5 w w.heap.size (.string p) (.int .i64 f) (.int .i64 s) (.int .i64 t) (.int .i64 d)) => y.ok.c2; have r3 := fun y : Held (Box5 w w.heap.size (.string p) (.int .i64 f) (.int .i64 s) (.int .i64 t) (.int .i64 d)) => y.ok.c3; have r4 := fun y : Held (Box5 w w.heap.size (.string p) (.int .i64 f) (.int .i64 s) (.int .i64 t) (.int .i64 d)) => y.ok.c4; (repeat (go_big_quiet_step ((go_at_call 34; exact held_below (fun _ _ h h' => h.below h') (rsound_is _ hs (hg.below (Box5.old (Held.ok _))) hb))))); refine wpQuiet_nil ?_; rintro _ ⟨⟨x, hx⟩, rfl⟩; clear hN r0 r1 r2 r3 r4)
        go_wp2_with fail
        go_ret
        exact ⟨ret_bool (by simp [holdB, hb]; omega), hx.old⟩
    · have g1 : decide (s ≤ now) = false := by simpa using h1
      go_enter Tryd.func12, Tryd.ntmps12
      go_wp2_with fail
      (refine wp_region_s (S := Box5 w w.heap.size (.string p) (.int .i64 f) (.int .i64 s) (.int .i64 t) (.int .i64 d)) (by kernel_rfl) (by kernel_rfl) hS ?_; have hN : Nonempty (Held (Box5 w w.heap.size (.string p) (.int .i64 f) (.int .i64 s) (.int .i64 t) (.int .i64 d))) := ⟨⟨_, hS⟩⟩; have r0 := fun y : Held (Box5 w w.heap.size (.string p) (.int .i64 f) (.int .i64 s) (.int .i64 t) (.int .i64 d)) => y.ok.c0; have r1 := fun y : Held (Box5 w w.heap.size (.string p) (.int .i64 f) (.int .i64 s) (.int .i64 t) (.int .i64 d)) => y.ok.c1; have r2 := fun y : Held (Box5 w w.heap.size (.string p) (.int .i64 f) (.int .i64 s) (.int .i64 t) (.int .i64 d)) => y.ok.c2; have r3 := fun y : Held (Box5 w w.heap.size (.string p) (.int .i64 f) (.int .i64 s) (.int .i64 t) (.int .i64 d)) => y.ok.c3; have r4 := fun y : Held (Box5 w w.heap.size (.string p) (.int .i64 f) (.int .i64 s) (.int .i64 t) (.int .i64 d)) => y.ok.c4; (repeat (go_big_quiet_step ((go_at_call 34; exact held_below (fun _ _ h h' => h.below h') (rsound_is _ hs (hg.below (Box5.old (Held.ok _))) hb))))); refine wpQuiet_nil ?_; rintro _ ⟨⟨x, hx⟩, rfl⟩; clear hN r0 r1 r2 r3 r4)
      go_wp2_with fail
      go_ret
      exact ⟨ret_bool (by simp [holdB, hb]; omega), hx.old⟩
theorem rholding_is {p : ByteArray} {f s t d now : Int} {b : Bool} (w : World) (hs : p.size < 4294967281) (hg : G0 w) (hb : holdB ⟨p, f, s, t, d⟩ now = b) :
    Calls Tryd.prog 12 #[.agg #[.string p, .int .i64 f, .int .i64 s, .int .i64 t, .int .i64 d], .int .i64 now] w fun e w' => e = .returned (.bool b) ∧ Below w.heap.size w w' := by
  have := rholding_any p f s t d now w hs hg
  rw [hb] at this
  exact this

theorem hold_dec (c : Claim) (m : Int) (hs : soundB c = true) (h : c.sent ≤ m) : holdB c m = decide (m < endI c) := by
  rw [Bool.eq_iff_iff, hold_iff, decide_eq_true_eq]
  unfold endI
  constructor
  · rintro ⟨_, _, h3⟩; omega
  · intro h3; exact ⟨hs, h, by omega⟩
theorem end_bd {p : ByteArray} {f s t d : Int} (hs : soundB ⟨p, f, s, t, d⟩ = true) : s ≤ endI ⟨p, f, s, t, d⟩ ∧ endI ⟨p, f, s, t, d⟩ ≤ s + t := by
  obtain ⟨_, _, hs0, hs1, ht0, ht1, hd0, hd1⟩ := sound_parts hs
  have hk := (ticks_spec t d hd0).1
  simp only [endI, spanI]
  omega

set_option maxHeartbeats 800000 in
theorem rend_fn (p : ByteArray) (f s t d : Int) (w : World) (hs : p.size < 4294967281) (hg : G0 w) (hb : soundB ⟨p, f, s, t, d⟩ = true) :
    Calls Tryd.prog 38 #[.agg #[.string p, .int .i64 f, .int .i64 s, .int .i64 t, .int .i64 d]] w fun e w' => e = .returned (.int .i64 (endI ⟨p, f, s, t, d⟩)) ∧ Below w.heap.size w w' := by
  obtain ⟨_, _, hs0, hs1, ht0, ht1, hd0, hd1⟩ := sound_parts hb
  obtain ⟨he0, he1⟩ := end_bd hb
  obtain ⟨E, hE⟩ : ∃ E, endI ⟨p, f, s, t, d⟩ = E := ⟨_, rfl⟩
  rw [hE] at he0 he1 ⊢
  have HD : Hid (∀ m, s ≤ m → holdB ⟨p, f, s, t, d⟩ m = decide (m < E)) := fun m hm => by rw [hold_dec _ m hb hm, hE]
  clear hE
  have kn := Box5.new w (.string p) (.int .i64 f) (.int .i64 s) (.int .i64 t) (.int .i64 d) 23
  go_enter Tryd.func38, Tryd.ntmps38
  go_wp2_with fail
  go_quiet (fail)
  go_wp2_with fail
  have hk0 : Box5 w w.heap.size (.string p) (.int .i64 f) (.int .i64 s) (.int .i64 t) (.int .i64 d) ((w.alloc (.cells #[.string p, .int .i64 f, .int .i64 s, .int .i64 t, .int .i64 d] 23)).drewN nq) := ⟨kn.c0, kn.c1, kn.c2, kn.c3, kn.c4, kn.lt, below_drewN kn.old nq, kn.fz⟩
  clear kn
  go_loopw [3, 4] (fun i j wr => ∃ a c : Int, s ≤ a ∧ a ≤ E ∧ E ≤ c ∧ c ≤ s + t ∧ i = .int .i64 a ∧ j = .int .i64 c ∧ Box5 w w.heap.size (.string p) (.int .i64 f) (.int .i64 s) (.int .i64 t) (.int .i64 d) wr) (fun i j _ => (intOf j - intOf i).toNat)
  case atStart => exact ⟨s, s + t, by omega, by omega, by omega, by omega, rfl, rfl, hk0⟩
  case round =>
    clear hk0
    obtain ⟨a, c, h0, h1, h2, h3, rfl, rfl, hk⟩ := hrel
    by_cases hlt : a < c
    · have hm := Lib.hid (HD.out ((a + c) / 2) (by omega))
      have hk' := hk
      obtain ⟨c0, c1, c2, c3, c4, _, _, _⟩ := hk'
      by_cases hc : (a + c) / 2 < E
      · have hm1 : Hid (holdB ⟨p, f, s, t, d⟩ ((a + c) / 2) = true) := by
          show _ = true
          rw [hm.out]; simpa using hc
        go_wp2_with fail
        refine (rholding_is _ hs (hg.below hk.old) hm1.out).mono ?_
        rintro e w2 ⟨rfl, HB2⟩
        have k2 := hk.below HB2
        clear c0 c1 c2 c3 c4
        go_wp2_with fail
        go_roundw
        case rel => exact ⟨(a + c) / 2 + 1, c, by omega, by omega, by omega, by omega, rfl, rfl, k2⟩
        case measure => simp [intOf]; omega
      · have hm1 : Hid (holdB ⟨p, f, s, t, d⟩ ((a + c) / 2) = false) := by
          show _ = false
          rw [hm.out]; simpa using hc
        go_wp2_with fail
        refine (rholding_is _ hs (hg.below hk.old) hm1.out).mono ?_
        rintro e w2 ⟨rfl, HB2⟩
        have k2 := hk.below HB2
        clear c0 c1 c2 c3 c4
        go_wp2_with fail
        go_roundw
        case rel => exact ⟨a, (a + c) / 2, by omega, by omega, by omega, by omega, rfl, rfl, k2⟩
        case measure => simp [intOf]; omega
    · have hae : a = E := by omega
      have HE := Lib.hid hae
      clear hae
      go_wp2_with fail
      go_ret
      exact ⟨ret_int HE.out, hk.old⟩

set_option maxHeartbeats 800000 in
theorem rleft_any (p : ByteArray) (f s t d now : Int) (w : World) (hs : p.size < 4294967281) (hg : G0 w) :
    Calls Tryd.prog 14 #[.agg #[.string p, .int .i64 f, .int .i64 s, .int .i64 t, .int .i64 d], .int .i64 now] w fun e w' => e = .returned (.int .i64 (leftI ⟨p, f, s, t, d⟩ now)) ∧ Below w.heap.size w w' := by
  have hg1 := hg.below ((Below.refl w.heap.size w).alloc (Nat.le_refl _) (.cells #[.string p, .int .i64 f, .int .i64 s, .int .i64 t, .int .i64 d] 23))
  cases hb : holdB ⟨p, f, s, t, d⟩ now
  · have H0 := Lib.hid (show leftI ⟨p, f, s, t, d⟩ now = 0 by simp [leftI, hb])
    go_enter Tryd.func14, Tryd.ntmps14
    go_wp2_with (go_at_call 12; refine (rholding_is _ hs hg1 hb).mono ?_; rintro e w' ⟨rfl, HB⟩; obtain ⟨hc, hf⟩ := bcell HB; have hz := HB.size; (try simp at hz))
    go_ret
    refine ⟨ret_int H0.out.symm, ?_⟩
    (repeat (first | (with_reducible exact Below.refl _ _) | (with_reducible assumption) | (with_reducible refine Below.setCell ?_ ?_ _; rotate_left; focus (first | exact Nat.le_refl _ | (dsimp only; omega))) | (with_reducible refine Below.drew ?_) | (with_reducible refine below_drewN ?_ _) | (with_reducible refine Below.alloc ?_ ?_ _; rotate_left; focus (first | exact Nat.le_refl _ | (simp; done) | (simp; omega))) | (with_reducible refine Below.trans ?_ (HB.mono ?_); rotate_left; focus (first | exact Nat.le_refl _ | (simp; done) | (simp; omega)))))
  · obtain ⟨hs', h1, h2, h3⟩ := hold_parts hb
    obtain ⟨_, _, hs0, hs1, ht0, ht1, hd0, hd1⟩ := sound_parts hs'
    have H0 := Lib.hid (show leftI ⟨p, f, s, t, d⟩ now = endI ⟨p, f, s, t, d⟩ - now by simp [leftI, hb, endI]; omega)
    obtain ⟨he0, he1⟩ := end_bd hs'
    clear h3
    go_enter Tryd.func14, Tryd.ntmps14
    go_wp2_with fail
    refine (rholding_is _ hs hg1 hb).mono ?_
    rintro e w' ⟨rfl, HB⟩
    have k := (Box5.new w (.string p) (.int .i64 f) (.int .i64 s) (.int .i64 t) (.int .i64 d) 23).below HB
    (have k' := k; obtain ⟨c0, c1, c2, c3, c4, lt_k, _, fz_k⟩ := k')
    go_wp2_with fail
    refine (rend_fn p f s t d _ hs (hg.below k.old) hs').mono ?_
    rintro e w2 ⟨rfl, HB2⟩
    go_wp2_with fail
    go_ret
    exact ⟨ret_int H0.out.symm, (k.below HB2).old⟩

set_option maxHeartbeats 400000 in
theorem rrenewed_no1 (p : ByteArray) (f s t d sent term : Int) (w : World) (hs : p.size < 4294967281) (hg : G0 w) (hb : soundB ⟨p, f, s, t, d⟩ = false) :
    Calls Tryd.prog 16 #[.agg #[.string p, .int .i64 f, .int .i64 s, .int .i64 t, .int .i64 d], .int .i64 sent, .int .i64 term] w fun e w' => e = .returned (.tuple #[.agg #[.string ⟨#[]⟩, .int .i64 0, .int .i64 0, .int .i64 0, .int .i64 0], .int .i64 200]) ∧ Below w.heap.size w w' := by
  go_enter Tryd.func16, Tryd.ntmps16
  go_wp2_with fail
  (refine (rsound_is _ hs (hg.below (Ren.new w p f s t d sent term).c.old) hb).mono ?_; rintro e w1 ⟨rfl, HB⟩; obtain ⟨hc, hf⟩ := bcell HB)
  go_wp2_with fail
  have k := ((Box5.new1 w (.cells #[.string p, .int .i64 f, .int .i64 s, .int .i64 t, .int .i64 d] 23) (.string ⟨#[]⟩) (.int .i64 0) (.int .i64 0) (.int .i64 0) (.int .i64 0) 23).alloc _).below HB
  have ho := k.old
  refine bodyPost_ret (v := .tuple #[.agg #[.string ⟨#[]⟩, .int .i64 0, .int .i64 0, .int .i64 0, .int .i64 0], .int .i64 200]) (by simp [results, Tryd.results16, go_sem, k.c0, k.c1, k.c2, k.c3, k.c4]) rfl ⟨rfl, ?_⟩
  (repeat (first | (with_reducible exact Below.refl _ _) | (with_reducible assumption) | (with_reducible refine Below.setCell ?_ ?_ _; rotate_left; focus (first | exact Nat.le_refl _ | (dsimp only; omega))) | (with_reducible refine Below.drew ?_) | (with_reducible refine below_drewN ?_ _) | (with_reducible refine Below.alloc ?_ ?_ _; rotate_left; focus (first | exact Nat.le_refl _ | (simp; done) | (simp; omega))) | (with_reducible refine Below.trans ?_ (HB.mono ?_); rotate_left; focus (first | exact Nat.le_refl _ | (simp; done) | (simp; omega)))))

set_option maxHeartbeats 400000 in
theorem rrenewed_no2 (p : ByteArray) (f s t d sent term : Int) (w : World) (hs : p.size < 4294967281) (hg : G0 w) (hb : soundB ⟨p, f, s, t, d⟩ = true) (hlt : sent < s) :
    Calls Tryd.prog 16 #[.agg #[.string p, .int .i64 f, .int .i64 s, .int .i64 t, .int .i64 d], .int .i64 sent, .int .i64 term] w fun e w' => e = .returned (.tuple #[.agg #[.string ⟨#[]⟩, .int .i64 0, .int .i64 0, .int .i64 0, .int .i64 0], .int .i64 200]) ∧ Below w.heap.size w w' := by
  go_enter Tryd.func16, Tryd.ntmps16
  go_wp2_with fail
  (refine (rsound_is _ hs (hg.below (Ren.new w p f s t d sent term).c.old) hb).mono ?_; rintro e w1 ⟨rfl, HB⟩; obtain ⟨hc, hf⟩ := bcell HB)
  go_wp2_with fail
  have k := ((Box5.new1 w (.cells #[.string p, .int .i64 f, .int .i64 s, .int .i64 t, .int .i64 d] 23) (.string ⟨#[]⟩) (.int .i64 0) (.int .i64 0) (.int .i64 0) (.int .i64 0) 23).alloc _).below HB
  have ho := k.old
  refine bodyPost_ret (v := .tuple #[.agg #[.string ⟨#[]⟩, .int .i64 0, .int .i64 0, .int .i64 0, .int .i64 0], .int .i64 200]) (by simp [results, Tryd.results16, go_sem, k.c0, k.c1, k.c2, k.c3, k.c4]) rfl ⟨rfl, ?_⟩
  (repeat (first | (with_reducible exact Below.refl _ _) | (with_reducible assumption) | (with_reducible refine Below.setCell ?_ ?_ _; rotate_left; focus (first | exact Nat.le_refl _ | (dsimp only; omega))) | (with_reducible refine Below.drew ?_) | (with_reducible refine below_drewN ?_ _) | (with_reducible refine Below.alloc ?_ ?_ _; rotate_left; focus (first | exact Nat.le_refl _ | (simp; done) | (simp; omega))) | (with_reducible refine Below.trans ?_ (HB.mono ?_); rotate_left; focus (first | exact Nat.le_refl _ | (simp; done) | (simp; omega)))))

set_option maxHeartbeats 400000 in
theorem rrenewed_no3 (p : ByteArray) (f s t d sent term : Int) (w : World) (hs : p.size < 4294967281) (hg : G0 w) (hb : soundB ⟨p, f, s, t, d⟩ = true) (hlt : s ≤ sent) (hb2 : soundB ⟨p, f, sent, term, d⟩ = false) :
    Calls Tryd.prog 16 #[.agg #[.string p, .int .i64 f, .int .i64 s, .int .i64 t, .int .i64 d], .int .i64 sent, .int .i64 term] w fun e w' => e = .returned (.tuple #[.agg #[.string ⟨#[]⟩, .int .i64 0, .int .i64 0, .int .i64 0, .int .i64 0], .int .i64 200]) ∧ Below w.heap.size w w' := by
  go_enter Tryd.func16, Tryd.ntmps16
  go_wp2_with fail
  (refine (rsound_is _ hs (hg.below (Ren.new w p f s t d sent term).c.old) hb).mono ?_; rintro e w1 ⟨rfl, HB⟩; obtain ⟨hc, hf⟩ := bcell HB)
  go_wp2_with fail
  (refine (rsound_is _ hs (hg.below ((Ren.new w p f s t d sent term).below HB).c.old) hb2).mono ?_; rintro e w2 ⟨rfl, HB2⟩; have HC := HB.trans (HB2.mono HB.size); clear hc hf; obtain ⟨hc, hf⟩ := bcell HC)
  go_wp2_with fail
  have k := ((Box5.new1 w (.cells #[.string p, .int .i64 f, .int .i64 s, .int .i64 t, .int .i64 d] 23) (.string ⟨#[]⟩) (.int .i64 0) (.int .i64 0) (.int .i64 0) (.int .i64 0) 23).alloc _).below HC
  have ho := k.old
  refine bodyPost_ret (v := .tuple #[.agg #[.string ⟨#[]⟩, .int .i64 0, .int .i64 0, .int .i64 0, .int .i64 0], .int .i64 200]) (by simp [results, Tryd.results16, go_sem, k.c0, k.c1, k.c2, k.c3, k.c4]) rfl ⟨rfl, ?_⟩
  (repeat (first | (with_reducible exact Below.refl _ _) | (with_reducible assumption) | (with_reducible refine Below.setCell ?_ ?_ _; rotate_left; focus (first | exact Nat.le_refl _ | (dsimp only; omega))) | (with_reducible refine Below.drew ?_) | (with_reducible refine below_drewN ?_ _) | (with_reducible refine Below.alloc ?_ ?_ _; rotate_left; focus (first | exact Nat.le_refl _ | (simp; done) | (simp; omega))) | (with_reducible refine Below.trans ?_ (HB.mono ?_); rotate_left; focus (first | exact Nat.le_refl _ | (simp; done) | (simp; omega)))))

set_option maxHeartbeats 400000 in
theorem rrenewed_new (p : ByteArray) (f s t d sent term : Int) (w : World) (hs : p.size < 4294967281) (hg : G0 w) (hb : soundB ⟨p, f, s, t, d⟩ = true) (hlt : s ≤ sent) (hb2 : soundB ⟨p, f, sent, term, d⟩ = true) (hge : endI ⟨p, f, s, t, d⟩ ≤ endI ⟨p, f, sent, term, d⟩) :
    Calls Tryd.prog 16 #[.agg #[.string p, .int .i64 f, .int .i64 s, .int .i64 t, .int .i64 d], .int .i64 sent, .int .i64 term] w fun e w' => e = .returned (.tuple #[.agg #[.string p, .int .i64 f, .int .i64 sent, .int .i64 term, .int .i64 d], .int .i64 0]) ∧ Below w.heap.size w w' := by
  go_enter Tryd.func16, Tryd.ntmps16
  go_wp2_with fail
  (refine (rsound_is _ hs (hg.below (Ren.new w p f s t d sent term).c.old) hb).mono ?_; rintro e w1 ⟨rfl, HB⟩; obtain ⟨hc, hf⟩ := bcell HB)
  go_wp2_with fail
  (refine (rsound_is _ hs (hg.below ((Ren.new w p f s t d sent term).below HB).c.old) hb2).mono ?_; rintro e w2 ⟨rfl, HB2⟩; have HC := HB.trans (HB2.mono HB.size); clear hc hf; obtain ⟨hc, hf⟩ := bcell HC)
  go_wp2_with fail
  have hS : Ren w p f s t d sent term w2.drew := ⟨((Ren.new w p f s t d sent term).below HC).c.drew, ((Ren.new w p f s t d sent term).below HC).r.drew, ((Ren.new w p f s t d sent term).below HC).l.drew⟩
  (refine wp_region_s (S := Ren w p f s t d sent term) (by kernel_rfl) (by kernel_rfl) hS ?_; have hN : Nonempty (Held (Ren w p f s t d sent term)) := ⟨⟨_, hS⟩⟩; (have r0 := fun y : Held (Ren w p f s t d sent term) => y.ok.c.c0; have r1 := fun y : Held (Ren w p f s t d sent term) => y.ok.c.c1; have r2 := fun y : Held (Ren w p f s t d sent term) => y.ok.c.c2; have r3 := fun y : Held (Ren w p f s t d sent term) => y.ok.c.c3; have r4 := fun y : Held (Ren w p f s t d sent term) => y.ok.c.c4; have q0 := fun y : Held (Ren w p f s t d sent term) => y.ok.l.c0; have q1 := fun y : Held (Ren w p f s t d sent term) => y.ok.l.c1; have q2 := fun y : Held (Ren w p f s t d sent term) => y.ok.l.c2; have q3 := fun y : Held (Ren w p f s t d sent term) => y.ok.l.c3; have q4 := fun y : Held (Ren w p f s t d sent term) => y.ok.l.c4); (repeat (go_big_quiet_step ((go_at_call 38; refine held_below (fun _ _ h h' => h.below h') (rend_fn _ _ _ _ _ _ hs (hg.below (Ren.c (Held.ok _)).old) ?_); first | exact hb | exact hb2)))); refine wpQuiet_nil ?_; rintro _ ⟨⟨x, hx⟩, rfl⟩; clear hN)
  clear r0 q0 r1 q1 r2 q2 r3 q3 r4 q4
  have k := hx.r
  have ho := k.old
  have hrc0 := hx.c.c0
  have hrc1 := hx.c.c1
  have hrc2 := hx.c.c2
  have hrc3 := hx.c.c3
  have hrc4 := hx.c.c4
  have hrl0 := hx.l.c0
  have hrl1 := hx.l.c1
  have hrl2 := hx.l.c2
  have hrl3 := hx.l.c3
  have hrl4 := hx.l.c4
  have hfz := k.fz
  have hrr0 := k.c0
  have hrr1 := k.c1
  have hrr2 := k.c2
  have hrr3 := k.c3
  have hrr4 := k.c4
  go_wp2_with fail
  refine bodyPost_ret (v := .tuple #[.agg #[.string p, .int .i64 f, .int .i64 sent, .int .i64 term, .int .i64 d], .int .i64 0]) (by simp [results, Tryd.results16, go_sem, k.c0, k.c1, k.c2, k.c3, k.c4]) rfl ⟨rfl, ?_⟩
  (repeat (first | (with_reducible exact Below.refl _ _) | (with_reducible assumption) | (with_reducible refine Below.setCell ?_ ?_ _; rotate_left; focus (first | exact Nat.le_refl _ | (dsimp only; omega))) | (with_reducible refine Below.drew ?_) | (with_reducible refine below_drewN ?_ _) | (with_reducible refine Below.alloc ?_ ?_ _; rotate_left; focus (first | exact Nat.le_refl _ | (simp; done) | (simp; omega))) | (with_reducible refine Below.trans ?_ (HB.mono ?_); rotate_left; focus (first | exact Nat.le_refl _ | (simp; done) | (simp; omega)))))

set_option maxHeartbeats 400000 in
theorem rrenewed_old (p : ByteArray) (f s t d sent term : Int) (w : World) (hs : p.size < 4294967281) (hg : G0 w) (hb : soundB ⟨p, f, s, t, d⟩ = true) (hlt : s ≤ sent) (hb2 : soundB ⟨p, f, sent, term, d⟩ = true) (hge : endI ⟨p, f, sent, term, d⟩ < endI ⟨p, f, s, t, d⟩) :
    Calls Tryd.prog 16 #[.agg #[.string p, .int .i64 f, .int .i64 s, .int .i64 t, .int .i64 d], .int .i64 sent, .int .i64 term] w fun e w' => e = .returned (.tuple #[.agg #[.string p, .int .i64 f, .int .i64 s, .int .i64 t, .int .i64 d], .int .i64 0]) ∧ Below w.heap.size w w' := by
  go_enter Tryd.func16, Tryd.ntmps16
  go_wp2_with fail
  (refine (rsound_is _ hs (hg.below (Ren.new w p f s t d sent term).c.old) hb).mono ?_; rintro e w1 ⟨rfl, HB⟩; obtain ⟨hc, hf⟩ := bcell HB)
  go_wp2_with fail
  (refine (rsound_is _ hs (hg.below ((Ren.new w p f s t d sent term).below HB).c.old) hb2).mono ?_; rintro e w2 ⟨rfl, HB2⟩; have HC := HB.trans (HB2.mono HB.size); clear hc hf; obtain ⟨hc, hf⟩ := bcell HC)
  go_wp2_with fail
  have hS : Ren w p f s t d sent term w2.drew := ⟨((Ren.new w p f s t d sent term).below HC).c.drew, ((Ren.new w p f s t d sent term).below HC).r.drew, ((Ren.new w p f s t d sent term).below HC).l.drew⟩
  (refine wp_region_s (S := Ren w p f s t d sent term) (by kernel_rfl) (by kernel_rfl) hS ?_; have hN : Nonempty (Held (Ren w p f s t d sent term)) := ⟨⟨_, hS⟩⟩; (have r0 := fun y : Held (Ren w p f s t d sent term) => y.ok.c.c0; have r1 := fun y : Held (Ren w p f s t d sent term) => y.ok.c.c1; have r2 := fun y : Held (Ren w p f s t d sent term) => y.ok.c.c2; have r3 := fun y : Held (Ren w p f s t d sent term) => y.ok.c.c3; have r4 := fun y : Held (Ren w p f s t d sent term) => y.ok.c.c4; have q0 := fun y : Held (Ren w p f s t d sent term) => y.ok.l.c0; have q1 := fun y : Held (Ren w p f s t d sent term) => y.ok.l.c1; have q2 := fun y : Held (Ren w p f s t d sent term) => y.ok.l.c2; have q3 := fun y : Held (Ren w p f s t d sent term) => y.ok.l.c3; have q4 := fun y : Held (Ren w p f s t d sent term) => y.ok.l.c4); (repeat (go_big_quiet_step ((go_at_call 38; refine held_below (fun _ _ h h' => h.below h') (rend_fn _ _ _ _ _ _ hs (hg.below (Ren.c (Held.ok _)).old) ?_); first | exact hb | exact hb2)))); refine wpQuiet_nil ?_; rintro _ ⟨⟨x, hx⟩, rfl⟩; clear hN)
  clear r0 q0 r1 q1 r2 q2 r3 q3 r4 q4
  have k := hx.r
  have ho := k.old
  have hrc0 := hx.c.c0
  have hrc1 := hx.c.c1
  have hrc2 := hx.c.c2
  have hrc3 := hx.c.c3
  have hrc4 := hx.c.c4
  have hrl0 := hx.l.c0
  have hrl1 := hx.l.c1
  have hrl2 := hx.l.c2
  have hrl3 := hx.l.c3
  have hrl4 := hx.l.c4
  have hfz := k.fz
  have hrr0 := k.c0
  have hrr1 := k.c1
  have hrr2 := k.c2
  have hrr3 := k.c3
  have hrr4 := k.c4
  go_wp2_with fail
  refine bodyPost_ret (v := .tuple #[.agg #[.string p, .int .i64 f, .int .i64 s, .int .i64 t, .int .i64 d], .int .i64 0]) (by simp [results, Tryd.results16, go_sem, k.c0, k.c1, k.c2, k.c3, k.c4]) rfl ⟨rfl, ?_⟩
  (repeat (first | (with_reducible exact Below.refl _ _) | (with_reducible assumption) | (with_reducible refine Below.setCell ?_ ?_ _; rotate_left; focus (first | exact Nat.le_refl _ | (dsimp only; omega))) | (with_reducible refine Below.drew ?_) | (with_reducible refine below_drewN ?_ _) | (with_reducible refine Below.alloc ?_ ?_ _; rotate_left; focus (first | exact Nat.le_refl _ | (simp; done) | (simp; omega))) | (with_reducible refine Below.trans ?_ (HB.mono ?_); rotate_left; focus (first | exact Nat.le_refl _ | (simp; done) | (simp; omega)))))

end Go.Proofs.YtnehjnaecgpkmaaDoor
