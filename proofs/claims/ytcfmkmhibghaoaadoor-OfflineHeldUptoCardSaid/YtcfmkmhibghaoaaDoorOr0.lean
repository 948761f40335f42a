/-
  Of package offline and its reference what the laws of Return need: Sound and the sanity check.
-/
import Derived.Test.YtcfmkmhibghaoaaDoorUse
import Derived.Test.YtcfmkmhibghaoaaDoorOff
namespace Go.Proofs.YtcfmkmhibghaoaaDoor
open Go.RowKit

theorem left_is {p : ByteArray} {f s t d now n : Int} (w : World) (h : leftI ⟨p, f, s, t, d⟩ now = n) :
    Calls Tryd.prog 18 #[.agg #[.string p, .int .i64 f, .int .i64 s, .int .i64 t, .int .i64 d], .int .i64 now] w fun e w' => e = .returned (.int .i64 n) ∧ Below w.heap.size w w' := by
  have := left_any p f s t d now w
  rw [h] at this
  exact this

def axB : ByteArray := ⟨#[47, 47, 97, 47, 120]⟩
theorem ax_sound : soundB ⟨axB, 1, 100, 10, 500⟩ = true := by decide
theorem ax_h1 : holdB ⟨axB, 1, 100, 10, 500⟩ 105 = true := by decide
theorem ax_h2 : holdB ⟨axB, 1, 100, 10, 500⟩ 106 = false := by decide
theorem ax_l : leftI ⟨axB, 1, 100, 10, 500⟩ 100 = 6 := by decide

set_option maxHeartbeats 400000 in
theorem awake20_any (w : World) : Calls Tryd.prog 6 #[] w fun e w' => e = .returned (.bool true) ∧ Below w.heap.size w w' := by
  go_enter Tryd.func6, Tryd.ntmps6
  go_wp2_with fail
  refine (begin_yes _ _ _ _ _ _ ax_sound).mono ?_
  rintro e w1 ⟨rfl, HB⟩
  go_wp2_with fail
  refine (holding_is _ ax_h1).mono ?_
  rintro e w2 ⟨rfl, HB2⟩
  have k := (Box5.new w1 (.string axB) (.int .i64 1) (.int .i64 100) (.int .i64 10) (.int .i64 500) 24).below HB2
  have k' := k
  obtain ⟨c0, c1, c2, c3, c4, _, _, _⟩ := k'
  go_wp2_with fail
  refine (holding_is _ ax_h2).mono ?_
  rintro e w3 ⟨rfl, HB3⟩
  clear c0 c1 c2 c3 c4
  have k3 := k.below HB3
  have k3' := k3
  obtain ⟨c0, c1, c2, c3, c4, _, _, _⟩ := k3'
  go_wp2_with fail
  refine (left_is _ ax_l).mono ?_
  rintro e w4 ⟨rfl, HB4⟩
  go_wp2_with fail
  go_ret
  exact ⟨rfl, HB.trans (((k3.below HB4).old).mono HB.size)⟩

theorem soundB_use (p : ByteArray) (f s t d : Int) : soundB ⟨p, f, s, t, d⟩ = (useB p && decide (1 ≤ f) && decide (0 ≤ s) && decide (s ≤ 1099511627776) && decide (1 ≤ t) && decide (t ≤ 1048576) && decide (0 ≤ d) && decide (d ≤ 500)) := rfl

set_option maxHeartbeats 800000 in
theorem rsound_any (p : ByteArray) (f s t d : Int) (w : World) (hs : p.size < 4294967281) (hg : G0 w) :
    Calls Tryd.prog 22 #[.agg #[.string p, .int .i64 f, .int .i64 s, .int .i64 t, .int .i64 d]] w fun e w' => e = .returned (.bool (soundB ⟨p, f, s, t, d⟩)) ∧ Below w.heap.size w w' := by
  have hg1 := hg.below ((Below.refl w.heap.size w).alloc (Nat.le_refl _) (.cells #[.string p, .int .i64 f, .int .i64 s, .int .i64 t, .int .i64 d] 24))
  rw [soundB_use]
  cases hv : useB p
  · have HV := Lib.hid hv
    clear hv
    go_enter Tryd.func22, Tryd.ntmps22
    go_wp2_with fail
    refine (usable_any _ _ hs hg1).mono ?_
    rw [HV.out]
    rintro e w1 ⟨rfl, HB⟩
    have k := (Box5.new w (.string p) (.int .i64 f) (.int .i64 s) (.int .i64 t) (.int .i64 d) 24).below HB
    go_wp2_with fail
    go_ret
    exact ⟨ret_bool (by simp), k.old⟩
  · have HV := Lib.hid hv
    clear hv
    go_enter Tryd.func22, Tryd.ntmps22
    go_wp2_with fail
    refine (usable_any _ _ hs hg1).mono ?_
    rw [HV.out]
    rintro e w1 ⟨rfl, HB⟩
    have k := (Box5.new w (.string p) (.int .i64 f) (.int .i64 s) (.int .i64 t) (.int .i64 d) 24).below HB
    (have k' := k; obtain ⟨c0, c1, c2, c3, c4, lt_k, _, fz_k⟩ := k')
    go_wp2_with fail
    all_goals (go_ret; refine ⟨ret_bool ?_, k.old⟩; rw [Bool.eq_iff_iff]; simp <;> omega)
theorem rsound_is {p : ByteArray} {f s t d : Int} {b : Bool} (w : World) (hs : p.size < 4294967281) (hg : G0 w) (hb : soundB ⟨p, f, s, t, d⟩ = b) :
    Calls Tryd.prog 22 #[.agg #[.string p, .int .i64 f, .int .i64 s, .int .i64 t, .int .i64 d]] w fun e w' => e = .returned (.bool b) ∧ Below w.heap.size w w' := by
  have := rsound_any p f s t d w hs hg
  rw [hb] at this
  exact this

end Go.Proofs.YtcfmkmhibghaoaaDoor
