/-
  Lose and Restart.
-/
import Derived.Test.YthjbaafbkalomaaDecide
import Derived.Test.YthjbaafbkalomaaCut2
namespace Go.Proofs.Ythjbaafbkalomaa
open Go.RowKit

set_option maxRecDepth 100000 in
theorem decide0_any (d : Nat) (g : Gh) (w : World) (D : Dev) (hD : DevAt g w d D) (kp tn : Int) (hne : D.pend.length = 0) :
    Calls Try.prog 44 #[.pointer (some ⟨d, 0, none⟩), .agg #[.int .i64 kp, .int .i64 tn]] w fun e w' => e = .returned (.tuple #[]) ∧ SameP g w w' := by
  obtain ⟨km, nm, A, cap, xs, hb, hi⟩ := hD
  have hx0 := Ext.box (fun _ => False) g w (.cells #[.int .i64 kp, .int .i64 tn] 51)
  have hb1 := hb.ext hx0 (fun h => h)
  have c2 : (w.alloc (.cells #[.int .i64 kp, .int .i64 tn] 51)).cell? ⟨d, 2, none⟩ = some (.slice A 0 cap) := (hb1.cell 2).trans (by simp [devCs, hne])
  have HX := Lib.hid hx0
  clear hx0 hb1 hb hi
  go_enter Try.func44, Try.ntmps44
  go_wp2_with fail
  refine bodyPost_ret (results_none rfl _ _ _) rfl ?_
  exact ⟨rfl, _, HX.out⟩

/-- What decide asks of the device. -/
structure Fit (D : Dev) : Prop where
  pl : D.pend.length ≤ 1000000
  ops : ∀ k (hk : k < D.pend.length), Fits (runs D.kept (D.pend.take k)) D.pend[k]
  len : ∀ k l, D.kept.m k = some l → l.length ≤ 8388608
  n : D.kept.n ≤ 1000000
theorem decideL (d : Nat) (g : Gh) (w : World) (D : Dev) (hD : DevAt g w d D) (hF : Fit D) (kp tn : Int) (hk0 : -9223372036854775808 ≤ kp) (hk1 : kp ≤ 9223372036854775807) :
    Calls Try.prog 44 #[.pointer (some ⟨d, 0, none⟩), .agg #[.int .i64 kp, .int .i64 tn]] w fun e w' => e = .returned (.tuple #[]) ∧ DevP d g w (lossD D kp tn) w' := by
  by_cases h : D.pend.length = 0
  · refine (decide0_any d g w D hD kp tn h).mono ?_
    rintro e w' ⟨h1, g', hx⟩
    have : lossD D kp tn = D := by unfold lossD; rw [if_pos h]
    rw [this]
    exact ⟨h1, g', hx.imp (fun _ h => h.elim), hD.ext hx (fun h => h)⟩
  · exact decide_any d g w D hD kp tn h hF.pl hF.ops hF.len hF.n hk0 hk1

/-- The device's own block is written. -/
theorem DevAt.stored {d : Nat} {g : Gh} {w w' : World} {km nm : Nat} {A : Option Addr} {cap : Nat} {xs : List Value} {D : Dev} {dn : Bool} {fu : Int} (hb : Blk d 63 (devCs km nm A cap D) w) (hi : DevIn g w d km nm A cap xs D) (hg : w.grownBy w' (some d)) (hB : Blk d 63 (devCs km nm A cap { D with down := dn, fuse := fu }) w') (h0 : 0 ≤ fu) (h1 : fu ≤ 4611686018427387904) : DevP d g w { D with down := dn, fuse := fu } w' := by
  obtain ⟨hx, hi'⟩ := hi.self hb hg
  exact ⟨g, hx, km, nm, A, cap, xs, hB, hi'.fused (dn := dn) h0 h1⟩

def downD (D : Dev) : Dev := { D with down := true, fuse := 0 }
set_option maxRecDepth 100000 in
theorem lose_any (d : Nat) (g : Gh) (w : World) (D : Dev) (hD : DevAt g w d D) (hF : Fit D) (kp tn : Int) (hk0 : -9223372036854775808 ≤ kp) (hk1 : kp ≤ 9223372036854775807) :
    Calls Try.prog 18 #[.pointer (some ⟨d, 0, none⟩), .agg #[.int .i64 kp, .int .i64 tn]] w fun e w' => e = .returned (.tuple #[]) ∧ DevP d g w (lossD (downD D) kp tn) w' := by
  obtain ⟨km, nm, A, cap, xs, hb, hi⟩ := hD
  have hdl := hb.lt
  have n1 : d ≠ w.heap.size := by omega
  have n2 : w.heap.size ≠ d := by omega
  have c3 : w.cell? ⟨d, 3, none⟩ = some (.bool D.down) := hb.cell 3
  have c4 : w.cell? ⟨d, 4, none⟩ = some (.int .i64 D.fuse) := hb.cell 4
  have z := hb.fz
  have HP2 : Hid (DevP d g w (downD D) ((w.setCell ⟨d, 3, none⟩ (.bool true)).setCell ⟨d, 4, none⟩ (.int .i64 0))) := by
    refine DevAt.stored (dn := true) (fu := 0) hb hi ((grownBy_setCell _ ⟨d, 3, none⟩ _).trans (grownBy_setCell _ ⟨d, 4, none⟩ _)) ?_ (Int.le_refl _) (by omega)
    have := (hb.set 3 (.bool true)).set 4 (.int .i64 0)
    simpa [devCs] using this
  have HFD : Hid (Fit (downD D)) := ⟨hF.pl, hF.ops, hF.len, hF.n⟩
  clear hb hi
  obtain ⟨g2, hx2, hD2⟩ := HP2.out
  have hx3 := Ext.box (fun _ => False) g2 ((w.setCell ⟨d, 3, none⟩ (.bool true)).setCell ⟨d, 4, none⟩ (.int .i64 0)) (.cells #[.int .i64 kp, .int .i64 tn] 51)
  have HX3 := Lib.hid (hx2.trans (hx3.imp (fun _ h => h.elim)))
  have HD3 := Lib.hid (hD2.ext hx3 (fun h => h))
  clear hx2 hx3 hD2 HP2
  go_enter Try.func18, Try.ntmps18
  go_wp2_with fail
  refine (decideL d _ _ (downD D) HD3.out HFD.out kp tn hk0 hk1).mono ?_
  rintro e w3 ⟨rfl, hP⟩
  have HP3 : Hid (DevP d g w (lossD (downD D) kp tn) w3) := hP.pre HX3.out
  clear hP
  go_wp2_with fail
  go_end0
  exact ⟨rfl, HP3.out⟩

set_option maxRecDepth 100000 in
theorem restart_any (d : Nat) (g : Gh) (w : World) (D : Dev) (hD : DevAt g w d D) (hdn : D.down = true) (hp : D.pend.length = 0) :
    Calls Try.prog 19 #[.pointer (some ⟨d, 0, none⟩)] w fun e w' => e = .returned (.tuple #[]) ∧ DevP d g w { D with down := false } w' := by
  have HD := Lib.hid hD
  obtain ⟨km, nm, A, cap, xs, hb, hi⟩ := hD
  have c3 : w.cell? ⟨d, 3, none⟩ = some (.bool true) := by rw [← hdn]; exact hb.cell 3
  clear hb hi
  go_enter Try.func19, Try.ntmps19
  go_wp2_with fail
  refine (decide0_any d g w D HD.out 0 (-1) hp).mono ?_
  rintro e w1 ⟨rfl, g1, hx1⟩
  have hD1 := HD.out.ext hx1 (fun h => h)
  obtain ⟨km, nm, A, cap, xs, hb, hi⟩ := hD1
  have c3 : w1.cell? ⟨d, 3, none⟩ = some (.bool D.down) := hb.cell 3
  have z := hb.fz
  have HB := Lib.hid hb
  have HI := Lib.hid hi
  have HX := Lib.hid hx1
  clear hb hi hx1
  go_wp2_with fail
  go_end0
  refine ⟨rfl, ?_⟩
  have := DevAt.stored (dn := false) (fu := D.fuse) HB.out HI.out (grownBy_setCell w1 ⟨d, 3, none⟩ (.bool false)) (by
    have := HB.out.set 3 (.bool false)
    simpa [devCs] using this) HI.out.f0 HI.out.f1
  exact this.pre (HX.out.imp (fun _ h => h.elim))

end Go.Proofs.Ythjbaafbkalomaa
