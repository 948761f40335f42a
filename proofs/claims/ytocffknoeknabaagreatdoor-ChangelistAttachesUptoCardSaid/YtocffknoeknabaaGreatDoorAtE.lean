/-
  The walk of the reference's Same at two pendings with records that say the same.
-/
import Derived.Test.YtocffknoeknabaaGreatDoorClG
import Derived.Test.YtocffknoeknabaaGreatDoorCgN
import Derived.Test.YtocffknoeknabaaGreatDoorCgM
namespace Go.Proofs.YtocffknoeknabaaGreatDoor
open Go.RowKit

set_option maxRecDepth 100000 in
set_option maxHeartbeats 6400000 in
theorem rsamer_any (p : Pnd) (V : List Edt) (Q : List Rcd) (E R E2 R2 : Option Addr) (ec rc ec2 rc2 : Nat) (w : World) (hE : edtK.In E V w) (hE2 : edtK.In E2 V w) (hR : rcdK.In R Q w) (hR2 : rcdK.In R2 Q w) (hn : V.length ≤ 1000) (hm : Q.length ≤ 1000) :
    Calls Tryz.prog 13 #[pnrV p V Q E R ec rc, pnrV p V Q E2 R2 ec2 rc2] w fun e w' => e = .returned (.bool true) ∧ Below w.heap.size w w' := by
  have HE := Lib.hid hE
  have HE2 := Lib.hid hE2
  have HR := Lib.hid hR
  have HR2 := Lib.hid hR2
  clear hE hE2 hR hR2
  obtain ⟨pn, pc, pt, ps, V0⟩ := p
  unfold pnrV pnrC
  dsimp only at *
  go_enter Tryz.func13, Tryz.ntmps13
  go_upto_region 1 with fail
  generalize hw1 : World.alloc (World.alloc w _) _ = w1
  have HM1 : Hid (Bs [(w.heap.size + 1, 41, [.int .i64 pn, .string pc, .string pt, .bool ps, .slice E2 V.length ec2, .slice R2 Q.length rc2]), (w.heap.size, 41, [.int .i64 pn, .string pc, .string pt, .bool ps, .slice E V.length ec, .slice R Q.length rc])] w1) := by
    show Bs _ _
    rw [← hw1]
    exact ⟨Blk.new1 _ _ _ _, (Blk.new _ _ _).alloc _, trivial⟩
  have HB1 : Hid (Below w.heap.size w w1) := by
    show Below _ _ _
    rw [← hw1]
    (repeat (first | (with_reducible exact Below.refl _ _) | (with_reducible assumption) | (with_reducible refine Below.setCell ?_ ?_ _; rotate_left; focus (first | exact Nat.le_refl _ | (dsimp only; omega))) | (with_reducible refine Below.drew ?_) | (with_reducible refine below_drewN ?_ _) | (with_reducible refine Below.alloc ?_ ?_ _; rotate_left; focus (first | exact Nat.le_refl _ | (simp; done) | (simp; omega)))))
  clear hw1
  obtain ⟨p0, p1, p2, p3, p4, p5⟩ := HM1.out.2.1.c6
  obtain ⟨q0, q1, q2, q3, q4, q5⟩ := HM1.out.1.c6
  go_wp2_with fail
  clear p0 p1 p2 p3 p4 p5 q0 q1 q2 q3 q4 q5
  go_loopw [54] (fun i wr => ∃ k : Nat, i = .int .i64 k ∧ k ≤ V.length ∧ Below w1.heap.size w1 wr) (fun i _ => V.length - (intOf i).toNat)
  case atStart => exact ⟨0, rfl, Nat.zero_le _, Below.refl _ _⟩
  case round =>
    obtain ⟨k, rfl, hk, hB⟩ := hrel
    have HM := Lib.hid (HM1.out.below hB)
    have HB := Lib.hid (HB1.out.trans (hB.mono HB1.out.size))
    have HB3 := Lib.hid hB
    clear hB
    by_cases hlt : k < V.length
    · obtain ⟨b, off, hEe, hbl, hat⟩ := (HE.out.below HB.out) (by omega)
      obtain ⟨b2, off2, hEe2, hbl2, hat2⟩ := (HE2.out.below HB.out) (by omega)
      subst hEe hEe2
      have hg := List.getElem?_eq_getElem hlt
      generalize hx : V[k] = x at *
      have hS : Below wr.heap.size wr wr.drew := (Below.refl _ _).drew
      have HXA := Lib.hid (fun (y : Held (Below wr.heap.size wr)) j (u : Value) (hj : x.cells[j]? = some u) => ((hat.below y.ok hbl).get hg hj))
      have HXB := Lib.hid (fun (y : Held (Below wr.heap.size wr)) j (u : Value) (hj : x.cells[j]? = some u) => ((hat2.below y.ok hbl2).get hg hj))
      have e12 : edtK.n = 12 := rfl
      rw [e12] at HXA HXB
      clear hat hat2 hg hx e12
      obtain ⟨c0, c1, c2, c3, c4, c5, c6, c7, c8, c9, c10, c11⟩ := fun_and12 (fun y : Held (Below wr.heap.size wr) => (⟨HXA.out y 0 _ rfl, HXA.out y 1 _ rfl, HXA.out y 2 _ rfl, HXA.out y 3 _ rfl, HXA.out y 4 _ rfl, HXA.out y 5 _ rfl, HXA.out y 6 _ rfl, HXA.out y 7 _ rfl, HXA.out y 8 _ rfl, HXA.out y 9 _ rfl, HXA.out y 10 _ rfl, HXA.out y 11 _ rfl⟩ : _ ∧ _ ∧ _ ∧ _ ∧ _ ∧ _ ∧ _ ∧ _ ∧ _ ∧ _ ∧ _ ∧ _))
      obtain ⟨d0, d1, d2, d3, d4, d5, d6, d7, d8, d9, d10, d11⟩ := fun_and12 (fun y : Held (Below wr.heap.size wr) => (⟨HXB.out y 0 _ rfl, HXB.out y 1 _ rfl, HXB.out y 2 _ rfl, HXB.out y 3 _ rfl, HXB.out y 4 _ rfl, HXB.out y 5 _ rfl, HXB.out y 6 _ rfl, HXB.out y 7 _ rfl, HXB.out y 8 _ rfl, HXB.out y 9 _ rfl, HXB.out y 10 _ rfl, HXB.out y 11 _ rfl⟩ : _ ∧ _ ∧ _ ∧ _ ∧ _ ∧ _ ∧ _ ∧ _ ∧ _ ∧ _ ∧ _ ∧ _))
      simp only [Nat.add_zero] at c0 d0
      have r4 : ∀ y : Held (Below wr.heap.size wr), y.w.cell? ⟨w.heap.size, 4, none⟩ = some (.slice (some ⟨b, off, none⟩) V.length ec) := fun y => (HM.out.2.1.below y.ok).cell 4
      have s4 : ∀ y : Held (Below wr.heap.size wr), y.w.cell? ⟨w.heap.size + 1, 4, none⟩ = some (.slice (some ⟨b2, off2, none⟩) V.length ec2) := fun y => (HM.out.1.below y.ok).cell 4
      go_wp2_with fail
      (refine wp_region_s (S := Below wr.heap.size wr) (by kernel_rfl) (by kernel_rfl) hS ?_; have hN : Nonempty (Held (Below wr.heap.size wr)) := ⟨⟨_, hS⟩⟩; skip; (repeat (go_big_quiet_step (fail))); refine wpQuiet_nil ?_; rintro x ⟨⟨_, hx⟩, rfl⟩; clear hN)
      clear c0 c1 c2 c3 c4 c5 c6 c7 c8 c9 c10 c11 d0 d1 d2 d3 d4 d5 d6 d7 d8 d9 d10 d11 r4 s4
      go_wp2_with fail
      go_roundw
      case rel => exact ⟨k + 1, by go_num, by omega, HB3.out.trans (hx.mono HB3.out.size)⟩
      case measure => simp [intOf]; omega
    · obtain ⟨p0, p1, p2, p3, p4, p5⟩ := HM.out.2.1.c6
      obtain rfl : k = V.length := by omega
      go_wp2_with fail
      clear p0 p1 p2 p3 p4 p5
      go_loopw [72] (fun i wx => ∃ k : Nat, i = .int .i64 k ∧ k ≤ Q.length ∧ Below w1.heap.size w1 wx) (fun i _ => Q.length - (intOf i).toNat)
      case atStart => exact ⟨0, rfl, Nat.zero_le _, HB3.out⟩
      case round =>
        obtain ⟨k, rfl, hk, hB⟩ := hrel
        have HM2 := Lib.hid (HM1.out.below hB)
        have HB2 := Lib.hid (HB1.out.trans (hB.mono HB1.out.size))
        have HB4 := Lib.hid hB
        clear hB HM HB HB3
        by_cases hlt : k < Q.length
        · obtain ⟨b, off, hRe, hbl, hat⟩ := (HR.out.below HB2.out) (by omega)
          obtain ⟨b2, off2, hRe2, hbl2, hat2⟩ := (HR2.out.below HB2.out) (by omega)
          subst hRe hRe2
          have hg := List.getElem?_eq_getElem hlt
          generalize hx : Q[k] = x at *
          have hS : Below wr.heap.size wr wr.drew := (Below.refl _ _).drew
          have HXA := Lib.hid (fun (y : Held (Below wr.heap.size wr)) j (u : Value) (hj : x.cells[j]? = some u) => ((hat.below y.ok hbl).get hg hj))
          have HXB := Lib.hid (fun (y : Held (Below wr.heap.size wr)) j (u : Value) (hj : x.cells[j]? = some u) => ((hat2.below y.ok hbl2).get hg hj))
          have e6 : rcdK.n = 6 := rfl
          rw [e6] at HXA HXB
          clear hat hat2 hg hx e6
          obtain ⟨c0, c1, c2, c3, c4, c5⟩ := sfun_and6 (fun y : Held (Below wr.heap.size wr) => (⟨HXA.out y 0 _ rfl, HXA.out y 1 _ rfl, HXA.out y 2 _ rfl, HXA.out y 3 _ rfl, HXA.out y 4 _ rfl, HXA.out y 5 _ rfl⟩ : _ ∧ _ ∧ _ ∧ _ ∧ _ ∧ _))
          obtain ⟨d0, d1, d2, d3, d4, d5⟩ := sfun_and6 (fun y : Held (Below wr.heap.size wr) => (⟨HXB.out y 0 _ rfl, HXB.out y 1 _ rfl, HXB.out y 2 _ rfl, HXB.out y 3 _ rfl, HXB.out y 4 _ rfl, HXB.out y 5 _ rfl⟩ : _ ∧ _ ∧ _ ∧ _ ∧ _ ∧ _))
          simp only [Nat.add_zero] at c0 d0
          have r5 : ∀ y : Held (Below wr.heap.size wr), y.w.cell? ⟨w.heap.size, 5, none⟩ = some (.slice (some ⟨b, off, none⟩) Q.length rc) := fun y => (HM2.out.2.1.below y.ok).cell 5
          have s5 : ∀ y : Held (Below wr.heap.size wr), y.w.cell? ⟨w.heap.size + 1, 5, none⟩ = some (.slice (some ⟨b2, off2, none⟩) Q.length rc2) := fun y => (HM2.out.1.below y.ok).cell 5
          go_wp2_with fail
          (refine wp_region_s (S := Below wr.heap.size wr) (by kernel_rfl) (by kernel_rfl) hS ?_; have hN : Nonempty (Held (Below wr.heap.size wr)) := ⟨⟨_, hS⟩⟩; skip; (repeat (go_big_quiet_step (fail))); refine wpQuiet_nil ?_; rintro x ⟨⟨_, hx⟩, rfl⟩; clear hN)
          clear c0 c1 c2 c3 c4 c5 d0 d1 d2 d3 d4 d5 r5 s5
          go_wp2_with fail
          go_roundw
          case rel => exact ⟨k + 1, by go_num, by omega, HB4.out.trans (hx.mono HB4.out.size)⟩
          case measure => simp [intOf]; omega
        · obtain rfl : k = Q.length := by omega
          go_wp2_with fail
          go_ret
          exact ⟨rfl, HB2.out⟩
end Go.Proofs.YtocffknoeknabaaGreatDoor
