/-
  The walk of the reference's Before.
-/
import Derived.Test.YtocffknoeknabaaGreatDoorDpE
namespace Go.Proofs.YtocffknoeknabaaGreatDoor
open Go.RowKit

def befR (a b : Rcd) : Bool :=
  if ordH a.dst b.dst ≠ 0 then decide (ordH a.dst b.dst < 0) else
  if a.num ≠ b.num then decide (a.num < b.num) else
  if ordH a.src b.src ≠ 0 then decide (ordH a.src b.src < 0) else decide (a.fst < b.fst)
set_option maxRecDepth 100000 in
set_option maxHeartbeats 1600000 in
theorem rbefore_any (a b : Rcd) (w : World) (ha : a.src.size < 4294967281 ∧ a.dst.size < 4294967281) (hb : b.src.size < 4294967281 ∧ b.dst.size < 4294967281) (hg : G0 w) :
    Calls Tryz.prog 87 #[a.val, b.val] w fun e w' => e = .returned (.bool (befR a b)) ∧ Below w.heap.size w w' := by
  have HO1 := Lib.hid (fun w hg => rorder_any a.dst b.dst w ha.2 hb.2 hg)
  have HO2 := Lib.hid (fun w hg => rorder_any a.src b.src w ha.1 hb.1 hg)
  have HG := Lib.hid hg
  generalize hT : befR a b = r
  unfold befR at hT
  generalize ordH a.dst b.dst = o1 at *
  generalize ordH a.src b.src = o2 at *
  have HT := Lib.hid hT
  clear ha hb hg hT
  obtain ⟨aq, af, al, ad, an, ah⟩ := a
  obtain ⟨bs, bf, bl, bd, bn, bh⟩ := b
  unfold Rcd.val Rcd.cells
  dsimp only at HO1 HO2 HT ⊢
  go_enter Tryz.func87, Tryz.ntmps87
  go_wp2_with fail
  refine (HO1.out _ (HG.out.below (by (repeat (first | (with_reducible exact Below.refl _ _) | (with_reducible assumption) | (with_reducible refine Below.setCell ?_ ?_ _; rotate_left; focus (first | exact Nat.le_refl _ | (dsimp only; omega))) | (with_reducible refine Below.drew ?_) | (with_reducible refine below_drewN ?_ _) | (with_reducible refine Below.alloc ?_ ?_ _; rotate_left; focus (first | exact Nat.le_refl _ | (simp; done) | (simp; omega)))))))).mono ?_
  rintro e w1 ⟨rfl, hB1⟩
  have hz1 := hB1.size
  simp at hz1
  have K0 := (((Blk.new w 55 [.string aq, .int .i64 af, .int .i64 al, .string ad, .int .i64 an, .int .i64 ah]).alloc _).below hB1)
  have K1 := ((Blk.new1 w _ 55 [.string bs, .int .i64 bf, .int .i64 bl, .string bd, .int .i64 bn, .int .i64 bh]).below hB1)
  have HK0 := Lib.hid K0
  have HK1 := Lib.hid K1
  obtain ⟨p0, p1, p2, p3, p4, p5⟩ := K0.c6
  obtain ⟨q0, q1, q2, q3, q4, q5⟩ := K1.c6
  clear K0 K1
  have hB2 : Below w.heap.size w w1 := by
    have HB1 := hB1
    (repeat (first | (with_reducible exact Below.refl _ _) | (with_reducible assumption) | (with_reducible refine Below.setCell ?_ ?_ _; rotate_left; focus (first | exact Nat.le_refl _ | (dsimp only; omega) | (simp; omega))) | (with_reducible refine Below.drew ?_) | (with_reducible refine below_drewN ?_ _) | (with_reducible refine Below.alloc ?_ ?_ _; rotate_left; focus (first | exact Nat.le_refl _ | omega | (simp; done) | (simp; omega))) | (with_reducible refine Below.trans ?_ (HB1.mono ?_); rotate_left; focus (first | exact Nat.le_refl _ | omega | (simp; done) | (simp; omega)))))
  have HB1 := Lib.hid hB2
  clear hB1 hB2
  by_cases h1 : o1 = 0
  · by_cases h2 : an = bn
    · go_wp2_with fail
      refine (HO2.out _ (HG.out.below (by have HB1 := HB1.out; (repeat (first | (with_reducible exact Below.refl _ _) | (with_reducible assumption) | (with_reducible refine Below.setCell ?_ ?_ _; rotate_left; focus (first | exact Nat.le_refl _ | (dsimp only; omega) | (simp; omega))) | (with_reducible refine Below.drew ?_) | (with_reducible refine below_drewN ?_ _) | (with_reducible refine Below.alloc ?_ ?_ _; rotate_left; focus (first | exact Nat.le_refl _ | omega | (simp; done) | (simp; omega))) | (with_reducible refine Below.trans ?_ (HB1.mono ?_); rotate_left; focus (first | exact Nat.le_refl _ | omega | (simp; done) | (simp; omega)))))))).mono ?_
      rintro e w2 ⟨rfl, hB2⟩
      have hz2 := hB2.size
      obtain ⟨p0, p1, p2, p3, p4, p5⟩ := (HK0.out.below hB2).c6
      obtain ⟨q0, q1, q2, q3, q4, q5⟩ := (HK1.out.below hB2).c6
      have HB1 := Lib.hid (HB1.out.trans (hB2.mono HB1.out.size))
      clear hB2
      by_cases h3 : o2 = 0
      · go_wp2_with fail
        go_ret
        refine ⟨ret_bool ?_, by have HB1 := HB1.out; (repeat (first | (with_reducible exact Below.refl _ _) | (with_reducible assumption) | (with_reducible refine Below.setCell ?_ ?_ _; rotate_left; focus (first | exact Nat.le_refl _ | (dsimp only; omega) | (simp; omega))) | (with_reducible refine Below.drew ?_) | (with_reducible refine below_drewN ?_ _) | (with_reducible refine Below.alloc ?_ ?_ _; rotate_left; focus (first | exact Nat.le_refl _ | omega | (simp; done) | (simp; omega))) | (with_reducible refine Below.trans ?_ (HB1.mono ?_); rotate_left; focus (first | exact Nat.le_refl _ | omega | (simp; done) | (simp; omega)))))⟩
        rw [← HT.out, if_neg (by omega), if_neg (by omega), if_neg (by omega)]
      · go_wp2_with fail
        go_ret
        refine ⟨ret_bool ?_, by have HB1 := HB1.out; (repeat (first | (with_reducible exact Below.refl _ _) | (with_reducible assumption) | (with_reducible refine Below.setCell ?_ ?_ _; rotate_left; focus (first | exact Nat.le_refl _ | (dsimp only; omega) | (simp; omega))) | (with_reducible refine Below.drew ?_) | (with_reducible refine below_drewN ?_ _) | (with_reducible refine Below.alloc ?_ ?_ _; rotate_left; focus (first | exact Nat.le_refl _ | omega | (simp; done) | (simp; omega))) | (with_reducible refine Below.trans ?_ (HB1.mono ?_); rotate_left; focus (first | exact Nat.le_refl _ | omega | (simp; done) | (simp; omega)))))⟩
        rw [← HT.out, if_neg (by omega), if_neg (by omega), if_pos (by omega)]
    · go_wp2_with fail
      go_ret
      refine ⟨ret_bool ?_, by have HB1 := HB1.out; (repeat (first | (with_reducible exact Below.refl _ _) | (with_reducible assumption) | (with_reducible refine Below.setCell ?_ ?_ _; rotate_left; focus (first | exact Nat.le_refl _ | (dsimp only; omega) | (simp; omega))) | (with_reducible refine Below.drew ?_) | (with_reducible refine below_drewN ?_ _) | (with_reducible refine Below.alloc ?_ ?_ _; rotate_left; focus (first | exact Nat.le_refl _ | omega | (simp; done) | (simp; omega))) | (with_reducible refine Below.trans ?_ (HB1.mono ?_); rotate_left; focus (first | exact Nat.le_refl _ | omega | (simp; done) | (simp; omega)))))⟩
      rw [← HT.out, if_neg (by omega), if_pos (by omega)]
  · go_wp2_with fail
    go_ret
    refine ⟨ret_bool ?_, by have HB1 := HB1.out; (repeat (first | (with_reducible exact Below.refl _ _) | (with_reducible assumption) | (with_reducible refine Below.setCell ?_ ?_ _; rotate_left; focus (first | exact Nat.le_refl _ | (dsimp only; omega) | (simp; omega))) | (with_reducible refine Below.drew ?_) | (with_reducible refine below_drewN ?_ _) | (with_reducible refine Below.alloc ?_ ?_ _; rotate_left; focus (first | exact Nat.le_refl _ | omega | (simp; done) | (simp; omega))) | (with_reducible refine Below.trans ?_ (HB1.mono ?_); rotate_left; focus (first | exact Nat.le_refl _ | omega | (simp; done) | (simp; omega)))))⟩
    rw [← HT.out, if_pos (by omega)]
end Go.Proofs.YtocffknoeknabaaGreatDoor
