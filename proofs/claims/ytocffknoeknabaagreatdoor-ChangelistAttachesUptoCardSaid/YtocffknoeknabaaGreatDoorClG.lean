/-
  The walk of the reference's with: a sort by insertion (printed by mkrwith.py).
-/
import Derived.Test.YtocffknoeknabaaGreatDoorClF
import Derived.Test.YtocffknoeknabaaGreatDoorDpS
namespace Go.Proofs.YtocffknoeknabaaGreatDoor
open Go.RowKit
open Go.Sort (HoldsK swp)

theorem edt_len (x : Edt) : x.cells.length = 12 := rfl
theorem use_size {x : Edt} (h : useB x.path = true) : x.path.size < 4294967281 := by
  have := (use_valid h).2
  omega
/-- A pending comes back, its records nil. -/
def PndRetN (p : Pnd) (w : World) (e : Ending) (w' : World) : Prop := ∃ E ec, e = .returned (pndV p E ec none 0) ∧ edtK.In E p.edits w' ∧ (∀ b off, E = some ⟨b, off, none⟩ → w.heap.size ≤ b) ∧ Below w.heap.size w w'
/-- A pending comes back. -/
def PndRet (p : Pnd) (w : World) (e : Ending) (w' : World) : Prop := ∃ E ec R rc, e = .returned (pndV p E ec R rc) ∧ edtK.In E p.edits w' ∧ (∀ b off, E = some ⟨b, off, none⟩ → w.heap.size ≤ b) ∧ Below w.heap.size w w'
theorem in_putF {x : World} {A : Option Addr} {b : Nat} {L : List Edt} (h : edtK.In A L x) (hh : ∀ b' off, A = some ⟨b', off, none⟩ → b' ≠ b) (u0 u1 u2 u3 u4 u5 : Value) : edtK.In A L ((((((x.setCell ⟨b, 0, none⟩ u0).setCell ⟨b, 1, none⟩ u1).setCell ⟨b, 2, none⟩ u2).setCell ⟨b, 3, none⟩ u3).setCell ⟨b, 4, none⟩ u4).setCell ⟨b, 5, none⟩ u5) :=
  ((((((h.setC (p := ⟨b, 0, none⟩) hh u0).setC (p := ⟨b, 1, none⟩) hh u1).setC (p := ⟨b, 2, none⟩) hh u2).setC (p := ⟨b, 3, none⟩) hh u3).setC (p := ⟨b, 4, none⟩) hh u4).setC (p := ⟨b, 5, none⟩) hh u5)
theorem in_put6 {x : World} {g b : Nat} {L : List Edt} (h : edtK.In (some ⟨g, 0, none⟩) L x) (hne : g ≠ b) (u0 u1 u2 u3 u4 u5 : Value) : edtK.In (some ⟨g, 0, none⟩) L ((((((x.setCell ⟨b, 0, none⟩ u0).setCell ⟨b, 1, none⟩ u1).setCell ⟨b, 2, none⟩ u2).setCell ⟨b, 3, none⟩ u3).setCell ⟨b, 4, none⟩ u4).setCell ⟨b, 5, none⟩ u5) := by
  have hh : ∀ b' off, (some ⟨g, 0, none⟩ : Option Addr) = some ⟨b', off, none⟩ → b' ≠ b := fun b' off e => by injection e with e; injection e with e; omega
  exact ((((((h.setC (p := ⟨b, 0, none⟩) hh u0).setC (p := ⟨b, 1, none⟩) hh u1).setC (p := ⟨b, 2, none⟩) hh u2).setC (p := ⟨b, 3, none⟩) hh u3).setC (p := ⟨b, 4, none⟩) hh u4).setC (p := ⟨b, 5, none⟩) hh u5)
theorem frozen_setCell_eq (w : World) (p : Addr) (v : Value) (x : Addr) : (w.setCell p v).frozen? x = w.frozen? x := by simp
theorem setCells_blk {w : World} {b g : Nat} {T : TypeId} {cs : List Value} (h : Blk b T cs w) (hne : b ≠ g) (vs : List Value) (o : Nat) : Blk b T cs (w.setCells g o vs) := by
  induction vs generalizing w o with
  | nil => exact h
  | cons v r ih => exact ih (h.far (p := ⟨g, o, none⟩) hne v) (o + 1)
set_option maxRecDepth 100000 in
set_option maxHeartbeats 6400000 in
theorem rwith0_any (p : Pnd) (X : List Edt) (E R F : Option Addr) (ec rc fc : Nat) (w : World) (hE : edtK.In E p.edits w) (hF : edtK.In F X w) (hn : p.edits.length + X.length ≤ 0) :
    Calls Tryz.prog 37 #[pndV p E ec R rc, .slice F X.length fc] w (PndRetN p w) := by
  obtain ⟨i0, hi0, hz0, hz1, hz2⟩ := info_parts Tryz.infoEdit
  have HCO := Lib.hid (fun w h => rcopyN_any p E R ec rc w h (by omega))
  obtain ⟨pn, pc, pt, ps, V⟩ := p
  dsimp only at hE hn HCO ⊢
  obtain ⟨U, hU⟩ : ∃ U, U = V ++ X := ⟨_, rfl⟩
  have hUl : U.length = V.length + X.length := by rw [hU, List.length_append]
  have hUn : U.length ≤ 1000 := by omega
  have HUL := Lib.hid hUl
  have HUE := Lib.hid hU
  have HE := Lib.hid hE
  have HF := Lib.hid hF
  clear hE hF hU hUl
  unfold pndV pndC at *
  dsimp only at *
  go_enter Tryz.func37, Tryz.ntmps37
  go_upto_region 1 with fail
  generalize hw1 : World.alloc _ (.cells #[.int .i64 0, .string ⟨#[]⟩, .string ⟨#[]⟩, .bool false, .slice none 0 0, .slice none 0 0] 41) = w1
  have HM1 : Hid (Bs [(w.heap.size + 1, 41, [.int .i64 0, .string ⟨#[]⟩, .string ⟨#[]⟩, .bool false, .slice none 0 0, .slice none 0 0]), (w.heap.size, 41, [.int .i64 pn, .string pc, .string pt, .bool ps, .slice E V.length ec, .slice R 0 rc])] w1) := by
    show Bs _ _
    rw [← hw1]
    exact ⟨Blk.new1 _ _ _ _, (Blk.new _ _ _).alloc _, trivial⟩
  have HB1 : Hid (Below w.heap.size w w1) := by
    show Below _ _ _
    rw [← hw1]
    (repeat (first | (with_reducible exact Below.refl _ _) | (with_reducible assumption) | (with_reducible refine Below.setCell ?_ ?_ _; rotate_left; focus (first | exact Nat.le_refl _ | (dsimp only; omega))) | (with_reducible refine Below.drew ?_) | (with_reducible refine below_drewN ?_ _) | (with_reducible refine Below.alloc ?_ ?_ _; rotate_left; focus (first | exact Nat.le_refl _ | (simp; done) | (simp; omega)))))
  clear hw1
  obtain ⟨p0, p1, p2, p3, p4, p5⟩ := HM1.out.2.1.c6
  go_wp2_with fail
  refine (HCO.out _ (HE.out.below HB1.out)).mono ?_
  rintro e w2 ⟨A2, c2, rfl, ho2, hb2⟩
  unfold pndV pndC
  dsimp only at ho2 ⊢
  have HM2 := Lib.hid (HM1.out.below hb2)
  have HB2 := Lib.hid (HB1.out.trans (hb2.mono HB1.out.size))
  have HO2 := Lib.hid ho2
  have lt1 := HM1.out.1.lt
  have lt2 := HM2.out.1.lt
  have hsz2 := hb2.size
  clear hb2 ho2 HM1 HB1 HCO p0 p1 p2 p3 p4 p5
  obtain ⟨p0, p1, p2, p3, p4, p5⟩ := HM2.out.2.1.c6
  have g0 := HM2.out.2.1.fz 0
  have g1 := HM2.out.2.1.fz 1
  have g2 := HM2.out.2.1.fz 2
  have g3 := HM2.out.2.1.fz 3
  have g4 := HM2.out.2.1.fz 4
  have g5 := HM2.out.2.1.fz 5
  have HMP := Lib.hid (show Bs [(w.heap.size + 1, 41, [.int .i64 0, .string ⟨#[]⟩, .string ⟨#[]⟩, .bool false, .slice none 0 0, .slice none 0 0]), (w.heap.size, 41, [.int .i64 pn, .string pc, .string pt, .bool ps, .slice A2 V.length c2, .slice none 0 0])] _ from ⟨(((((HM2.out.1.far (p := ⟨w.heap.size, 0, none⟩) (by dsimp only; omega) (.int .i64 pn)).far (p := ⟨w.heap.size, 1, none⟩) (by dsimp only; omega) (.string pc)).far (p := ⟨w.heap.size, 2, none⟩) (by dsimp only; omega) (.string pt)).far (p := ⟨w.heap.size, 3, none⟩) (by dsimp only; omega) (.bool ps)).far (p := ⟨w.heap.size, 4, none⟩) (by dsimp only; omega) (.slice A2 V.length c2)).far (p := ⟨w.heap.size, 5, none⟩) (by dsimp only; omega) (.slice none 0 0), zero_put HM2.out.2.1 (.int .i64 pn) (.string pc) (.string pt) (.bool ps) (.slice A2 V.length c2) (.slice none 0 0), trivial⟩)
  have HBP := Lib.hid (below_put6 HB2.out (b := w.heap.size) (Nat.le_refl _) (.int .i64 pn) (.string pc) (.string pt) (.bool ps) (.slice A2 V.length c2) (.slice none 0 0))
  have HOP := Lib.hid (own_put6 HO2.out (b := w.heap.size) (by intro e; have := HO2.out.lt _ e; omega) (.int .i64 pn) (.string pc) (.string pt) (.bool ps) (.slice A2 V.length c2) (.slice none 0 0))
  have hszz : w1.heap.size ≤ ((((((w2.setCell ⟨w.heap.size, 0, none⟩ (.int .i64 pn)).setCell ⟨w.heap.size, 1, none⟩ (.string pc)).setCell ⟨w.heap.size, 2, none⟩ (.string pt)).setCell ⟨w.heap.size, 3, none⟩ (.bool ps)).setCell ⟨w.heap.size, 4, none⟩ (.slice A2 V.length c2)).setCell ⟨w.heap.size, 5, none⟩ (.slice none 0 0)).heap.size := by simpa [World.setCell] using hsz2
  go_upto_region 2 with fail
  (generalize World.setCell (World.setCell (World.setCell (World.setCell (World.setCell (World.setCell _ _ _) _ _) _ _) _ _) _ _) _ _ = w3 at *)
  clear HM2 HB2 HO2 p0 p1 p2 p3 p4 p5 g0 g1 g2 g3 g4 g5
  have lt3 := HMP.out.1.lt
  have HBS : Hid (w1.heap.size ≤ w3.heap.size) := hszz
  obtain ⟨p0, p1, p2, p3, p4, p5⟩ := HMP.out.2.1.c6
  have g4 := HMP.out.2.1.fz 4
  have HNX := Lib.hid (HF.out.below HBP.out).news
  have hb31 : w1.heap.size ≤ w3.heap.size := by have := HBS.out; omega
  have HUF : Hid (edtK.flat V ++ edtK.flat X = edtK.flat U) := by show _ = _; rw [← edtK.flat_append, ← HUE.out]
  go_upto_region 3 with (at_builtin; go_loud (refine wpList_append_any rfl _ _ 39 rfl w1.heap.size 44 i0 zeroEdt.val 12 96 Tryz.underlying39 hi0 hz0 hz1 hz2 rfl (by decide) (.slice A2 V.length c2) V.length (edtK.flat V) rfl HOP.out F X.length fc (edtK.flat X) rfl (edtK.flat_len X) HNX.out (edtK.flat_ones X) (by unfold maxLen; omega) (by omega) hb31 ?_; intro v4 w4 ho4 hg4; rw [HUF.out, ← HUL.out] at ho4; obtain ⟨A4, cq, rfl⟩ := own_slice ho4; have HO4 := Lib.hid ho4; have HM4 := Lib.hid (HMP.out.grown hg4 (fun x hx e => by have := (HOP.out.lt _ e).1; simp only [List.mem_cons, List.not_mem_nil, or_false] at hx; rcases hx with rfl | rfl <;> dsimp only at this <;> omega)); have HB4 := Lib.hid (HBP.out.grown hg4 HBP.out.size (fun j e => by have := (HOP.out.lt _ e).1; omega)); clear ho4 hg4 p0 p1 p2 p3 p4 p5 g4; obtain ⟨p0, p1, p2, p3, p4, p5⟩ := HM4.out.2.1.c6; have g4 := HM4.out.2.1.fz 4))
  have lt4 := HM4.out.1.lt
  have HM5 := Lib.hid (show Bs [(w.heap.size + 1, 41, [.int .i64 0, .string ⟨#[]⟩, .string ⟨#[]⟩, .bool false, .slice none 0 0, .slice none 0 0]), (w.heap.size, 41, [.int .i64 pn, .string pc, .string pt, .bool ps, .slice A4 U.length cq, .slice none 0 0])] _ from ⟨HM4.out.1.far (p := ⟨w.heap.size, 4, none⟩) (by dsimp only; omega) (.slice A4 U.length cq), HM4.out.2.1.set 4 (.slice A4 U.length cq), trivial⟩)
  have HB5 := Lib.hid (HB4.out.setCell (p := ⟨w.heap.size, 4, none⟩) (Nat.le_refl _) (.slice A4 U.length cq))
  have HA4 : Hid (∀ b off, A4 = some ⟨b, off, none⟩ → w.heap.size ≤ b) := fun b off e => by have := (HO4.out.lt b (by rw [e]; rfl)).1; omega
  have HVL : Hid (U.length = V.length) := by have h := HUL.out; show _ = _; omega
  have HU0 : Hid (U.length = 0) := by have h := HUL.out; show _ = _; omega
  (generalize World.setCell _ _ _ = w5 at *)
  clear HO4 HM4 HB4 HMP HBP HOP HNX p0 p1 p2 p3 p4 p5 g4 HBS lt1 lt2 lt3 lt4 hb31 HE HF HUE HUF HUL
  obtain ⟨p0, p1, p2, p3, p4, p5⟩ := HM5.out.2.1.c6
  go_wp2_with fail
  clear p0 p1 p2 p3 p4 p5
  go_loopw [17] (fun i wx => i = .int .i64 U.length ∧ Hid (Below w.heap.size w wx) ∧ Hid (Bs [(w.heap.size + 1, 41, [.int .i64 0, .string ⟨#[]⟩, .string ⟨#[]⟩, .bool false, .slice none 0 0, .slice none 0 0]), (w.heap.size, 41, [.int .i64 pn, .string pc, .string pt, .bool ps, .slice A4 U.length cq, .slice none 0 0])] wx)) (fun i _ => 0)
  case atStart =>
    refine ⟨?_, HB5.out, HM5.out⟩
    rw [HU0.out]
    rfl
  case round =>
    obtain ⟨rfl, HB2, HM2⟩ := hrel
    obtain ⟨p0, p1, p2, p3, p4, p5⟩ := HM2.out.2.1.c6
    obtain ⟨z0, z1, z2, z3, z4, z5⟩ := HM2.out.1.c6
    have f0 := HM2.out.1.fz 0
    have f1 := HM2.out.1.fz 1
    have f2 := HM2.out.1.fz 2
    have f3 := HM2.out.1.fz 3
    have f4 := HM2.out.1.fz 4
    have f5 := HM2.out.1.fz 5
    have KZ := Lib.hid (zero_put HM2.out.1 (.int .i64 pn) (.string pc) (.string pt) (.bool ps) (.slice A4 U.length cq) (.slice none 0 0))
    have HBZ := Lib.hid (below_put6 HB2.out (b := w.heap.size + 1) (by omega) (.int .i64 pn) (.string pc) (.string pt) (.bool ps) (.slice A4 U.length cq) (.slice none 0 0))
    go_wp2_with fail
    (generalize World.setCell (World.setCell (World.setCell (World.setCell (World.setCell (World.setCell _ _ _) _ _) _ _) _ _) _ _) _ _ = wz at *)
    obtain ⟨y0, y1, y2, y3, y4, y5⟩ := KZ.out.c6
    refine bodyPost_ret (v := .agg #[.int .i64 pn, .string pc, .string pt, .bool ps, .slice A4 U.length cq, .slice none 0 0]) (by simp [results, Tryz.results37, go_sem, y0, y1, y2, y3, y4, y5]) rfl ⟨A4, cq, ?_, (fun h => absurd h (by have h1 := HVL.out; have h2 := HU0.out; dsimp only; omega)), HA4.out, HBZ.out⟩
    rw [HVL.out]
    rfl
set_option maxRecDepth 100000 in
set_option maxHeartbeats 6400000 in
theorem rwithN_any (p : Pnd) (X S : List Edt) (E R F : Option Addr) (ec rc fc : Nat) (w : World) (hE : edtK.In E p.edits w) (hF : edtK.In F X w) (hn : p.edits.length + X.length ≤ 1000) (hu : ∀ x ∈ p.edits ++ X, x.path.size < 4294967281) (hS : SrtE S) (hp : S.Perm (p.edits ++ X)) (hX : 0 < p.edits.length + X.length) (hg : G0 w) :
    Calls Tryz.prog 37 #[pndV p E ec R rc, .slice F X.length fc] w (PndRetN { p with edits := S } w) := by
  obtain ⟨i0, hi0, hz0, hz1, hz2⟩ := info_parts Tryz.infoEdit
  have HCO := Lib.hid (fun w h => rcopyN_any p E R ec rc w h (by omega))
  obtain ⟨pn, pc, pt, ps, V⟩ := p
  dsimp only at hE hn hu hp hX HCO ⊢
  obtain ⟨U, hU⟩ : ∃ U, U = V ++ X := ⟨_, rfl⟩
  rw [← hU] at hu hp
  have hUl : U.length = V.length + X.length := by rw [hU, List.length_append]
  have hUpos : 0 < U.length := by omega
  have hUn : U.length ≤ 1000 := by omega
  have HUL := Lib.hid hUl
  have HUE := Lib.hid hU
  have HS := Lib.hid hu
  have HSO := Lib.hid (sortE_is hS hp)
  have hSl := hp.length_eq
  have HE := Lib.hid hE
  have HF := Lib.hid hF
  have HG := Lib.hid hg
  clear hE hF hu hS hp hg hU hUl
  unfold pndV pndC at *
  dsimp only at *
  go_enter Tryz.func37, Tryz.ntmps37
  go_upto_region 1 with fail
  generalize hw1 : World.alloc _ (.cells #[.int .i64 0, .string ⟨#[]⟩, .string ⟨#[]⟩, .bool false, .slice none 0 0, .slice none 0 0] 41) = w1
  have HM1 : Hid (Bs [(w.heap.size + 1, 41, [.int .i64 0, .string ⟨#[]⟩, .string ⟨#[]⟩, .bool false, .slice none 0 0, .slice none 0 0]), (w.heap.size, 41, [.int .i64 pn, .string pc, .string pt, .bool ps, .slice E V.length ec, .slice R 0 rc])] w1) := by
    show Bs _ _
    rw [← hw1]
    exact ⟨Blk.new1 _ _ _ _, (Blk.new _ _ _).alloc _, trivial⟩
  have HB1 : Hid (Below w.heap.size w w1) := by
    show Below _ _ _
    rw [← hw1]
    (repeat (first | (with_reducible exact Below.refl _ _) | (with_reducible assumption) | (with_reducible refine Below.setCell ?_ ?_ _; rotate_left; focus (first | exact Nat.le_refl _ | (dsimp only; omega))) | (with_reducible refine Below.drew ?_) | (with_reducible refine below_drewN ?_ _) | (with_reducible refine Below.alloc ?_ ?_ _; rotate_left; focus (first | exact Nat.le_refl _ | (simp; done) | (simp; omega)))))
  clear hw1
  obtain ⟨p0, p1, p2, p3, p4, p5⟩ := HM1.out.2.1.c6
  go_wp2_with fail
  refine (HCO.out _ (HE.out.below HB1.out)).mono ?_
  rintro e w2 ⟨A2, c2, rfl, ho2, hb2⟩
  unfold pndV pndC
  dsimp only at ho2 ⊢
  have HM2 := Lib.hid (HM1.out.below hb2)
  have HB2 := Lib.hid (HB1.out.trans (hb2.mono HB1.out.size))
  have HO2 := Lib.hid ho2
  have lt1 := HM1.out.1.lt
  have lt2 := HM2.out.1.lt
  have hsz2 := hb2.size
  clear hb2 ho2 HM1 HB1 HCO p0 p1 p2 p3 p4 p5
  obtain ⟨p0, p1, p2, p3, p4, p5⟩ := HM2.out.2.1.c6
  have g0 := HM2.out.2.1.fz 0
  have g1 := HM2.out.2.1.fz 1
  have g2 := HM2.out.2.1.fz 2
  have g3 := HM2.out.2.1.fz 3
  have g4 := HM2.out.2.1.fz 4
  have g5 := HM2.out.2.1.fz 5
  have HMP := Lib.hid (show Bs [(w.heap.size + 1, 41, [.int .i64 0, .string ⟨#[]⟩, .string ⟨#[]⟩, .bool false, .slice none 0 0, .slice none 0 0]), (w.heap.size, 41, [.int .i64 pn, .string pc, .string pt, .bool ps, .slice A2 V.length c2, .slice none 0 0])] _ from ⟨(((((HM2.out.1.far (p := ⟨w.heap.size, 0, none⟩) (by dsimp only; omega) (.int .i64 pn)).far (p := ⟨w.heap.size, 1, none⟩) (by dsimp only; omega) (.string pc)).far (p := ⟨w.heap.size, 2, none⟩) (by dsimp only; omega) (.string pt)).far (p := ⟨w.heap.size, 3, none⟩) (by dsimp only; omega) (.bool ps)).far (p := ⟨w.heap.size, 4, none⟩) (by dsimp only; omega) (.slice A2 V.length c2)).far (p := ⟨w.heap.size, 5, none⟩) (by dsimp only; omega) (.slice none 0 0), zero_put HM2.out.2.1 (.int .i64 pn) (.string pc) (.string pt) (.bool ps) (.slice A2 V.length c2) (.slice none 0 0), trivial⟩)
  have HBP := Lib.hid (below_put6 HB2.out (b := w.heap.size) (Nat.le_refl _) (.int .i64 pn) (.string pc) (.string pt) (.bool ps) (.slice A2 V.length c2) (.slice none 0 0))
  have HOP := Lib.hid (own_put6 HO2.out (b := w.heap.size) (by intro e; have := HO2.out.lt _ e; omega) (.int .i64 pn) (.string pc) (.string pt) (.bool ps) (.slice A2 V.length c2) (.slice none 0 0))
  have hszz : w1.heap.size ≤ ((((((w2.setCell ⟨w.heap.size, 0, none⟩ (.int .i64 pn)).setCell ⟨w.heap.size, 1, none⟩ (.string pc)).setCell ⟨w.heap.size, 2, none⟩ (.string pt)).setCell ⟨w.heap.size, 3, none⟩ (.bool ps)).setCell ⟨w.heap.size, 4, none⟩ (.slice A2 V.length c2)).setCell ⟨w.heap.size, 5, none⟩ (.slice none 0 0)).heap.size := by simpa [World.setCell] using hsz2
  go_upto_region 2 with fail
  (generalize World.setCell (World.setCell (World.setCell (World.setCell (World.setCell (World.setCell _ _ _) _ _) _ _) _ _) _ _) _ _ = w3 at *)
  clear HM2 HB2 HO2 p0 p1 p2 p3 p4 p5 g0 g1 g2 g3 g4 g5
  have lt3 := HMP.out.1.lt
  have HBS : Hid (w1.heap.size ≤ w3.heap.size) := hszz
  obtain ⟨p0, p1, p2, p3, p4, p5⟩ := HMP.out.2.1.c6
  have g4 := HMP.out.2.1.fz 4
  have HNX := Lib.hid (HF.out.below HBP.out).news
  have hb31 : w1.heap.size ≤ w3.heap.size := by have := HBS.out; omega
  have HUF : Hid (edtK.flat V ++ edtK.flat X = edtK.flat U) := by show _ = _; rw [← edtK.flat_append, ← HUE.out]
  go_upto_region 3 with (at_builtin; go_loud (refine wpList_append_any rfl _ _ 39 rfl w1.heap.size 44 i0 zeroEdt.val 12 96 Tryz.underlying39 hi0 hz0 hz1 hz2 rfl (by decide) (.slice A2 V.length c2) V.length (edtK.flat V) rfl HOP.out F X.length fc (edtK.flat X) rfl (edtK.flat_len X) HNX.out (edtK.flat_ones X) (by unfold maxLen; omega) (by omega) hb31 ?_; intro v4 w4 ho4 hg4; rw [HUF.out, ← HUL.out] at ho4; obtain ⟨A4, cq, rfl⟩ := own_slice ho4; have HO4 := Lib.hid ho4; have HM4 := Lib.hid (HMP.out.grown hg4 (fun x hx e => by have := (HOP.out.lt _ e).1; simp only [List.mem_cons, List.not_mem_nil, or_false] at hx; rcases hx with rfl | rfl <;> dsimp only at this <;> omega)); have HB4 := Lib.hid (HBP.out.grown hg4 HBP.out.size (fun j e => by have := (HOP.out.lt _ e).1; omega)); clear ho4 hg4 p0 p1 p2 p3 p4 p5 g4; obtain ⟨p0, p1, p2, p3, p4, p5⟩ := HM4.out.2.1.c6; have g4 := HM4.out.2.1.fz 4))
  have lt4 := HM4.out.1.lt
  obtain ⟨g, hgA, hgb, hgl⟩ : ∃ g, A4 = some ⟨g, 0, none⟩ ∧ w1.heap.size ≤ g ∧ g < w4.heap.size := by
    rcases ownsRow_cases HO4.out with ⟨_, h2⟩ | ⟨g, cap, h1, h2, h3, _⟩
    · omega
    · injection h1 with h1
      exact ⟨g, h1, h2, h3⟩
  subst hgA
  obtain ⟨hH4, _, _⟩ := holdsK_own (R := edtK) rfl HO4.out
  have HH5 : Hid (HoldsK Edt.cells 12 (w4.setCell ⟨w.heap.size, 4, none⟩ (.slice (some ⟨g, 0, none⟩) U.length cq)) g 0 U.toArray) := fun j hj => by
    have := hH4 j hj
    rw [World.cell?_setCell_other _ _ _ _ (by intro e; injection e with e1 e2; omega)]
    exact ⟨this.1, (frozen_setCell_eq _ _ _ _).trans this.2⟩
  have HM5 := Lib.hid (show Bs [(w.heap.size + 1, 41, [.int .i64 0, .string ⟨#[]⟩, .string ⟨#[]⟩, .bool false, .slice none 0 0, .slice none 0 0]), (w.heap.size, 41, [.int .i64 pn, .string pc, .string pt, .bool ps, .slice (some ⟨g, 0, none⟩) U.length cq, .slice none 0 0])] _ from ⟨HM4.out.1.far (p := ⟨w.heap.size, 4, none⟩) (by dsimp only; omega) (.slice (some ⟨g, 0, none⟩) U.length cq), HM4.out.2.1.set 4 (.slice (some ⟨g, 0, none⟩) U.length cq), trivial⟩)
  have HB5 := Lib.hid (HB4.out.setCell (p := ⟨w.heap.size, 4, none⟩) (Nat.le_refl _) (.slice (some ⟨g, 0, none⟩) U.length cq))
  have hgl5 : g < (w4.setCell ⟨w.heap.size, 4, none⟩ (.slice (some ⟨g, 0, none⟩) U.length cq)).heap.size := by simpa [World.setCell] using hgl
  (generalize World.setCell _ _ _ = w5 at *)
  have hgw : g ≠ w.heap.size := by omega
  have hgw1 : g ≠ w.heap.size + 1 := by omega
  have hgW : w.heap.size ≤ g := by omega
  clear HO4 HM4 HB4 HMP HBP HOP HNX hgl p0 p1 p2 p3 p4 p5 g4 hH4 HBS lt1 lt2 lt3 lt4 hgb hb31 HE HF HUE HUF hn HUL hX
  obtain ⟨p0, p1, p2, p3, p4, p5⟩ := HM5.out.2.1.c6
  go_wp2_with fail
  clear p0 p1 p2 p3 p4 p5
  go_loopw [17] (fun i wx => ∃ (k : Nat) (d : Array Edt), i = .int .i64 k ∧ k ≤ U.length ∧ d.size = U.length ∧ (∀ j, j < U.length → d[j]! ∈ U) ∧ HoldsK Edt.cells 12 wx g 0 d ∧ g < wx.heap.size ∧ Below w.heap.size w wx ∧ Bs [(w.heap.size + 1, 41, [.int .i64 0, .string ⟨#[]⟩, .string ⟨#[]⟩, .bool false, .slice none 0 0, .slice none 0 0]), (w.heap.size, 41, [.int .i64 pn, .string pc, .string pt, .bool ps, .slice (some ⟨g, 0, none⟩) U.length cq, .slice none 0 0])] wx ∧ Hid (Sort.insOuter ltO 0 U.length k d = Sort.insOuter ltO 0 U.length 0 U.toArray)) (fun i _ => U.length - (intOf i).toNat)
  case atStart => exact ⟨0, U.toArray, rfl, Nat.zero_le _, by simp, fun j hj => by rw [getElem!_pos U.toArray j (by simpa using hj)]; simp, HH5.out, hgl5, HB5.out, HM5.out, rfl⟩
  case round =>
    obtain ⟨k, d, rfl, hk, hds, hdp, hH, hgl2, hB, hM, hI⟩ := hrel
    have HDP := Lib.hid hdp
    have HDS := Lib.hid hds
    have HH2 := Lib.hid hH
    have HB2 := Lib.hid hB
    have HM2 := Lib.hid hM
    clear hdp hH hB hds hM hgl5 HH5 HM5 HB5
    by_cases hlt : k < U.length
    · have HI2 : Hid (Sort.insOuter ltO 0 U.length (k + 1) (Sort.insInner ltO 0 k d) = Sort.insOuter ltO 0 U.length 0 U.toArray) := by
        show _ = _
        rw [← hI.out, insOuter_go _ _ _ _ _ hlt]
      clear hI
      obtain ⟨wo, rfl⟩ : ∃ wo : World, wo = wr := ⟨_, rfl⟩
      go_wp2_with fail
      go_loopw [6] (fun i wx => ∃ (j : Nat) (dj : Array Edt), i = .int .i64 j ∧ j ≤ k ∧ dj.size = U.length ∧ (∀ j, j < U.length → dj[j]! ∈ U) ∧ HoldsK Edt.cells 12 wx g 0 dj ∧ g < wx.heap.size ∧ Below w.heap.size w wx ∧ Bs [(w.heap.size + 1, 41, [.int .i64 0, .string ⟨#[]⟩, .string ⟨#[]⟩, .bool false, .slice none 0 0, .slice none 0 0]), (w.heap.size, 41, [.int .i64 pn, .string pc, .string pt, .bool ps, .slice (some ⟨g, 0, none⟩) U.length cq, .slice none 0 0])] wx ∧ Hid (Sort.insInner ltO 0 j dj = Sort.insInner ltO 0 k d)) (fun i _ => (intOf i).toNat)
      case atStart => exact ⟨k, d, rfl, Nat.le_refl _, HDS.out, HDP.out, HH2.out, hgl2, HB2.out, HM2.out, rfl⟩
      case round =>
        obtain ⟨j, dj, rfl, hj, hds, hdp, hH, hgl3, hB, hM, hI⟩ := hrel
        have HDP3 := Lib.hid hdp
        have HDS3 := Lib.hid hds
        have HH3 := Lib.hid hH
        have HB3 := Lib.hid hB
        have HM3 := Lib.hid hM
        have HI3 := Lib.hid hI
        clear hdp hH hB hds hM hI HH2 HB2 HM2 HDP HDS hgl2
        obtain ⟨wi, rfl⟩ : ∃ wi : World, wi = wr := ⟨_, rfl⟩
        have hS : Below wi.heap.size wi wi.drew := (Below.refl _ _).drew
        by_cases h0 : 0 < j
        · obtain ⟨jp, rfl⟩ : ∃ jp, j = jp + 1 := ⟨j - 1, by omega⟩
          obtain ⟨xj, hxj⟩ : ∃ x, dj[jp + 1]! = x := ⟨_, rfl⟩
          obtain ⟨xp, hxp⟩ : ∃ x, dj[jp]! = x := ⟨_, rfl⟩
          have sj := HS.out _ (HDP3.out (jp + 1) (by omega))
          have sp := HS.out _ (HDP3.out jp (by omega))
          rw [hxj] at sj
          rw [hxp] at sp
          have HORD : Hid (∀ y : Held (Below wi.heap.size wi), Calls Tryz.prog 54 #[.string xj.path, .string xp.path] y.w fun e w' => e = .returned (.int .i64 (ordH xj.path xp.path)) ∧ Below y.w.heap.size y.w w') := fun y =>
            rorder_any xj.path xp.path y.w sj sp (HG.out.below (HB3.out.trans (y.ok.mono HB3.out.size)))
          have cj := fun (y : Held (Below wi.heap.size wi)) c (hc : c < 12) => HoldsK.cell (holdsK_below HH3.out y.ok hgl3) (i := jp + 1) (c := c) (by rw [HDS3.out]; omega) hc
          have cp := fun (y : Held (Below wi.heap.size wi)) c (hc : c < 12) => HoldsK.cell (holdsK_below HH3.out y.ok hgl3) (i := jp) (c := c) (by rw [HDS3.out]; omega) hc
          have hlg := fun (y : Held (Below wi.heap.size wi)) => Nat.lt_of_lt_of_le hgl3 y.ok.size
          simp only [hxj, hxp, Nat.zero_add] at cj cp
          have HXJ := Lib.hid hxj
          have HXP := Lib.hid hxp
          have hlt1 : jp + 1 < U.length := by omega
          have hlt2 : jp < U.length := by omega
          clear hxj hxp sj sp
          obtain ⟨zc, hzc⟩ : ∃ z, ordH xj.path xp.path = z := ⟨_, rfl⟩
          rw [hzc] at HORD
          have HZC : Hid (ltO xj xp = decide (zc < 0)) := by show _ = _; unfold ltO; rw [hzc]
          clear hzc
          obtain ⟨a0, a1, ⟨a2, a3, a4, a5⟩, ⟨a6, a7⟩, a8, a9, a10, a11⟩ := xj
          obtain ⟨b0, b1, ⟨b2, b3, b4, b5⟩, ⟨b6, b7⟩, b8, b9, b10, b11⟩ := xp
          dsimp only at HORD
          have HCJ := Lib.hid cj
          have HCP := Lib.hid cp
          have j0 : ∀ y : Held (Below wi.heap.size wi), y.w.cell? ⟨g, (jp + 1) * 12, none⟩ = some (.string a0) := fun y => (HCJ.out y 0 (by omega)).1
          have p0 : ∀ y : Held (Below wi.heap.size wi), y.w.cell? ⟨g, jp * 12, none⟩ = some (.string b0) := fun y => (HCP.out y 0 (by omega)).1
          have q4 : ∀ y : Held (Below wi.heap.size wi), y.w.cell? ⟨w.heap.size, 4, none⟩ = some (.slice (some ⟨g, 0, none⟩) U.length cq) := fun y => (HM3.out.2.1.below y.ok).cell 4
          clear cj cp
          cases hlv : decide (zc < 0)
          · have hzn : ¬ zc < 0 := by simpa using hlv
            have hout : Hid (Sort.insInner ltO 0 k d = dj) := by
              show _ = _
              rw [← HI3.out]
              exact insInner_stop ltO 0 (jp + 1) dj (.inr (by simp only [Nat.add_sub_cancel]; rw [HXJ.out, HXP.out, HZC.out]; exact hlv))
            clear hlv
            go_wp2_with fail
            (refine wp_region_s (S := Below wi.heap.size wi) (by kernel_rfl) (by kernel_rfl) hS ?_; have hN : Nonempty (Held (Below wi.heap.size wi)) := ⟨⟨_, hS⟩⟩; skip; (repeat (go_big_quiet_step ((go_at_call 54; exact held_keep (HORD.out _))))); refine wpQuiet_nil ?_; rintro x ⟨⟨_, hx⟩, rfl⟩; clear hN)
            clear j0 p0 q4 hlg
            have HBX := Lib.hid (HB3.out.trans (hx.mono HB3.out.size))
            have HHX := Lib.hid (holdsK_below HH3.out hx hgl3)
            have HMX := Lib.hid (HM3.out.below hx)
            have hgx : g < x.heap.size := Nat.lt_of_lt_of_le hgl3 hx.size
            go_wp2_with fail
            go_roundw
            case rel => exact ⟨k + 1, dj, by go_num, by omega, HDS3.out, HDP3.out, HHX.out, hgx, HBX.out, HMX.out, by rw [← hout.out]; exact HI2⟩
            case measure => simp [intOf]; omega
          · have hzn : zc < 0 := by simpa using hlv
            have HLV := Lib.hid hlv
            clear hlv
            go_wp2_with fail
            (refine wp_region_s (S := Below wi.heap.size wi) (by kernel_rfl) (by kernel_rfl) hS ?_; have hN : Nonempty (Held (Below wi.heap.size wi)) := ⟨⟨_, hS⟩⟩; skip; (repeat (go_big_quiet_step ((go_at_call 54; exact held_keep (HORD.out _))))); refine wpQuiet_nil ?_; rintro x ⟨⟨_, hx⟩, rfl⟩; clear hN)
            clear j0 p0 q4 hlg
            go_wp2_with fail
            have hHx : HoldsK Edt.cells 12 x g 0 dj := holdsK_below HH3.out hx hgl3
            have hBx : Below w.heap.size w x := HB3.out.trans (hx.mono HB3.out.size)
            have HMX := Lib.hid (HM3.out.below hx)
            have hgx : g < x.heap.size := Nat.lt_of_lt_of_le hgl3 hx.size
            have hsw := swap_row edt_len hHx (i := jp + 1) (j := jp) (by rw [HDS3.out]; omega) (by rw [HDS3.out]; omega)
            have hbs := setCells_below (setCells_below hBx hgW (dj[jp]!).cells (0 + (jp + 1) * 12)) hgW (dj[jp + 1]!).cells (0 + jp * 12)
            have hss : g < ((x.setCells g (0 + (jp + 1) * 12) (dj[jp]!).cells).setCells g (0 + jp * 12) (dj[jp + 1]!).cells).heap.size := by rw [setCells_size, setCells_size]; exact hgx
            have hms : Bs [(w.heap.size + 1, 41, [.int .i64 0, .string ⟨#[]⟩, .string ⟨#[]⟩, .bool false, .slice none 0 0, .slice none 0 0]), (w.heap.size, 41, [.int .i64 pn, .string pc, .string pt, .bool ps, .slice (some ⟨g, 0, none⟩) U.length cq, .slice none 0 0])] ((x.setCells g (0 + (jp + 1) * 12) (dj[jp]!).cells).setCells g (0 + jp * 12) (dj[jp + 1]!).cells) := ⟨setCells_blk (setCells_blk HMX.out.1 (Ne.symm hgw1) _ _) (Ne.symm hgw1) _ _, setCells_blk (setCells_blk HMX.out.2.1 (Ne.symm hgw) _ _) (Ne.symm hgw) _ _, trivial⟩
            have cj := fun c (hc : c < 12) => HoldsK.cell hHx (i := jp + 1) (c := c) (by rw [HDS3.out]; omega) hc
            have cp := fun c (hc : c < 12) => HoldsK.cell hHx (i := jp) (c := c) (by rw [HDS3.out]; omega) hc
            rw [HXJ.out] at cj hsw hbs hss hms
            rw [HXP.out] at cp hsw hbs hss hms
            simp only [World.setCells, Edt.cells, Nat.zero_add, Nat.add_assoc, Nat.reduceAdd] at hsw hbs hss hms
            have HSW := Lib.hid hsw
            have HBS := Lib.hid hbs
            have HSS := Lib.hid hss
            have HMS := Lib.hid hms
            simp only [Nat.zero_add] at cj cp
            have j0 : x.cell? ⟨g, (jp + 1) * 12, none⟩ = some (.string a0) := (cj 0 (by omega)).1
            have fj0 : x.frozen? ⟨g, (jp + 1) * 12, none⟩ = false := (cj 0 (by omega)).2
            have j1 : x.cell? ⟨g, (jp + 1) * 12 + 1, none⟩ = some (.int .i64 a1) := (cj 1 (by omega)).1
            have fj1 : x.frozen? ⟨g, (jp + 1) * 12 + 1, none⟩ = false := (cj 1 (by omega)).2
            have j2 : x.cell? ⟨g, (jp + 1) * 12 + 2, none⟩ = some (.int .i64 a2) := (cj 2 (by omega)).1
            have fj2 : x.frozen? ⟨g, (jp + 1) * 12 + 2, none⟩ = false := (cj 2 (by omega)).2
            have j3 : x.cell? ⟨g, (jp + 1) * 12 + 3, none⟩ = some (.bool a3) := (cj 3 (by omega)).1
            have fj3 : x.frozen? ⟨g, (jp + 1) * 12 + 3, none⟩ = false := (cj 3 (by omega)).2
            have j4 : x.cell? ⟨g, (jp + 1) * 12 + 4, none⟩ = some (.bool a4) := (cj 4 (by omega)).1
            have fj4 : x.frozen? ⟨g, (jp + 1) * 12 + 4, none⟩ = false := (cj 4 (by omega)).2
            have j5 : x.cell? ⟨g, (jp + 1) * 12 + 5, none⟩ = some (.bool a5) := (cj 5 (by omega)).1
            have fj5 : x.frozen? ⟨g, (jp + 1) * 12 + 5, none⟩ = false := (cj 5 (by omega)).2
            have j6 : x.cell? ⟨g, (jp + 1) * 12 + 6, none⟩ = some (.int .u64 a6) := (cj 6 (by omega)).1
            have fj6 : x.frozen? ⟨g, (jp + 1) * 12 + 6, none⟩ = false := (cj 6 (by omega)).2
            have j7 : x.cell? ⟨g, (jp + 1) * 12 + 7, none⟩ = some (.int .i64 a7) := (cj 7 (by omega)).1
            have fj7 : x.frozen? ⟨g, (jp + 1) * 12 + 7, none⟩ = false := (cj 7 (by omega)).2
            have j8 : x.cell? ⟨g, (jp + 1) * 12 + 8, none⟩ = some (.int .i64 a8) := (cj 8 (by omega)).1
            have fj8 : x.frozen? ⟨g, (jp + 1) * 12 + 8, none⟩ = false := (cj 8 (by omega)).2
            have j9 : x.cell? ⟨g, (jp + 1) * 12 + 9, none⟩ = some (.string a9) := (cj 9 (by omega)).1
            have fj9 : x.frozen? ⟨g, (jp + 1) * 12 + 9, none⟩ = false := (cj 9 (by omega)).2
            have j10 : x.cell? ⟨g, (jp + 1) * 12 + 10, none⟩ = some (.int .i64 a10) := (cj 10 (by omega)).1
            have fj10 : x.frozen? ⟨g, (jp + 1) * 12 + 10, none⟩ = false := (cj 10 (by omega)).2
            have j11 : x.cell? ⟨g, (jp + 1) * 12 + 11, none⟩ = some (.int .i64 a11) := (cj 11 (by omega)).1
            have fj11 : x.frozen? ⟨g, (jp + 1) * 12 + 11, none⟩ = false := (cj 11 (by omega)).2
            have p0 : x.cell? ⟨g, jp * 12, none⟩ = some (.string b0) := (cp 0 (by omega)).1
            have fp0 : x.frozen? ⟨g, jp * 12, none⟩ = false := (cp 0 (by omega)).2
            have p1 : x.cell? ⟨g, jp * 12 + 1, none⟩ = some (.int .i64 b1) := (cp 1 (by omega)).1
            have fp1 : x.frozen? ⟨g, jp * 12 + 1, none⟩ = false := (cp 1 (by omega)).2
            have p2 : x.cell? ⟨g, jp * 12 + 2, none⟩ = some (.int .i64 b2) := (cp 2 (by omega)).1
            have fp2 : x.frozen? ⟨g, jp * 12 + 2, none⟩ = false := (cp 2 (by omega)).2
            have p3 : x.cell? ⟨g, jp * 12 + 3, none⟩ = some (.bool b3) := (cp 3 (by omega)).1
            have fp3 : x.frozen? ⟨g, jp * 12 + 3, none⟩ = false := (cp 3 (by omega)).2
            have p4 : x.cell? ⟨g, jp * 12 + 4, none⟩ = some (.bool b4) := (cp 4 (by omega)).1
            have fp4 : x.frozen? ⟨g, jp * 12 + 4, none⟩ = false := (cp 4 (by omega)).2
            have p5 : x.cell? ⟨g, jp * 12 + 5, none⟩ = some (.bool b5) := (cp 5 (by omega)).1
            have fp5 : x.frozen? ⟨g, jp * 12 + 5, none⟩ = false := (cp 5 (by omega)).2
            have p6 : x.cell? ⟨g, jp * 12 + 6, none⟩ = some (.int .u64 b6) := (cp 6 (by omega)).1
            have fp6 : x.frozen? ⟨g, jp * 12 + 6, none⟩ = false := (cp 6 (by omega)).2
            have p7 : x.cell? ⟨g, jp * 12 + 7, none⟩ = some (.int .i64 b7) := (cp 7 (by omega)).1
            have fp7 : x.frozen? ⟨g, jp * 12 + 7, none⟩ = false := (cp 7 (by omega)).2
            have p8 : x.cell? ⟨g, jp * 12 + 8, none⟩ = some (.int .i64 b8) := (cp 8 (by omega)).1
            have fp8 : x.frozen? ⟨g, jp * 12 + 8, none⟩ = false := (cp 8 (by omega)).2
            have p9 : x.cell? ⟨g, jp * 12 + 9, none⟩ = some (.string b9) := (cp 9 (by omega)).1
            have fp9 : x.frozen? ⟨g, jp * 12 + 9, none⟩ = false := (cp 9 (by omega)).2
            have p10 : x.cell? ⟨g, jp * 12 + 10, none⟩ = some (.int .i64 b10) := (cp 10 (by omega)).1
            have fp10 : x.frozen? ⟨g, jp * 12 + 10, none⟩ = false := (cp 10 (by omega)).2
            have p11 : x.cell? ⟨g, jp * 12 + 11, none⟩ = some (.int .i64 b11) := (cp 11 (by omega)).1
            have fp11 : x.frozen? ⟨g, jp * 12 + 11, none⟩ = false := (cp 11 (by omega)).2
            have q4 : x.cell? ⟨w.heap.size, 4, none⟩ = some (.slice (some ⟨g, 0, none⟩) U.length cq) := HMX.out.2.1.cell 4
            clear cj cp hsw hbs hss hms hx hHx
            go_region
            go_wp2_with fail
            go_roundw
            case rel =>
              refine ⟨jp, swp dj (jp + 1) jp, ?_, by omega, by rw [Sort.size_swp]; exact HDS3.out, ?_, ?_, ?_, ?_, ?_, ?_⟩
              · go_num
              · exact fun q hq => (swp_all (P := fun y : Edt => y ∈ U) (by rw [HDS3.out]; omega) (by rw [HDS3.out]; omega) (fun q hq => HDP3.out q (by rw [← HDS3.out]; exact hq)) q (by rw [HDS3.out]; exact hq))
              · refine holdsK_drew ?_
                with_reducible exact HSW.out
              · refine lt_drew ?_
                with_reducible exact HSS.out
              · refine Below.drew ?_
                with_reducible exact HBS.out
              · refine Bs.drew ?_
                with_reducible exact HMS.out
              · show _ = _
                have := insInner_go ltO 0 (jp + 1) dj h0 (by simp only [Nat.add_sub_cancel]; rw [HXJ.out, HXP.out, HZC.out]; exact HLV.out)
                simp only [Nat.add_sub_cancel] at this
                rw [← HI3.out, this]
            case measure => simp [intOf]
        · obtain rfl : j = 0 := by omega
          have hout : Hid (Sort.insInner ltO 0 k d = dj) := by
            show _ = _
            rw [← HI3.out]
            exact insInner_stop ltO 0 0 dj (.inl (Nat.le_refl _))
          go_wp2_with fail
          (refine wp_region_s (S := Below wi.heap.size wi) (by kernel_rfl) (by kernel_rfl) hS ?_; have hN : Nonempty (Held (Below wi.heap.size wi)) := ⟨⟨_, hS⟩⟩; skip; (repeat (go_big_quiet_step (fail))); refine wpQuiet_nil ?_; rintro x ⟨⟨_, hx⟩, rfl⟩; clear hN)
          go_wp2_with fail
          go_roundw
          case rel => exact ⟨k + 1, dj, by go_num, by omega, HDS3.out, HDP3.out, holdsK_below HH3.out hx hgl3, Nat.lt_of_lt_of_le hgl3 hx.size, HB3.out.trans (hx.mono HB3.out.size), HM3.out.below hx, by rw [← hout.out]; exact HI2⟩
          case measure => simp [intOf]; omega
    · obtain rfl : k = U.length := by omega
      have hend : Hid (S = d.toList) := by
        show _ = _
        rw [← HSO.out, ← hI.out, insOuter_stop _ _ _ _ _ (Nat.lt_irrefl _)]
      have hIn : Hid (edtK.In (some ⟨g, 0, none⟩) S wr) := fun _ => ⟨g, 0, rfl, hgl2, by rw [hend.out]; exact at_holdsK (R := edtK) HH2.out⟩
      obtain ⟨p0, p1, p2, p3, p4, p5⟩ := HM2.out.2.1.c6
      obtain ⟨z0, z1, z2, z3, z4, z5⟩ := HM2.out.1.c6
      have f0 := HM2.out.1.fz 0
      have f1 := HM2.out.1.fz 1
      have f2 := HM2.out.1.fz 2
      have f3 := HM2.out.1.fz 3
      have f4 := HM2.out.1.fz 4
      have f5 := HM2.out.1.fz 5
      have KZ := Lib.hid (zero_put HM2.out.1 (.int .i64 pn) (.string pc) (.string pt) (.bool ps) (.slice (some ⟨g, 0, none⟩) U.length cq) (.slice none 0 0))
      have HBZ := Lib.hid (below_put6 HB2.out (b := w.heap.size + 1) (by omega) (.int .i64 pn) (.string pc) (.string pt) (.bool ps) (.slice (some ⟨g, 0, none⟩) U.length cq) (.slice none 0 0))
      have HIZ := Lib.hid (in_put6 hIn.out (b := w.heap.size + 1) hgw1 (.int .i64 pn) (.string pc) (.string pt) (.bool ps) (.slice (some ⟨g, 0, none⟩) U.length cq) (.slice none 0 0))
      go_wp2_with fail
      (generalize World.setCell (World.setCell (World.setCell (World.setCell (World.setCell (World.setCell _ _ _) _ _) _ _) _ _) _ _) _ _ = wz at *)
      obtain ⟨y0, y1, y2, y3, y4, y5⟩ := KZ.out.c6
      refine bodyPost_ret (v := .agg #[.int .i64 pn, .string pc, .string pt, .bool ps, .slice (some ⟨g, 0, none⟩) U.length cq, .slice none 0 0]) (by simp [results, Tryz.results37, go_sem, y0, y1, y2, y3, y4, y5]) rfl ⟨some ⟨g, 0, none⟩, cq, ?_, HIZ.out, (fun b off e => by injection e with e; injection e with e; omega), HBZ.out⟩
      rw [← hSl]
      rfl
theorem rwith_any (p : Pnd) (X S : List Edt) (E R F : Option Addr) (ec rc fc : Nat) (w : World) (hE : edtK.In E p.edits w) (hF : edtK.In F X w) (hn : p.edits.length + X.length ≤ 1000) (hu : ∀ x ∈ p.edits ++ X, useB x.path = true) (hS : SrtE S) (hp : S.Perm (p.edits ++ X)) (hX : 0 < X.length) (hg : G0 w) :
    Calls Tryz.prog 37 #[pndV p E ec R rc, .slice F X.length fc] w (PndRet { p with edits := S } w) :=
  (rwithN_any p X S E R F ec rc fc w hE hF hn (fun x hx => use_size (hu x hx)) hS hp (by omega) hg).mono fun _ _ ⟨E', ec', h1, h2, h3, h4⟩ => ⟨E', ec', none, 0, h1, h2, h3, h4⟩
end Go.Proofs.YtocffknoeknabaaGreatDoor
