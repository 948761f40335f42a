/-
  The walk of the statement's do (printed by mkpdo.py).
-/
import Derived.Test.YtocffknoeknabaaGreatDoorClAe
import Derived.Test.YtocffknoeknabaaGreatDoorClPs
import Derived.Test.YtocffknoeknabaaGreatDoorClPr
import Derived.Test.YtocffknoeknabaaGreatDoorClM2
import Derived.Test.YtocffknoeknabaaGreatDoorCgK
namespace Go.Proofs.YtocffknoeknabaaGreatDoor
open Go.RowKit

set_option maxRecDepth 100000 in
set_option maxHeartbeats 12800000 in
theorem pdo_any (d : List Rev) (p : Pnd) (o : Opr) (A B E R : Option Addr) (ca nb cb ec rc : Nat) (w : World) (h : revK.In A d w) (hE : edtK.In E p.edits w) (hok : EOk p.edits) (hn : d.length ≤ 512) (ha : Asc d) (hs : o.s.size ≤ 1048576) (ht : o.t.size ≤ 1048576) :
    Calls Tryz.prog 11 #[pndV p E ec R rc, .agg #[.slice A d.length ca, .slice B nb cb], o.val] w (PRet (doP d p o) w) := by
  have HI := Lib.hid h
  have HIE := Lib.hid hE
  obtain ⟨k, s, t, ⟨tb, tk, te, tx⟩, ⟨cs, cz⟩⟩ := o
  dsimp only at hs ht
  have H1 := Lib.hid (fun w h1 h2 => pAdd_any d p s ⟨tb, tk, te, tx⟩ ⟨cs, cz⟩ A B E R ca nb cb ec rc w h1 h2 hok hn ha (by omega))
  have H2 := Lib.hid (fun w h1 h2 => pEdit_any d p s ⟨tb, tk, te, tx⟩ ⟨cs, cz⟩ A B E R ca nb cb ec rc w h1 h2 hok hn ha (by omega))
  have H3 := Lib.hid (fun w h1 h2 => pDelete_any d p s A B E R ca nb cb ec rc w h1 h2 hok hn ha (by omega))
  have H4 := Lib.hid (fun w h1 h2 => move_any d p s t A B E R ca nb cb ec rc w h1 h2 hok hn ha (by omega) (by omega))
  have H5 := Lib.hid (fun w h2 => pset_any p s ⟨tb, tk, te, tx⟩ ⟨cs, cz⟩ E R ec rc w h2 hok (by omega))
  have H6 := Lib.hid (fun w h2 => prev_any p s E R ec rc w h2 hok (by omega))
  clear h hE hok ha hs ht
  have hk : k = 1 ∨ k = 2 ∨ k = 3 ∨ k = 4 ∨ k = 5 ∨ (k ≠ 1 ∧ k ≠ 2 ∧ k ≠ 3 ∧ k ≠ 4 ∧ k ≠ 5) := by omega
  rcases hk with rfl | rfl | rfl | rfl | rfl | ⟨hk1, hk2, hk3, hk4, hk5⟩
  · have hqq : doP d p ⟨1, s, t, ⟨tb, tk, te, tx⟩, ⟨cs, cz⟩⟩ = openP d p s 1 ⟨tb, tk, te, tx⟩ ⟨cs, cz⟩ := by simp [doP]
    rw [hqq]
    clear hqq H2 H3 H4 H5 H6
    generalize openP d p s 1 ⟨tb, tk, te, tx⟩ ⟨cs, cz⟩ = q at *
    obtain ⟨pn, pc, pt, ps, V⟩ := p
    unfold pndV pndC FTy.val FTy.cells Cid.val Cid.cells at *
    unfold Opr.val Opr.cells
    dsimp only [zeroTy, zeroCon] at *
    go_enter Tryz.func11, Tryz.ntmps11
    go_upto_region 1 with fail
    generalize hw1 : World.alloc _ (.cells #[.int .i64 0, .string ⟨#[]⟩, .string ⟨#[]⟩, .bool false, .slice none 0 0, .slice none 0 0] 41) = w1
    have HM1 : Hid (Bs [(w.heap.size + 1 + 1 + 1, 41, [.int .i64 0, .string ⟨#[]⟩, .string ⟨#[]⟩, .bool false, .slice none 0 0, .slice none 0 0]), (w.heap.size + 1 + 1, 30, [.int .i64 1, .string s, .string t, .int .i64 tb, .bool tk, .bool te, .bool tx, .int .u64 cs, .int .i64 cz]), (w.heap.size + 1, 37, [.slice A d.length ca, .slice B nb cb]), (w.heap.size, 41, [.int .i64 pn, .string pc, .string pt, .bool ps, .slice E V.length ec, .slice R 0 rc])] w1) := by
      show Bs _ _
      rw [← hw1]
      exact ⟨Blk.new3 _ _ _ _ _ _, Blk.alloc (Blk.new2 _ _ _ _ _) _, Blk.alloc (Blk.alloc (Blk.new1 _ _ _ _) _) _, Blk.alloc (Blk.alloc (Blk.alloc (Blk.new _ _ _) _) _) _, trivial⟩
    have HB1 : Hid (Below w.heap.size w w1) := by
      show Below _ _ _
      rw [← hw1]
      (repeat (first | (with_reducible exact Below.refl _ _) | (with_reducible assumption) | (with_reducible refine Below.setCell ?_ ?_ _; rotate_left; focus (first | exact Nat.le_refl _ | (dsimp only; omega))) | (with_reducible refine Below.drew ?_) | (with_reducible refine below_drewN ?_ _) | (with_reducible refine Below.alloc ?_ ?_ _; rotate_left; focus (first | exact Nat.le_refl _ | (simp; done) | (simp; omega)))))
    clear hw1
    obtain ⟨p0, p1, p2, p3, p4, p5⟩ := HM1.out.2.2.2.1.c6
    obtain ⟨d0, d1⟩ := HM1.out.2.2.1.c2
    obtain ⟨o0, o1, o2, o3, o4, o5, o6, o7, o8⟩ := HM1.out.2.1.c9
    have lt1 := HM1.out.1.lt
    -- MARKH1
    go_wp2_with fail
    refine (H1.out _ (HI.out.below HB1.out) (HIE.out.below HB1.out)).mono ?_
    rintro e w2 ⟨E2, e2, R2, r2, rfl, hI2, hf2, hb2⟩
    obtain ⟨⟨qn, qc, qt, qs, L⟩, qe⟩ := q
    unfold pndV pndC
    dsimp only at hI2 ⊢
    have HM2 := Lib.hid (HM1.out.below hb2)
    have HB2 := Lib.hid (HB1.out.trans (hb2.mono HB1.out.size))
    have HI2 := Lib.hid hI2
    have HF2 : Hid (∀ b off, E2 = some ⟨b, off, none⟩ → w.heap.size + 1 + 1 + 1 < b) := fun b off e => by have := hf2 b off e; omega
    clear hb2 hI2 hf2 HM1 HB1 p0 p1 p2 p3 p4 p5 d0 d1 o0 o1 o2 o3 o4 o5 o6 o7 o8
    obtain ⟨z0, z1, z2, z3, z4, z5⟩ := HM2.out.1.c6
    have f0 := HM2.out.1.fz 0
    have f1 := HM2.out.1.fz 1
    have f2 := HM2.out.1.fz 2
    have f3 := HM2.out.1.fz 3
    have f4 := HM2.out.1.fz 4
    have f5 := HM2.out.1.fz 5
    go_wp2_with fail
    have KZ := Lib.hid (zero_put HM2.out.1 (.int .i64 qn) (.string qc) (.string qt) (.bool qs) (.slice E2 L.length e2) (.slice R2 0 r2))
    have HBZ := Lib.hid (below_put6 HB2.out (b := w.heap.size + 1 + 1 + 1) (by omega) (.int .i64 qn) (.string qc) (.string qt) (.bool qs) (.slice E2 L.length e2) (.slice R2 0 r2))
    have HIZ := Lib.hid (in_putF HI2.out (b := w.heap.size + 1 + 1 + 1) (fun b off e => by have := HF2.out b off e; omega) (.int .i64 qn) (.string qc) (.string qt) (.bool qs) (.slice E2 L.length e2) (.slice R2 0 r2))
    (generalize World.setCell (World.setCell (World.setCell (World.setCell (World.setCell (World.setCell _ _ _) _ _) _ _) _ _) _ _) _ _ = wz at *)
    obtain ⟨y0, y1, y2, y3, y4, y5⟩ := KZ.out.c6
    refine bodyPost_ret (v := .tuple #[.agg #[.int .i64 qn, .string qc, .string qt, .bool qs, .slice E2 L.length e2, .slice R2 0 r2], .int .i64 qe]) (by simp [results, Tryz.results11, go_sem, y0, y1, y2, y3, y4, y5]) rfl ?_
    exact ⟨E2, e2, R2, r2, rfl, HIZ.out, (fun b off e => by have := HF2.out b off e; omega), HBZ.out⟩
  · have hqq : doP d p ⟨2, s, t, ⟨tb, tk, te, tx⟩, ⟨cs, cz⟩⟩ = openP d p s 2 ⟨tb, tk, te, tx⟩ ⟨cs, cz⟩ := by simp [doP]
    rw [hqq]
    clear hqq H1 H3 H4 H5 H6
    generalize openP d p s 2 ⟨tb, tk, te, tx⟩ ⟨cs, cz⟩ = q at *
    obtain ⟨pn, pc, pt, ps, V⟩ := p
    unfold pndV pndC FTy.val FTy.cells Cid.val Cid.cells at *
    unfold Opr.val Opr.cells
    dsimp only [zeroTy, zeroCon] at *
    go_enter Tryz.func11, Tryz.ntmps11
    go_upto_region 1 with fail
    generalize hw1 : World.alloc _ (.cells #[.int .i64 0, .string ⟨#[]⟩, .string ⟨#[]⟩, .bool false, .slice none 0 0, .slice none 0 0] 41) = w1
    have HM1 : Hid (Bs [(w.heap.size + 1 + 1 + 1, 41, [.int .i64 0, .string ⟨#[]⟩, .string ⟨#[]⟩, .bool false, .slice none 0 0, .slice none 0 0]), (w.heap.size + 1 + 1, 30, [.int .i64 2, .string s, .string t, .int .i64 tb, .bool tk, .bool te, .bool tx, .int .u64 cs, .int .i64 cz]), (w.heap.size + 1, 37, [.slice A d.length ca, .slice B nb cb]), (w.heap.size, 41, [.int .i64 pn, .string pc, .string pt, .bool ps, .slice E V.length ec, .slice R 0 rc])] w1) := by
      show Bs _ _
      rw [← hw1]
      exact ⟨Blk.new3 _ _ _ _ _ _, Blk.alloc (Blk.new2 _ _ _ _ _) _, Blk.alloc (Blk.alloc (Blk.new1 _ _ _ _) _) _, Blk.alloc (Blk.alloc (Blk.alloc (Blk.new _ _ _) _) _) _, trivial⟩
    have HB1 : Hid (Below w.heap.size w w1) := by
      show Below _ _ _
      rw [← hw1]
      (repeat (first | (with_reducible exact Below.refl _ _) | (with_reducible assumption) | (with_reducible refine Below.setCell ?_ ?_ _; rotate_left; focus (first | exact Nat.le_refl _ | (dsimp only; omega))) | (with_reducible refine Below.drew ?_) | (with_reducible refine below_drewN ?_ _) | (with_reducible refine Below.alloc ?_ ?_ _; rotate_left; focus (first | exact Nat.le_refl _ | (simp; done) | (simp; omega)))))
    clear hw1
    obtain ⟨p0, p1, p2, p3, p4, p5⟩ := HM1.out.2.2.2.1.c6
    obtain ⟨d0, d1⟩ := HM1.out.2.2.1.c2
    obtain ⟨o0, o1, o2, o3, o4, o5, o6, o7, o8⟩ := HM1.out.2.1.c9
    have lt1 := HM1.out.1.lt
    -- MARKH2
    go_wp2_with fail
    refine (H2.out _ (HI.out.below HB1.out) (HIE.out.below HB1.out)).mono ?_
    rintro e w2 ⟨E2, e2, R2, r2, rfl, hI2, hf2, hb2⟩
    obtain ⟨⟨qn, qc, qt, qs, L⟩, qe⟩ := q
    unfold pndV pndC
    dsimp only at hI2 ⊢
    have HM2 := Lib.hid (HM1.out.below hb2)
    have HB2 := Lib.hid (HB1.out.trans (hb2.mono HB1.out.size))
    have HI2 := Lib.hid hI2
    have HF2 : Hid (∀ b off, E2 = some ⟨b, off, none⟩ → w.heap.size + 1 + 1 + 1 < b) := fun b off e => by have := hf2 b off e; omega
    clear hb2 hI2 hf2 HM1 HB1 p0 p1 p2 p3 p4 p5 d0 d1 o0 o1 o2 o3 o4 o5 o6 o7 o8
    obtain ⟨z0, z1, z2, z3, z4, z5⟩ := HM2.out.1.c6
    have f0 := HM2.out.1.fz 0
    have f1 := HM2.out.1.fz 1
    have f2 := HM2.out.1.fz 2
    have f3 := HM2.out.1.fz 3
    have f4 := HM2.out.1.fz 4
    have f5 := HM2.out.1.fz 5
    go_wp2_with fail
    have KZ := Lib.hid (zero_put HM2.out.1 (.int .i64 qn) (.string qc) (.string qt) (.bool qs) (.slice E2 L.length e2) (.slice R2 0 r2))
    have HBZ := Lib.hid (below_put6 HB2.out (b := w.heap.size + 1 + 1 + 1) (by omega) (.int .i64 qn) (.string qc) (.string qt) (.bool qs) (.slice E2 L.length e2) (.slice R2 0 r2))
    have HIZ := Lib.hid (in_putF HI2.out (b := w.heap.size + 1 + 1 + 1) (fun b off e => by have := HF2.out b off e; omega) (.int .i64 qn) (.string qc) (.string qt) (.bool qs) (.slice E2 L.length e2) (.slice R2 0 r2))
    (generalize World.setCell (World.setCell (World.setCell (World.setCell (World.setCell (World.setCell _ _ _) _ _) _ _) _ _) _ _) _ _ = wz at *)
    obtain ⟨y0, y1, y2, y3, y4, y5⟩ := KZ.out.c6
    refine bodyPost_ret (v := .tuple #[.agg #[.int .i64 qn, .string qc, .string qt, .bool qs, .slice E2 L.length e2, .slice R2 0 r2], .int .i64 qe]) (by simp [results, Tryz.results11, go_sem, y0, y1, y2, y3, y4, y5]) rfl ?_
    exact ⟨E2, e2, R2, r2, rfl, HIZ.out, (fun b off e => by have := HF2.out b off e; omega), HBZ.out⟩
  · have hqq : doP d p ⟨3, s, t, ⟨tb, tk, te, tx⟩, ⟨cs, cz⟩⟩ = openP d p s 3 zeroTy zeroCon := by simp [doP]
    rw [hqq]
    clear hqq H1 H2 H4 H5 H6
    generalize openP d p s 3 zeroTy zeroCon = q at *
    obtain ⟨pn, pc, pt, ps, V⟩ := p
    unfold pndV pndC at *
    unfold Opr.val Opr.cells
    dsimp only [zeroTy, zeroCon] at *
    go_enter Tryz.func11, Tryz.ntmps11
    go_upto_region 1 with fail
    generalize hw1 : World.alloc _ (.cells #[.int .i64 0, .string ⟨#[]⟩, .string ⟨#[]⟩, .bool false, .slice none 0 0, .slice none 0 0] 41) = w1
    have HM1 : Hid (Bs [(w.heap.size + 1 + 1 + 1, 41, [.int .i64 0, .string ⟨#[]⟩, .string ⟨#[]⟩, .bool false, .slice none 0 0, .slice none 0 0]), (w.heap.size + 1 + 1, 30, [.int .i64 3, .string s, .string t, .int .i64 tb, .bool tk, .bool te, .bool tx, .int .u64 cs, .int .i64 cz]), (w.heap.size + 1, 37, [.slice A d.length ca, .slice B nb cb]), (w.heap.size, 41, [.int .i64 pn, .string pc, .string pt, .bool ps, .slice E V.length ec, .slice R 0 rc])] w1) := by
      show Bs _ _
      rw [← hw1]
      exact ⟨Blk.new3 _ _ _ _ _ _, Blk.alloc (Blk.new2 _ _ _ _ _) _, Blk.alloc (Blk.alloc (Blk.new1 _ _ _ _) _) _, Blk.alloc (Blk.alloc (Blk.alloc (Blk.new _ _ _) _) _) _, trivial⟩
    have HB1 : Hid (Below w.heap.size w w1) := by
      show Below _ _ _
      rw [← hw1]
      (repeat (first | (with_reducible exact Below.refl _ _) | (with_reducible assumption) | (with_reducible refine Below.setCell ?_ ?_ _; rotate_left; focus (first | exact Nat.le_refl _ | (dsimp only; omega))) | (with_reducible refine Below.drew ?_) | (with_reducible refine below_drewN ?_ _) | (with_reducible refine Below.alloc ?_ ?_ _; rotate_left; focus (first | exact Nat.le_refl _ | (simp; done) | (simp; omega)))))
    clear hw1
    obtain ⟨p0, p1, p2, p3, p4, p5⟩ := HM1.out.2.2.2.1.c6
    obtain ⟨d0, d1⟩ := HM1.out.2.2.1.c2
    obtain ⟨o0, o1, o2, o3, o4, o5, o6, o7, o8⟩ := HM1.out.2.1.c9
    have lt1 := HM1.out.1.lt
    -- MARKH3
    go_wp2_with fail
    refine (H3.out _ (HI.out.below HB1.out) (HIE.out.below HB1.out)).mono ?_
    rintro e w2 ⟨E2, e2, R2, r2, rfl, hI2, hf2, hb2⟩
    obtain ⟨⟨qn, qc, qt, qs, L⟩, qe⟩ := q
    unfold pndV pndC
    dsimp only at hI2 ⊢
    have HM2 := Lib.hid (HM1.out.below hb2)
    have HB2 := Lib.hid (HB1.out.trans (hb2.mono HB1.out.size))
    have HI2 := Lib.hid hI2
    have HF2 : Hid (∀ b off, E2 = some ⟨b, off, none⟩ → w.heap.size + 1 + 1 + 1 < b) := fun b off e => by have := hf2 b off e; omega
    clear hb2 hI2 hf2 HM1 HB1 p0 p1 p2 p3 p4 p5 d0 d1 o0 o1 o2 o3 o4 o5 o6 o7 o8
    obtain ⟨z0, z1, z2, z3, z4, z5⟩ := HM2.out.1.c6
    have f0 := HM2.out.1.fz 0
    have f1 := HM2.out.1.fz 1
    have f2 := HM2.out.1.fz 2
    have f3 := HM2.out.1.fz 3
    have f4 := HM2.out.1.fz 4
    have f5 := HM2.out.1.fz 5
    go_wp2_with fail
    have KZ := Lib.hid (zero_put HM2.out.1 (.int .i64 qn) (.string qc) (.string qt) (.bool qs) (.slice E2 L.length e2) (.slice R2 0 r2))
    have HBZ := Lib.hid (below_put6 HB2.out (b := w.heap.size + 1 + 1 + 1) (by omega) (.int .i64 qn) (.string qc) (.string qt) (.bool qs) (.slice E2 L.length e2) (.slice R2 0 r2))
    have HIZ := Lib.hid (in_putF HI2.out (b := w.heap.size + 1 + 1 + 1) (fun b off e => by have := HF2.out b off e; omega) (.int .i64 qn) (.string qc) (.string qt) (.bool qs) (.slice E2 L.length e2) (.slice R2 0 r2))
    (generalize World.setCell (World.setCell (World.setCell (World.setCell (World.setCell (World.setCell _ _ _) _ _) _ _) _ _) _ _) _ _ = wz at *)
    obtain ⟨y0, y1, y2, y3, y4, y5⟩ := KZ.out.c6
    refine bodyPost_ret (v := .tuple #[.agg #[.int .i64 qn, .string qc, .string qt, .bool qs, .slice E2 L.length e2, .slice R2 0 r2], .int .i64 qe]) (by simp [results, Tryz.results11, go_sem, y0, y1, y2, y3, y4, y5]) rfl ?_
    exact ⟨E2, e2, R2, r2, rfl, HIZ.out, (fun b off e => by have := HF2.out b off e; omega), HBZ.out⟩
  · have hqq : doP d p ⟨4, s, t, ⟨tb, tk, te, tx⟩, ⟨cs, cz⟩⟩ = moveP d p s t := by simp [doP]
    rw [hqq]
    clear hqq H1 H2 H3 H5 H6
    generalize moveP d p s t = q at *
    obtain ⟨pn, pc, pt, ps, V⟩ := p
    unfold pndV pndC at *
    unfold Opr.val Opr.cells
    dsimp only [zeroTy, zeroCon] at *
    go_enter Tryz.func11, Tryz.ntmps11
    go_upto_region 1 with fail
    generalize hw1 : World.alloc _ (.cells #[.int .i64 0, .string ⟨#[]⟩, .string ⟨#[]⟩, .bool false, .slice none 0 0, .slice none 0 0] 41) = w1
    have HM1 : Hid (Bs [(w.heap.size + 1 + 1 + 1, 41, [.int .i64 0, .string ⟨#[]⟩, .string ⟨#[]⟩, .bool false, .slice none 0 0, .slice none 0 0]), (w.heap.size + 1 + 1, 30, [.int .i64 4, .string s, .string t, .int .i64 tb, .bool tk, .bool te, .bool tx, .int .u64 cs, .int .i64 cz]), (w.heap.size + 1, 37, [.slice A d.length ca, .slice B nb cb]), (w.heap.size, 41, [.int .i64 pn, .string pc, .string pt, .bool ps, .slice E V.length ec, .slice R 0 rc])] w1) := by
      show Bs _ _
      rw [← hw1]
      exact ⟨Blk.new3 _ _ _ _ _ _, Blk.alloc (Blk.new2 _ _ _ _ _) _, Blk.alloc (Blk.alloc (Blk.new1 _ _ _ _) _) _, Blk.alloc (Blk.alloc (Blk.alloc (Blk.new _ _ _) _) _) _, trivial⟩
    have HB1 : Hid (Below w.heap.size w w1) := by
      show Below _ _ _
      rw [← hw1]
      (repeat (first | (with_reducible exact Below.refl _ _) | (with_reducible assumption) | (with_reducible refine Below.setCell ?_ ?_ _; rotate_left; focus (first | exact Nat.le_refl _ | (dsimp only; omega))) | (with_reducible refine Below.drew ?_) | (with_reducible refine below_drewN ?_ _) | (with_reducible refine Below.alloc ?_ ?_ _; rotate_left; focus (first | exact Nat.le_refl _ | (simp; done) | (simp; omega)))))
    clear hw1
    obtain ⟨p0, p1, p2, p3, p4, p5⟩ := HM1.out.2.2.2.1.c6
    obtain ⟨d0, d1⟩ := HM1.out.2.2.1.c2
    obtain ⟨o0, o1, o2, o3, o4, o5, o6, o7, o8⟩ := HM1.out.2.1.c9
    have lt1 := HM1.out.1.lt
    -- MARKH4
    go_wp2_with fail
    refine (H4.out _ (HI.out.below HB1.out) (HIE.out.below HB1.out)).mono ?_
    rintro e w2 ⟨E2, e2, R2, r2, rfl, hI2, hf2, hb2⟩
    obtain ⟨⟨qn, qc, qt, qs, L⟩, qe⟩ := q
    unfold pndV pndC
    dsimp only at hI2 ⊢
    have HM2 := Lib.hid (HM1.out.below hb2)
    have HB2 := Lib.hid (HB1.out.trans (hb2.mono HB1.out.size))
    have HI2 := Lib.hid hI2
    have HF2 : Hid (∀ b off, E2 = some ⟨b, off, none⟩ → w.heap.size + 1 + 1 + 1 < b) := fun b off e => by have := hf2 b off e; omega
    clear hb2 hI2 hf2 HM1 HB1 p0 p1 p2 p3 p4 p5 d0 d1 o0 o1 o2 o3 o4 o5 o6 o7 o8
    obtain ⟨z0, z1, z2, z3, z4, z5⟩ := HM2.out.1.c6
    have f0 := HM2.out.1.fz 0
    have f1 := HM2.out.1.fz 1
    have f2 := HM2.out.1.fz 2
    have f3 := HM2.out.1.fz 3
    have f4 := HM2.out.1.fz 4
    have f5 := HM2.out.1.fz 5
    go_wp2_with fail
    have KZ := Lib.hid (zero_put HM2.out.1 (.int .i64 qn) (.string qc) (.string qt) (.bool qs) (.slice E2 L.length e2) (.slice R2 0 r2))
    have HBZ := Lib.hid (below_put6 HB2.out (b := w.heap.size + 1 + 1 + 1) (by omega) (.int .i64 qn) (.string qc) (.string qt) (.bool qs) (.slice E2 L.length e2) (.slice R2 0 r2))
    have HIZ := Lib.hid (in_putF HI2.out (b := w.heap.size + 1 + 1 + 1) (fun b off e => by have := HF2.out b off e; omega) (.int .i64 qn) (.string qc) (.string qt) (.bool qs) (.slice E2 L.length e2) (.slice R2 0 r2))
    (generalize World.setCell (World.setCell (World.setCell (World.setCell (World.setCell (World.setCell _ _ _) _ _) _ _) _ _) _ _) _ _ = wz at *)
    obtain ⟨y0, y1, y2, y3, y4, y5⟩ := KZ.out.c6
    refine bodyPost_ret (v := .tuple #[.agg #[.int .i64 qn, .string qc, .string qt, .bool qs, .slice E2 L.length e2, .slice R2 0 r2], .int .i64 qe]) (by simp [results, Tryz.results11, go_sem, y0, y1, y2, y3, y4, y5]) rfl ?_
    exact ⟨E2, e2, R2, r2, rfl, HIZ.out, (fun b off e => by have := HF2.out b off e; omega), HBZ.out⟩
  · have hqq : doP d p ⟨5, s, t, ⟨tb, tk, te, tx⟩, ⟨cs, cz⟩⟩ = setP p s ⟨tb, tk, te, tx⟩ ⟨cs, cz⟩ := by simp [doP]
    rw [hqq]
    clear hqq H1 H2 H3 H4 H6
    generalize setP p s ⟨tb, tk, te, tx⟩ ⟨cs, cz⟩ = q at *
    obtain ⟨pn, pc, pt, ps, V⟩ := p
    unfold pndV pndC FTy.val FTy.cells Cid.val Cid.cells at *
    unfold Opr.val Opr.cells
    dsimp only [zeroTy, zeroCon] at *
    go_enter Tryz.func11, Tryz.ntmps11
    go_upto_region 1 with fail
    generalize hw1 : World.alloc _ (.cells #[.int .i64 0, .string ⟨#[]⟩, .string ⟨#[]⟩, .bool false, .slice none 0 0, .slice none 0 0] 41) = w1
    have HM1 : Hid (Bs [(w.heap.size + 1 + 1 + 1, 41, [.int .i64 0, .string ⟨#[]⟩, .string ⟨#[]⟩, .bool false, .slice none 0 0, .slice none 0 0]), (w.heap.size + 1 + 1, 30, [.int .i64 5, .string s, .string t, .int .i64 tb, .bool tk, .bool te, .bool tx, .int .u64 cs, .int .i64 cz]), (w.heap.size + 1, 37, [.slice A d.length ca, .slice B nb cb]), (w.heap.size, 41, [.int .i64 pn, .string pc, .string pt, .bool ps, .slice E V.length ec, .slice R 0 rc])] w1) := by
      show Bs _ _
      rw [← hw1]
      exact ⟨Blk.new3 _ _ _ _ _ _, Blk.alloc (Blk.new2 _ _ _ _ _) _, Blk.alloc (Blk.alloc (Blk.new1 _ _ _ _) _) _, Blk.alloc (Blk.alloc (Blk.alloc (Blk.new _ _ _) _) _) _, trivial⟩
    have HB1 : Hid (Below w.heap.size w w1) := by
      show Below _ _ _
      rw [← hw1]
      (repeat (first | (with_reducible exact Below.refl _ _) | (with_reducible assumption) | (with_reducible refine Below.setCell ?_ ?_ _; rotate_left; focus (first | exact Nat.le_refl _ | (dsimp only; omega))) | (with_reducible refine Below.drew ?_) | (with_reducible refine below_drewN ?_ _) | (with_reducible refine Below.alloc ?_ ?_ _; rotate_left; focus (first | exact Nat.le_refl _ | (simp; done) | (simp; omega)))))
    clear hw1
    obtain ⟨p0, p1, p2, p3, p4, p5⟩ := HM1.out.2.2.2.1.c6
    obtain ⟨d0, d1⟩ := HM1.out.2.2.1.c2
    obtain ⟨o0, o1, o2, o3, o4, o5, o6, o7, o8⟩ := HM1.out.2.1.c9
    have lt1 := HM1.out.1.lt
    -- MARKH5
    go_wp2_with fail
    refine (H5.out _ (HIE.out.below HB1.out)).mono ?_
    rintro e w2 ⟨E2, e2, R2, r2, rfl, hI2, hf2, hb2⟩
    obtain ⟨⟨qn, qc, qt, qs, L⟩, qe⟩ := q
    unfold pndV pndC
    dsimp only at hI2 ⊢
    have HM2 := Lib.hid (HM1.out.below hb2)
    have HB2 := Lib.hid (HB1.out.trans (hb2.mono HB1.out.size))
    have HI2 := Lib.hid hI2
    have HF2 : Hid (∀ b off, E2 = some ⟨b, off, none⟩ → w.heap.size + 1 + 1 + 1 < b) := fun b off e => by have := hf2 b off e; omega
    clear hb2 hI2 hf2 HM1 HB1 p0 p1 p2 p3 p4 p5 d0 d1 o0 o1 o2 o3 o4 o5 o6 o7 o8
    obtain ⟨z0, z1, z2, z3, z4, z5⟩ := HM2.out.1.c6
    have f0 := HM2.out.1.fz 0
    have f1 := HM2.out.1.fz 1
    have f2 := HM2.out.1.fz 2
    have f3 := HM2.out.1.fz 3
    have f4 := HM2.out.1.fz 4
    have f5 := HM2.out.1.fz 5
    go_wp2_with fail
    have KZ := Lib.hid (zero_put HM2.out.1 (.int .i64 qn) (.string qc) (.string qt) (.bool qs) (.slice E2 L.length e2) (.slice R2 0 r2))
    have HBZ := Lib.hid (below_put6 HB2.out (b := w.heap.size + 1 + 1 + 1) (by omega) (.int .i64 qn) (.string qc) (.string qt) (.bool qs) (.slice E2 L.length e2) (.slice R2 0 r2))
    have HIZ := Lib.hid (in_putF HI2.out (b := w.heap.size + 1 + 1 + 1) (fun b off e => by have := HF2.out b off e; omega) (.int .i64 qn) (.string qc) (.string qt) (.bool qs) (.slice E2 L.length e2) (.slice R2 0 r2))
    (generalize World.setCell (World.setCell (World.setCell (World.setCell (World.setCell (World.setCell _ _ _) _ _) _ _) _ _) _ _) _ _ = wz at *)
    obtain ⟨y0, y1, y2, y3, y4, y5⟩ := KZ.out.c6
    refine bodyPost_ret (v := .tuple #[.agg #[.int .i64 qn, .string qc, .string qt, .bool qs, .slice E2 L.length e2, .slice R2 0 r2], .int .i64 qe]) (by simp [results, Tryz.results11, go_sem, y0, y1, y2, y3, y4, y5]) rfl ?_
    exact ⟨E2, e2, R2, r2, rfl, HIZ.out, (fun b off e => by have := HF2.out b off e; omega), HBZ.out⟩
  · have hqq : doP d p ⟨k, s, t, ⟨tb, tk, te, tx⟩, ⟨cs, cz⟩⟩ = revP p s := by simp [doP, hk1, hk2, hk3, hk4, hk5]
    rw [hqq]
    clear hqq H1 H2 H3 H4 H5
    generalize revP p s = q at *
    obtain ⟨pn, pc, pt, ps, V⟩ := p
    unfold pndV pndC at *
    unfold Opr.val Opr.cells
    dsimp only [zeroTy, zeroCon] at *
    go_enter Tryz.func11, Tryz.ntmps11
    go_upto_region 1 with fail
    generalize hw1 : World.alloc _ (.cells #[.int .i64 0, .string ⟨#[]⟩, .string ⟨#[]⟩, .bool false, .slice none 0 0, .slice none 0 0] 41) = w1
    have HM1 : Hid (Bs [(w.heap.size + 1 + 1 + 1, 41, [.int .i64 0, .string ⟨#[]⟩, .string ⟨#[]⟩, .bool false, .slice none 0 0, .slice none 0 0]), (w.heap.size + 1 + 1, 30, [.int .i64 k, .string s, .string t, .int .i64 tb, .bool tk, .bool te, .bool tx, .int .u64 cs, .int .i64 cz]), (w.heap.size + 1, 37, [.slice A d.length ca, .slice B nb cb]), (w.heap.size, 41, [.int .i64 pn, .string pc, .string pt, .bool ps, .slice E V.length ec, .slice R 0 rc])] w1) := by
      show Bs _ _
      rw [← hw1]
      exact ⟨Blk.new3 _ _ _ _ _ _, Blk.alloc (Blk.new2 _ _ _ _ _) _, Blk.alloc (Blk.alloc (Blk.new1 _ _ _ _) _) _, Blk.alloc (Blk.alloc (Blk.alloc (Blk.new _ _ _) _) _) _, trivial⟩
    have HB1 : Hid (Below w.heap.size w w1) := by
      show Below _ _ _
      rw [← hw1]
      (repeat (first | (with_reducible exact Below.refl _ _) | (with_reducible assumption) | (with_reducible refine Below.setCell ?_ ?_ _; rotate_left; focus (first | exact Nat.le_refl _ | (dsimp only; omega))) | (with_reducible refine Below.drew ?_) | (with_reducible refine below_drewN ?_ _) | (with_reducible refine Below.alloc ?_ ?_ _; rotate_left; focus (first | exact Nat.le_refl _ | (simp; done) | (simp; omega)))))
    clear hw1
    obtain ⟨p0, p1, p2, p3, p4, p5⟩ := HM1.out.2.2.2.1.c6
    obtain ⟨d0, d1⟩ := HM1.out.2.2.1.c2
    obtain ⟨o0, o1, o2, o3, o4, o5, o6, o7, o8⟩ := HM1.out.2.1.c9
    have lt1 := HM1.out.1.lt
    have k1a : (k == 1) = false := by simpa using hk1
    have k1b : decide (k = 1) = false := by simpa using hk1
    have k2a : (k == 2) = false := by simpa using hk2
    have k2b : decide (k = 2) = false := by simpa using hk2
    have k3a : (k == 3) = false := by simpa using hk3
    have k3b : decide (k = 3) = false := by simpa using hk3
    have k4a : (k == 4) = false := by simpa using hk4
    have k4b : decide (k = 4) = false := by simpa using hk4
    have k5a : (k == 5) = false := by simpa using hk5
    have k5b : decide (k = 5) = false := by simpa using hk5
    -- MARKH6
    go_wp2_with fail
    refine (H6.out _ (HIE.out.below HB1.out)).mono ?_
    rintro e w2 ⟨E2, e2, R2, r2, rfl, hI2, hf2, hb2⟩
    obtain ⟨⟨qn, qc, qt, qs, L⟩, qe⟩ := q
    unfold pndV pndC
    dsimp only at hI2 ⊢
    have HM2 := Lib.hid (HM1.out.below hb2)
    have HB2 := Lib.hid (HB1.out.trans (hb2.mono HB1.out.size))
    have HI2 := Lib.hid hI2
    have HF2 : Hid (∀ b off, E2 = some ⟨b, off, none⟩ → w.heap.size + 1 + 1 + 1 < b) := fun b off e => by have := hf2 b off e; omega
    clear hb2 hI2 hf2 HM1 HB1 p0 p1 p2 p3 p4 p5 d0 d1 o0 o1 o2 o3 o4 o5 o6 o7 o8
    obtain ⟨z0, z1, z2, z3, z4, z5⟩ := HM2.out.1.c6
    have f0 := HM2.out.1.fz 0
    have f1 := HM2.out.1.fz 1
    have f2 := HM2.out.1.fz 2
    have f3 := HM2.out.1.fz 3
    have f4 := HM2.out.1.fz 4
    have f5 := HM2.out.1.fz 5
    go_wp2_with fail
    have KZ := Lib.hid (zero_put HM2.out.1 (.int .i64 qn) (.string qc) (.string qt) (.bool qs) (.slice E2 L.length e2) (.slice R2 0 r2))
    have HBZ := Lib.hid (below_put6 HB2.out (b := w.heap.size + 1 + 1 + 1) (by omega) (.int .i64 qn) (.string qc) (.string qt) (.bool qs) (.slice E2 L.length e2) (.slice R2 0 r2))
    have HIZ := Lib.hid (in_putF HI2.out (b := w.heap.size + 1 + 1 + 1) (fun b off e => by have := HF2.out b off e; omega) (.int .i64 qn) (.string qc) (.string qt) (.bool qs) (.slice E2 L.length e2) (.slice R2 0 r2))
    (generalize World.setCell (World.setCell (World.setCell (World.setCell (World.setCell (World.setCell _ _ _) _ _) _ _) _ _) _ _) _ _ = wz at *)
    obtain ⟨y0, y1, y2, y3, y4, y5⟩ := KZ.out.c6
    refine bodyPost_ret (v := .tuple #[.agg #[.int .i64 qn, .string qc, .string qt, .bool qs, .slice E2 L.length e2, .slice R2 0 r2], .int .i64 qe]) (by simp [results, Tryz.results11, go_sem, y0, y1, y2, y3, y4, y5]) rfl ?_
    exact ⟨E2, e2, R2, r2, rfl, HIZ.out, (fun b off e => by have := HF2.out b off e; omega), HBZ.out⟩
end Go.Proofs.YtocffknoeknabaaGreatDoor
