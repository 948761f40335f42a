/-
  The walks of changelist.Add, Edit, Delete (printed by mkadd.py).
-/
import Derived.Test.YtocffknoeknabaaGreatDoorClPo
import Derived.Test.YtocffknoeknabaaGreatDoorClH
namespace Go.Proofs.YtocffknoeknabaaGreatDoor
open Go.RowKit

set_option maxRecDepth 100000 in
set_option maxHeartbeats 6400000 in
theorem pAdd_any (d : List Rev) (p : Pnd) (s : ByteArray) (t : FTy) (c : Cid) (A B E R : Option Addr) (ca nb cb ec rc : Nat) (w : World) (h : revK.In A d w) (hE : edtK.In E p.edits w) (hok : EOk p.edits) (hn : d.length ≤ 512) (ha : Asc d) (hs : s.size ≤ 4294967281) :
    Calls Tryz.prog 25 #[pndV p E ec R rc, .agg #[.slice A d.length ca, .slice B nb cb], .string s, t.val, c.val] w (PRet (openP d p s 1 t c) w) := by
  have HI := Lib.hid h
  have HIE := Lib.hid hE
  have HOP := Lib.hid (fun w h1 h2 => opened_any d p s 1 t c A B E R ca nb cb ec rc w h1 h2 hok hn ha hs (by decide) (fun e => absurd e (by decide)))
  clear h hE hok ha hs
  generalize openP d p s 1 t c = q at *
  obtain ⟨pn, pc, pt, ps, V⟩ := p
  obtain ⟨tb, tk, te, tx⟩ := t
  obtain ⟨cs, cz⟩ := c
  unfold pndV pndC Edt.val Edt.cells FTy.val FTy.cells Cid.val Cid.cells at *
  dsimp only [zeroTy, zeroCon] at *
  go_enter Tryz.func25, Tryz.ntmps25
  go_upto_region 1 with fail
  generalize hw1 : World.alloc _ (.cells #[.int .i64 0, .string ⟨#[]⟩, .string ⟨#[]⟩, .bool false, .slice none 0 0, .slice none 0 0] 41) = w1
  have HM1 : Hid (Bs [(w.heap.size + 1 + 1 + 1 + 1, 41, [.int .i64 0, .string ⟨#[]⟩, .string ⟨#[]⟩, .bool false, .slice none 0 0, .slice none 0 0]), (w.heap.size + 1 + 1 + 1, 28, [.int .u64 cs, .int .i64 cz]), (w.heap.size + 1 + 1, 25, [.int .i64 tb, .bool tk, .bool te, .bool tx]), (w.heap.size + 1, 37, [.slice A d.length ca, .slice B nb cb]), (w.heap.size, 41, [.int .i64 pn, .string pc, .string pt, .bool ps, .slice E V.length ec, .slice R 0 rc])] w1) := by
    show Bs _ _
    rw [← hw1]
    exact ⟨blk_new4 _ _ _ _ _ _ _, Blk.alloc (Blk.new3 _ _ _ _ _ _) _, Blk.alloc (Blk.alloc (Blk.new2 _ _ _ _ _) _) _, Blk.alloc (Blk.alloc (Blk.alloc (Blk.new1 _ _ _ _) _) _) _, Blk.alloc (Blk.alloc (Blk.alloc (Blk.alloc (Blk.new _ _ _) _) _) _) _, trivial⟩
  have HB1 : Hid (Below w.heap.size w w1) := by
    show Below _ _ _
    rw [← hw1]
    (repeat (first | (with_reducible exact Below.refl _ _) | (with_reducible assumption) | (with_reducible refine Below.setCell ?_ ?_ _; rotate_left; focus (first | exact Nat.le_refl _ | (dsimp only; omega))) | (with_reducible refine Below.drew ?_) | (with_reducible refine below_drewN ?_ _) | (with_reducible refine Below.alloc ?_ ?_ _; rotate_left; focus (first | exact Nat.le_refl _ | (simp; done) | (simp; omega)))))
  clear hw1
  obtain ⟨p0, p1, p2, p3, p4, p5⟩ := HM1.out.2.2.2.2.1.c6
  obtain ⟨d0, d1⟩ := HM1.out.2.2.2.1.c2
  obtain ⟨t0, t1, t2, t3⟩ := blk_c4 HM1.out.2.2.1
  obtain ⟨c0, c1⟩ := HM1.out.2.1.c2
  have lt1 := HM1.out.1.lt
  go_wp2_with fail
  refine (HOP.out _ (HI.out.below HB1.out) (HIE.out.below HB1.out)).mono ?_
  rintro e w2 ⟨E2, e2, R2, r2, rfl, hI2, hf2, hb2⟩
  obtain ⟨⟨qn, qc, qt, qs, L⟩, qe⟩ := q
  unfold pndV pndC
  dsimp only at hI2 ⊢
  have HM2 := Lib.hid (HM1.out.below hb2)
  have HB2 := Lib.hid (HB1.out.trans (hb2.mono HB1.out.size))
  have HI2 := Lib.hid hI2
  have HF2 : Hid (∀ b off, E2 = some ⟨b, off, none⟩ → w.heap.size + 1 + 1 + 1 + 1 < b) := fun b off e => by have := hf2 b off e; omega
  clear hb2 hI2 hf2 HM1 HB1 p0 p1 p2 p3 p4 p5 d0 d1 t0 t1 t2 t3 c0 c1
  obtain ⟨z0, z1, z2, z3, z4, z5⟩ := HM2.out.1.c6
  have f0 := HM2.out.1.fz 0
  have f1 := HM2.out.1.fz 1
  have f2 := HM2.out.1.fz 2
  have f3 := HM2.out.1.fz 3
  have f4 := HM2.out.1.fz 4
  have f5 := HM2.out.1.fz 5
  go_wp2_with fail
  have KZ := Lib.hid (zero_put HM2.out.1 (.int .i64 qn) (.string qc) (.string qt) (.bool qs) (.slice E2 L.length e2) (.slice R2 0 r2))
  have HBZ := Lib.hid (below_put6 HB2.out (b := w.heap.size + 1 + 1 + 1 + 1) (by omega) (.int .i64 qn) (.string qc) (.string qt) (.bool qs) (.slice E2 L.length e2) (.slice R2 0 r2))
  have HIZ := Lib.hid (in_putF HI2.out (b := w.heap.size + 1 + 1 + 1 + 1) (fun b off e => by have := HF2.out b off e; omega) (.int .i64 qn) (.string qc) (.string qt) (.bool qs) (.slice E2 L.length e2) (.slice R2 0 r2))
  (generalize World.setCell (World.setCell (World.setCell (World.setCell (World.setCell (World.setCell _ _ _) _ _) _ _) _ _) _ _) _ _ = wz at *)
  obtain ⟨y0, y1, y2, y3, y4, y5⟩ := KZ.out.c6
  refine bodyPost_ret (v := .tuple #[.agg #[.int .i64 qn, .string qc, .string qt, .bool qs, .slice E2 L.length e2, .slice R2 0 r2], .int .i64 qe]) (by simp [results, Tryz.results25, go_sem, y0, y1, y2, y3, y4, y5]) rfl ?_
  exact ⟨E2, e2, R2, r2, rfl, HIZ.out, (fun b off e => by have := HF2.out b off e; omega), HBZ.out⟩
set_option maxRecDepth 100000 in
set_option maxHeartbeats 6400000 in
theorem pEdit_any (d : List Rev) (p : Pnd) (s : ByteArray) (t : FTy) (c : Cid) (A B E R : Option Addr) (ca nb cb ec rc : Nat) (w : World) (h : revK.In A d w) (hE : edtK.In E p.edits w) (hok : EOk p.edits) (hn : d.length ≤ 512) (ha : Asc d) (hs : s.size ≤ 4294967281) :
    Calls Tryz.prog 26 #[pndV p E ec R rc, .agg #[.slice A d.length ca, .slice B nb cb], .string s, t.val, c.val] w (PRet (openP d p s 2 t c) w) := by
  have HI := Lib.hid h
  have HIE := Lib.hid hE
  have HOP := Lib.hid (fun w h1 h2 => opened_any d p s 2 t c A B E R ca nb cb ec rc w h1 h2 hok hn ha hs (by decide) (fun e => absurd e (by decide)))
  clear h hE hok ha hs
  generalize openP d p s 2 t c = q at *
  obtain ⟨pn, pc, pt, ps, V⟩ := p
  obtain ⟨tb, tk, te, tx⟩ := t
  obtain ⟨cs, cz⟩ := c
  unfold pndV pndC Edt.val Edt.cells FTy.val FTy.cells Cid.val Cid.cells at *
  dsimp only [zeroTy, zeroCon] at *
  go_enter Tryz.func26, Tryz.ntmps26
  go_upto_region 1 with fail
  generalize hw1 : World.alloc _ (.cells #[.int .i64 0, .string ⟨#[]⟩, .string ⟨#[]⟩, .bool false, .slice none 0 0, .slice none 0 0] 41) = w1
  have HM1 : Hid (Bs [(w.heap.size + 1 + 1 + 1 + 1, 41, [.int .i64 0, .string ⟨#[]⟩, .string ⟨#[]⟩, .bool false, .slice none 0 0, .slice none 0 0]), (w.heap.size + 1 + 1 + 1, 28, [.int .u64 cs, .int .i64 cz]), (w.heap.size + 1 + 1, 25, [.int .i64 tb, .bool tk, .bool te, .bool tx]), (w.heap.size + 1, 37, [.slice A d.length ca, .slice B nb cb]), (w.heap.size, 41, [.int .i64 pn, .string pc, .string pt, .bool ps, .slice E V.length ec, .slice R 0 rc])] w1) := by
    show Bs _ _
    rw [← hw1]
    exact ⟨blk_new4 _ _ _ _ _ _ _, Blk.alloc (Blk.new3 _ _ _ _ _ _) _, Blk.alloc (Blk.alloc (Blk.new2 _ _ _ _ _) _) _, Blk.alloc (Blk.alloc (Blk.alloc (Blk.new1 _ _ _ _) _) _) _, Blk.alloc (Blk.alloc (Blk.alloc (Blk.alloc (Blk.new _ _ _) _) _) _) _, trivial⟩
  have HB1 : Hid (Below w.heap.size w w1) := by
    show Below _ _ _
    rw [← hw1]
    (repeat (first | (with_reducible exact Below.refl _ _) | (with_reducible assumption) | (with_reducible refine Below.setCell ?_ ?_ _; rotate_left; focus (first | exact Nat.le_refl _ | (dsimp only; omega))) | (with_reducible refine Below.drew ?_) | (with_reducible refine below_drewN ?_ _) | (with_reducible refine Below.alloc ?_ ?_ _; rotate_left; focus (first | exact Nat.le_refl _ | (simp; done) | (simp; omega)))))
  clear hw1
  obtain ⟨p0, p1, p2, p3, p4, p5⟩ := HM1.out.2.2.2.2.1.c6
  obtain ⟨d0, d1⟩ := HM1.out.2.2.2.1.c2
  obtain ⟨t0, t1, t2, t3⟩ := blk_c4 HM1.out.2.2.1
  obtain ⟨c0, c1⟩ := HM1.out.2.1.c2
  have lt1 := HM1.out.1.lt
  go_wp2_with fail
  refine (HOP.out _ (HI.out.below HB1.out) (HIE.out.below HB1.out)).mono ?_
  rintro e w2 ⟨E2, e2, R2, r2, rfl, hI2, hf2, hb2⟩
  obtain ⟨⟨qn, qc, qt, qs, L⟩, qe⟩ := q
  unfold pndV pndC
  dsimp only at hI2 ⊢
  have HM2 := Lib.hid (HM1.out.below hb2)
  have HB2 := Lib.hid (HB1.out.trans (hb2.mono HB1.out.size))
  have HI2 := Lib.hid hI2
  have HF2 : Hid (∀ b off, E2 = some ⟨b, off, none⟩ → w.heap.size + 1 + 1 + 1 + 1 < b) := fun b off e => by have := hf2 b off e; omega
  clear hb2 hI2 hf2 HM1 HB1 p0 p1 p2 p3 p4 p5 d0 d1 t0 t1 t2 t3 c0 c1
  obtain ⟨z0, z1, z2, z3, z4, z5⟩ := HM2.out.1.c6
  have f0 := HM2.out.1.fz 0
  have f1 := HM2.out.1.fz 1
  have f2 := HM2.out.1.fz 2
  have f3 := HM2.out.1.fz 3
  have f4 := HM2.out.1.fz 4
  have f5 := HM2.out.1.fz 5
  go_wp2_with fail
  have KZ := Lib.hid (zero_put HM2.out.1 (.int .i64 qn) (.string qc) (.string qt) (.bool qs) (.slice E2 L.length e2) (.slice R2 0 r2))
  have HBZ := Lib.hid (below_put6 HB2.out (b := w.heap.size + 1 + 1 + 1 + 1) (by omega) (.int .i64 qn) (.string qc) (.string qt) (.bool qs) (.slice E2 L.length e2) (.slice R2 0 r2))
  have HIZ := Lib.hid (in_putF HI2.out (b := w.heap.size + 1 + 1 + 1 + 1) (fun b off e => by have := HF2.out b off e; omega) (.int .i64 qn) (.string qc) (.string qt) (.bool qs) (.slice E2 L.length e2) (.slice R2 0 r2))
  (generalize World.setCell (World.setCell (World.setCell (World.setCell (World.setCell (World.setCell _ _ _) _ _) _ _) _ _) _ _) _ _ = wz at *)
  obtain ⟨y0, y1, y2, y3, y4, y5⟩ := KZ.out.c6
  refine bodyPost_ret (v := .tuple #[.agg #[.int .i64 qn, .string qc, .string qt, .bool qs, .slice E2 L.length e2, .slice R2 0 r2], .int .i64 qe]) (by simp [results, Tryz.results26, go_sem, y0, y1, y2, y3, y4, y5]) rfl ?_
  exact ⟨E2, e2, R2, r2, rfl, HIZ.out, (fun b off e => by have := HF2.out b off e; omega), HBZ.out⟩
set_option maxRecDepth 100000 in
set_option maxHeartbeats 6400000 in
theorem pDelete_any (d : List Rev) (p : Pnd) (s : ByteArray) (A B E R : Option Addr) (ca nb cb ec rc : Nat) (w : World) (h : revK.In A d w) (hE : edtK.In E p.edits w) (hok : EOk p.edits) (hn : d.length ≤ 512) (ha : Asc d) (hs : s.size ≤ 4294967281) :
    Calls Tryz.prog 27 #[pndV p E ec R rc, .agg #[.slice A d.length ca, .slice B nb cb], .string s] w (PRet (openP d p s 3 zeroTy zeroCon) w) := by
  have HI := Lib.hid h
  have HIE := Lib.hid hE
  have HOP := Lib.hid (fun w h1 h2 => opened_any d p s 3 zeroTy zeroCon A B E R ca nb cb ec rc w h1 h2 hok hn ha hs (by decide) (fun _ => ⟨rfl, rfl⟩))
  clear h hE hok ha hs
  generalize openP d p s 3 zeroTy zeroCon = q at *
  obtain ⟨pn, pc, pt, ps, V⟩ := p

  unfold pndV pndC Edt.val Edt.cells at *
  dsimp only [zeroTy, zeroCon] at *
  go_enter Tryz.func27, Tryz.ntmps27
  go_upto_region 1 with fail
  generalize hw1 : World.alloc _ (.cells #[.int .i64 0, .string ⟨#[]⟩, .string ⟨#[]⟩, .bool false, .slice none 0 0, .slice none 0 0] 41) = w1
  have HM1 : Hid (Bs [(w.heap.size + 1 + 1, 41, [.int .i64 0, .string ⟨#[]⟩, .string ⟨#[]⟩, .bool false, .slice none 0 0, .slice none 0 0]), (w.heap.size + 1, 37, [.slice A d.length ca, .slice B nb cb]), (w.heap.size, 41, [.int .i64 pn, .string pc, .string pt, .bool ps, .slice E V.length ec, .slice R 0 rc])] w1) := by
    show Bs _ _
    rw [← hw1]
    exact ⟨Blk.new2 _ _ _ _ _, (Blk.new1 _ _ _ _).alloc _, ((Blk.new _ _ _).alloc _).alloc _, trivial⟩
  have HB1 : Hid (Below w.heap.size w w1) := by
    show Below _ _ _
    rw [← hw1]
    (repeat (first | (with_reducible exact Below.refl _ _) | (with_reducible assumption) | (with_reducible refine Below.setCell ?_ ?_ _; rotate_left; focus (first | exact Nat.le_refl _ | (dsimp only; omega))) | (with_reducible refine Below.drew ?_) | (with_reducible refine below_drewN ?_ _) | (with_reducible refine Below.alloc ?_ ?_ _; rotate_left; focus (first | exact Nat.le_refl _ | (simp; done) | (simp; omega)))))
  clear hw1
  obtain ⟨p0, p1, p2, p3, p4, p5⟩ := HM1.out.2.2.1.c6
  obtain ⟨d0, d1⟩ := HM1.out.2.1.c2
  have lt1 := HM1.out.1.lt
  go_wp2_with fail
  refine (HOP.out _ (HI.out.below HB1.out) (HIE.out.below HB1.out)).mono ?_
  rintro e w2 ⟨E2, e2, R2, r2, rfl, hI2, hf2, hb2⟩
  obtain ⟨⟨qn, qc, qt, qs, L⟩, qe⟩ := q
  unfold pndV pndC
  dsimp only at hI2 ⊢
  have HM2 := Lib.hid (HM1.out.below hb2)
  have HB2 := Lib.hid (HB1.out.trans (hb2.mono HB1.out.size))
  have HI2 := Lib.hid hI2
  have HF2 : Hid (∀ b off, E2 = some ⟨b, off, none⟩ → w.heap.size + 1 + 1 < b) := fun b off e => by have := hf2 b off e; omega
  clear hb2 hI2 hf2 HM1 HB1 p0 p1 p2 p3 p4 p5 d0 d1
  obtain ⟨z0, z1, z2, z3, z4, z5⟩ := HM2.out.1.c6
  have f0 := HM2.out.1.fz 0
  have f1 := HM2.out.1.fz 1
  have f2 := HM2.out.1.fz 2
  have f3 := HM2.out.1.fz 3
  have f4 := HM2.out.1.fz 4
  have f5 := HM2.out.1.fz 5
  go_wp2_with fail
  have KZ := Lib.hid (zero_put HM2.out.1 (.int .i64 qn) (.string qc) (.string qt) (.bool qs) (.slice E2 L.length e2) (.slice R2 0 r2))
  have HBZ := Lib.hid (below_put6 HB2.out (b := w.heap.size + 1 + 1) (by omega) (.int .i64 qn) (.string qc) (.string qt) (.bool qs) (.slice E2 L.length e2) (.slice R2 0 r2))
  have HIZ := Lib.hid (in_putF HI2.out (b := w.heap.size + 1 + 1) (fun b off e => by have := HF2.out b off e; omega) (.int .i64 qn) (.string qc) (.string qt) (.bool qs) (.slice E2 L.length e2) (.slice R2 0 r2))
  (generalize World.setCell (World.setCell (World.setCell (World.setCell (World.setCell (World.setCell _ _ _) _ _) _ _) _ _) _ _) _ _ = wz at *)
  obtain ⟨y0, y1, y2, y3, y4, y5⟩ := KZ.out.c6
  refine bodyPost_ret (v := .tuple #[.agg #[.int .i64 qn, .string qc, .string qt, .bool qs, .slice E2 L.length e2, .slice R2 0 r2], .int .i64 qe]) (by simp [results, Tryz.results27, go_sem, y0, y1, y2, y3, y4, y5]) rfl ?_
  exact ⟨E2, e2, R2, r2, rfl, HIZ.out, (fun b off e => by have := HF2.out b off e; omega), HBZ.out⟩
end Go.Proofs.YtocffknoeknabaaGreatDoor
