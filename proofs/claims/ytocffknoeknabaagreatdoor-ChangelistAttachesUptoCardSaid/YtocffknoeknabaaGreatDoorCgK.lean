/-
  The base for seats without the journal (joined by a program of ours from our own texts).
-/
import Derived.Test.YtocffknoeknabaaGreatDoorClRm
import Derived.Test.YtocffknoeknabaaGreatDoorClRv
import Derived.Test.YtocffknoeknabaaGreatDoorClS
import Derived.Test.YtocffknoeknabaaGreatDoorClM
import Derived.Test.YtocffknoeknabaaGreatDoorCgI
import Derived.Test.YtocffknoeknabaaGreatDoorCgC
namespace Go.Proofs.YtocffknoeknabaaGreatDoor
section
open Go.RowKit

theorem Blk.c9 {b : Nat} {T : TypeId} {x : World} {v0 v1 v2 v3 v4 v5 v6 v7 v8 : Value} (h : Blk b T [v0, v1, v2, v3, v4, v5, v6, v7, v8] x) : x.cell? ⟨b, 0, none⟩ = some v0 ∧ x.cell? ⟨b, 1, none⟩ = some v1 ∧ x.cell? ⟨b, 2, none⟩ = some v2 ∧ x.cell? ⟨b, 3, none⟩ = some v3 ∧ x.cell? ⟨b, 4, none⟩ = some v4 ∧ x.cell? ⟨b, 5, none⟩ = some v5 ∧ x.cell? ⟨b, 6, none⟩ = some v6 ∧ x.cell? ⟨b, 7, none⟩ = some v7 ∧ x.cell? ⟨b, 8, none⟩ = some v8 := ⟨h.cell 0, h.cell 1, h.cell 2, h.cell 3, h.cell 4, h.cell 5, h.cell 6, h.cell 7, h.cell 8⟩
set_option maxRecDepth 100000 in
set_option maxHeartbeats 12800000 in
theorem rdo_any (d : List Rev) (p : Pnd) (o : Opr) (A B E R : Option Addr) (ca nb cb ec rc : Nat) (w : World) (h : revK.In A d w) (hE : edtK.In E p.edits w) (hok : EOk p.edits) (hn : d.length ≤ 512) (ha : Asc d) (hs : o.s.size ≤ 1048576) (ht : o.t.size ≤ 1048576) (hg : G0 w) :
    Calls Tryz.prog 24 #[pndV p E ec R rc, .agg #[.slice A d.length ca, .slice B nb cb], o.val] w (PRet (doP d p o) w) := by
  have HI := Lib.hid h
  have HIE := Lib.hid hE
  have HG := Lib.hid hg
  obtain ⟨k, s, t, ⟨tb, tk, te, tx⟩, ⟨cs, cz⟩⟩ := o
  dsimp only at hs ht
  have H1 := Lib.hid (fun w h1 h2 h3 => ropen_any d p s 1 ⟨tb, tk, te, tx⟩ ⟨cs, cz⟩ A B E R ca nb cb ec rc w h1 h2 hok hn ha (by omega) (by decide) h3)
  have H2 := Lib.hid (fun w h1 h2 h3 => ropen_any d p s 2 ⟨tb, tk, te, tx⟩ ⟨cs, cz⟩ A B E R ca nb cb ec rc w h1 h2 hok hn ha (by omega) (by decide) h3)
  have H3 := Lib.hid (fun w h1 h2 h3 => ropen_any d p s 3 zeroTy zeroCon A B E R ca nb cb ec rc w h1 h2 hok hn ha (by omega) (by decide) h3)
  have H4 := Lib.hid (fun w h1 h2 h3 => rmove_any d p s t A B E R ca nb cb ec rc w h1 h2 hok hn ha (by omega) (by omega) h3)
  have H5 := Lib.hid (fun w h2 => rset_any p s ⟨tb, tk, te, tx⟩ ⟨cs, cz⟩ E R ec rc w h2 hok)
  have H6 := Lib.hid (fun w h2 => rrev_any p s E R ec rc w h2 hok)
  clear h hE hok ha hs ht hg
  have hk : k = 1 ∨ k = 2 ∨ k = 3 ∨ k = 4 ∨ k = 5 ∨ (k ≠ 1 ∧ k ≠ 2 ∧ k ≠ 3 ∧ k ≠ 4 ∧ k ≠ 5) := by omega
  rcases hk with rfl | rfl | rfl | rfl | rfl | ⟨hk1, hk2, hk3, hk4, hk5⟩
  · have hqq : doP d p ⟨1, s, t, ⟨tb, tk, te, tx⟩, ⟨cs, cz⟩⟩ = openP d p s 1 ⟨tb, tk, te, tx⟩ ⟨cs, cz⟩ := by simp [doP]
    rw [hqq]
    clear hqq H2 H3 H4 H5 H6
    generalize openP d p s 1 ⟨tb, tk, te, tx⟩ ⟨cs, cz⟩ = q at *
    obtain ⟨pn, pc, pt, ps, V⟩ := p
    unfold pndV pndC FTy.val FTy.cells Cid.val Cid.cells at *
    unfold Opr.val Opr.cells
    dsimp only [zeroTy, zeroCon] at *
    go_enter Tryz.func24, Tryz.ntmps24
    go_upto_region 1 with fail
    generalize hw1 : World.alloc _ (.cells #[.int .i64 0, .string ⟨#[]⟩, .string ⟨#[]⟩, .bool false, .slice none 0 0, .slice none 0 0] 41) = w1
    have HM1 : Hid (Bs [(w.heap.size + 1 + 1 + 1, 41, [.int .i64 0, .string ⟨#[]⟩, .string ⟨#[]⟩, .bool false, .slice none 0 0, .slice none 0 0]), (w.heap.size + 1 + 1, 30, [.int .i64 1, .string s, .string t, .int .i64 tb, .bool tk, .bool te, .bool tx, .int .u64 cs, .int .i64 cz]), (w.heap.size + 1, 37, [.slice A d.length ca, .slice B nb cb]), (w.heap.size, 41, [.int .i64 pn, .string pc, .string pt, .bool ps, .slice E V.length ec, .slice R 0 rc])] w1) := by
      show Bs _ _
      rw [← hw1]
      exact ⟨Blk.new3 _ _ _ _ _ _, Blk.alloc (Blk.new2 _ _ _ _ _) _, Blk.alloc (Blk.alloc (Blk.new1 _ _ _ _) _) _, Blk.alloc (Blk.alloc (Blk.alloc (Blk.new _ _ _) _) _) _, trivial⟩
    have HB1 : Hid (Below w.heap.size w w1) := by
      show Below _ _ _
      rw [← hw1]
      (repeat (first | (with_reducible exact Below.refl _ _) | (with_reducible assumption) | (with_reducible refine Below.setCell ?_ ?_ _; rotate_left; focus (first | exact Nat.le_refl _ | (dsimp only; omega))) | (with_reducible refine Below.drew ?_) | (with_reducible refine below_drewN ?_ _) | (with_reducible refine Below.alloc ?_ ?_ _; rotate_left; focus (first | exact Nat.le_refl _ | (simp; done) | (simp; omega)))))
    clear hw1
    obtain ⟨p0, p1, p2, p3, p4, p5⟩ := HM1.out.2.2.2.1.c6
    obtain ⟨d0, d1⟩ := HM1.out.2.2.1.c2
    obtain ⟨o0, o1, o2, o3, o4, o5, o6, o7, o8⟩ := HM1.out.2.1.c9
    have lt1 := HM1.out.1.lt
    -- MARKH1
    go_wp2_with fail
    refine (H1.out _ (HI.out.below HB1.out) (HIE.out.below HB1.out) (HG.out.below HB1.out)).mono ?_
    rintro e w2 ⟨E2, e2, R2, r2, rfl, hI2, hf2, hb2⟩
    obtain ⟨⟨qn, qc, qt, qs, L⟩, qe⟩ := q
    unfold pndV pndC
    dsimp only at hI2 ⊢
    have HM2 := Lib.hid (HM1.out.below hb2)
    have HB2 := Lib.hid (HB1.out.trans (hb2.mono HB1.out.size))
    have HI2 := Lib.hid hI2
    have HF2 : Hid (∀ b off, E2 = some ⟨b, off, none⟩ → w.heap.size + 1 + 1 + 1 < b) := fun b off e => by have := hf2 b off e; omega
    clear hb2 hI2 hf2 HM1 HB1 p0 p1 p2 p3 p4 p5 d0 d1 o0 o1 o2 o3 o4 o5 o6 o7 o8
    obtain ⟨z0, z1, z2, z3, z4, z5⟩ := HM2.out.1.c6
    have f0 := HM2.out.1.fz 0
    have f1 := HM2.out.1.fz 1
    have f2 := HM2.out.1.fz 2
    have f3 := HM2.out.1.fz 3
    have f4 := HM2.out.1.fz 4
    have f5 := HM2.out.1.fz 5
    go_wp2_with fail
    have KZ := Lib.hid (zero_put HM2.out.1 (.int .i64 qn) (.string qc) (.string qt) (.bool qs) (.slice E2 L.length e2) (.slice R2 0 r2))
    have HBZ := Lib.hid (below_put6 HB2.out (b := w.heap.size + 1 + 1 + 1) (by omega) (.int .i64 qn) (.string qc) (.string qt) (.bool qs) (.slice E2 L.length e2) (.slice R2 0 r2))
    have HIZ := Lib.hid (in_putF HI2.out (b := w.heap.size + 1 + 1 + 1) (fun b off e => by have := HF2.out b off e; omega) (.int .i64 qn) (.string qc) (.string qt) (.bool qs) (.slice E2 L.length e2) (.slice R2 0 r2))
    (generalize World.setCell (World.setCell (World.setCell (World.setCell (World.setCell (World.setCell _ _ _) _ _) _ _) _ _) _ _) _ _ = wz at *)
    obtain ⟨y0, y1, y2, y3, y4, y5⟩ := KZ.out.c6
    refine bodyPost_ret (v := .tuple #[.agg #[.int .i64 qn, .string qc, .string qt, .bool qs, .slice E2 L.length e2, .slice R2 0 r2], .int .i64 qe]) (by simp [results, Tryz.results24, go_sem, y0, y1, y2, y3, y4, y5]) rfl ?_
    exact ⟨E2, e2, R2, r2, rfl, HIZ.out, (fun b off e => by have := HF2.out b off e; omega), HBZ.out⟩
  · have hqq : doP d p ⟨2, s, t, ⟨tb, tk, te, tx⟩, ⟨cs, cz⟩⟩ = openP d p s 2 ⟨tb, tk, te, tx⟩ ⟨cs, cz⟩ := by simp [doP]
    rw [hqq]
    clear hqq H1 H3 H4 H5 H6
    generalize openP d p s 2 ⟨tb, tk, te, tx⟩ ⟨cs, cz⟩ = q at *
    obtain ⟨pn, pc, pt, ps, V⟩ := p
    unfold pndV pndC FTy.val FTy.cells Cid.val Cid.cells at *
    unfold Opr.val Opr.cells
    dsimp only [zeroTy, zeroCon] at *
    go_enter Tryz.func24, Tryz.ntmps24
    go_upto_region 1 with fail
    generalize hw1 : World.alloc _ (.cells #[.int .i64 0, .string ⟨#[]⟩, .string ⟨#[]⟩, .bool false, .slice none 0 0, .slice none 0 0] 41) = w1
    have HM1 : Hid (Bs [(w.heap.size + 1 + 1 + 1, 41, [.int .i64 0, .string ⟨#[]⟩, .string ⟨#[]⟩, .bool false, .slice none 0 0, .slice none 0 0]), (w.heap.size + 1 + 1, 30, [.int .i64 2, .string s, .string t, .int .i64 tb, .bool tk, .bool te, .bool tx, .int .u64 cs, .int .i64 cz]), (w.heap.size + 1, 37, [.slice A d.length ca, .slice B nb cb]), (w.heap.size, 41, [.int .i64 pn, .string pc, .string pt, .bool ps, .slice E V.length ec, .slice R 0 rc])] w1) := by
      show Bs _ _
      rw [← hw1]
      exact ⟨Blk.new3 _ _ _ _ _ _, Blk.alloc (Blk.new2 _ _ _ _ _) _, Blk.alloc (Blk.alloc (Blk.new1 _ _ _ _) _) _, Blk.alloc (Blk.alloc (Blk.alloc (Blk.new _ _ _) _) _) _, trivial⟩
    have HB1 : Hid (Below w.heap.size w w1) := by
      show Below _ _ _
      rw [← hw1]
      (repeat (first | (with_reducible exact Below.refl _ _) | (with_reducible assumption) | (with_reducible refine Below.setCell ?_ ?_ _; rotate_left; focus (first | exact Nat.le_refl _ | (dsimp only; omega))) | (with_reducible refine Below.drew ?_) | (with_reducible refine below_drewN ?_ _) | (with_reducible refine Below.alloc ?_ ?_ _; rotate_left; focus (first | exact Nat.le_refl _ | (simp; done) | (simp; omega)))))
    clear hw1
    obtain ⟨p0, p1, p2, p3, p4, p5⟩ := HM1.out.2.2.2.1.c6
    obtain ⟨d0, d1⟩ := HM1.out.2.2.1.c2
    obtain ⟨o0, o1, o2, o3, o4, o5, o6, o7, o8⟩ := HM1.out.2.1.c9
    have lt1 := HM1.out.1.lt
    -- MARKH2
    go_wp2_with fail
    refine (H2.out _ (HI.out.below HB1.out) (HIE.out.below HB1.out) (HG.out.below HB1.out)).mono ?_
    rintro e w2 ⟨E2, e2, R2, r2, rfl, hI2, hf2, hb2⟩
    obtain ⟨⟨qn, qc, qt, qs, L⟩, qe⟩ := q
    unfold pndV pndC
    dsimp only at hI2 ⊢
    have HM2 := Lib.hid (HM1.out.below hb2)
    have HB2 := Lib.hid (HB1.out.trans (hb2.mono HB1.out.size))
    have HI2 := Lib.hid hI2
    have HF2 : Hid (∀ b off, E2 = some ⟨b, off, none⟩ → w.heap.size + 1 + 1 + 1 < b) := fun b off e => by have := hf2 b off e; omega
    clear hb2 hI2 hf2 HM1 HB1 p0 p1 p2 p3 p4 p5 d0 d1 o0 o1 o2 o3 o4 o5 o6 o7 o8
    obtain ⟨z0, z1, z2, z3, z4, z5⟩ := HM2.out.1.c6
    have f0 := HM2.out.1.fz 0
    have f1 := HM2.out.1.fz 1
    have f2 := HM2.out.1.fz 2
    have f3 := HM2.out.1.fz 3
    have f4 := HM2.out.1.fz 4
    have f5 := HM2.out.1.fz 5
    go_wp2_with fail
    have KZ := Lib.hid (zero_put HM2.out.1 (.int .i64 qn) (.string qc) (.string qt) (.bool qs) (.slice E2 L.length e2) (.slice R2 0 r2))
    have HBZ := Lib.hid (below_put6 HB2.out (b := w.heap.size + 1 + 1 + 1) (by omega) (.int .i64 qn) (.string qc) (.string qt) (.bool qs) (.slice E2 L.length e2) (.slice R2 0 r2))
    have HIZ := Lib.hid (in_putF HI2.out (b := w.heap.size + 1 + 1 + 1) (fun b off e => by have := HF2.out b off e; omega) (.int .i64 qn) (.string qc) (.string qt) (.bool qs) (.slice E2 L.length e2) (.slice R2 0 r2))
    (generalize World.setCell (World.setCell (World.setCell (World.setCell (World.setCell (World.setCell _ _ _) _ _) _ _) _ _) _ _) _ _ = wz at *)
    obtain ⟨y0, y1, y2, y3, y4, y5⟩ := KZ.out.c6
    refine bodyPost_ret (v := .tuple #[.agg #[.int .i64 qn, .string qc, .string qt, .bool qs, .slice E2 L.length e2, .slice R2 0 r2], .int .i64 qe]) (by simp [results, Tryz.results24, go_sem, y0, y1, y2, y3, y4, y5]) rfl ?_
    exact ⟨E2, e2, R2, r2, rfl, HIZ.out, (fun b off e => by have := HF2.out b off e; omega), HBZ.out⟩
  · have hqq : doP d p ⟨3, s, t, ⟨tb, tk, te, tx⟩, ⟨cs, cz⟩⟩ = openP d p s 3 zeroTy zeroCon := by simp [doP]
    rw [hqq]
    clear hqq H1 H2 H4 H5 H6
    generalize openP d p s 3 zeroTy zeroCon = q at *
    obtain ⟨pn, pc, pt, ps, V⟩ := p
    unfold pndV pndC FTy.val FTy.cells Cid.val Cid.cells at *
    unfold Opr.val Opr.cells
    dsimp only [zeroTy, zeroCon] at *
    go_enter Tryz.func24, Tryz.ntmps24
    go_upto_region 1 with fail
    generalize hw1 : World.alloc _ (.cells #[.int .i64 0, .string ⟨#[]⟩, .string ⟨#[]⟩, .bool false, .slice none 0 0, .slice none 0 0] 41) = w1
    have HM1 : Hid (Bs [(w.heap.size + 1 + 1 + 1, 41, [.int .i64 0, .string ⟨#[]⟩, .string ⟨#[]⟩, .bool false, .slice none 0 0, .slice none 0 0]), (w.heap.size + 1 + 1, 30, [.int .i64 3, .string s, .string t, .int .i64 tb, .bool tk, .bool te, .bool tx, .int .u64 cs, .int .i64 cz]), (w.heap.size + 1, 37, [.slice A d.length ca, .slice B nb cb]), (w.heap.size, 41, [.int .i64 pn, .string pc, .string pt, .bool ps, .slice E V.length ec, .slice R 0 rc])] w1) := by
      show Bs _ _
      rw [← hw1]
      exact ⟨Blk.new3 _ _ _ _ _ _, Blk.alloc (Blk.new2 _ _ _ _ _) _, Blk.alloc (Blk.alloc (Blk.new1 _ _ _ _) _) _, Blk.alloc (Blk.alloc (Blk.alloc (Blk.new _ _ _) _) _) _, trivial⟩
    have HB1 : Hid (Below w.heap.size w w1) := by
      show Below _ _ _
      rw [← hw1]
      (repeat (first | (with_reducible exact Below.refl _ _) | (with_reducible assumption) | (with_reducible refine Below.setCell ?_ ?_ _; rotate_left; focus (first | exact Nat.le_refl _ | (dsimp only; omega))) | (with_reducible refine Below.drew ?_) | (with_reducible refine below_drewN ?_ _) | (with_reducible refine Below.alloc ?_ ?_ _; rotate_left; focus (first | exact Nat.le_refl _ | (simp; done) | (simp; omega)))))
    clear hw1
    obtain ⟨p0, p1, p2, p3, p4, p5⟩ := HM1.out.2.2.2.1.c6
    obtain ⟨d0, d1⟩ := HM1.out.2.2.1.c2
    obtain ⟨o0, o1, o2, o3, o4, o5, o6, o7, o8⟩ := HM1.out.2.1.c9
    have lt1 := HM1.out.1.lt
    -- MARKH3
    go_wp2_with fail
    refine (H3.out _ (HI.out.below HB1.out) (HIE.out.below HB1.out) (HG.out.below HB1.out)).mono ?_
    rintro e w2 ⟨E2, e2, R2, r2, rfl, hI2, hf2, hb2⟩
    obtain ⟨⟨qn, qc, qt, qs, L⟩, qe⟩ := q
    unfold pndV pndC
    dsimp only at hI2 ⊢
    have HM2 := Lib.hid (HM1.out.below hb2)
    have HB2 := Lib.hid (HB1.out.trans (hb2.mono HB1.out.size))
    have HI2 := Lib.hid hI2
    have HF2 : Hid (∀ b off, E2 = some ⟨b, off, none⟩ → w.heap.size + 1 + 1 + 1 < b) := fun b off e => by have := hf2 b off e; omega
    clear hb2 hI2 hf2 HM1 HB1 p0 p1 p2 p3 p4 p5 d0 d1 o0 o1 o2 o3 o4 o5 o6 o7 o8
    obtain ⟨z0, z1, z2, z3, z4, z5⟩ := HM2.out.1.c6
    have f0 := HM2.out.1.fz 0
    have f1 := HM2.out.1.fz 1
    have f2 := HM2.out.1.fz 2
    have f3 := HM2.out.1.fz 3
    have f4 := HM2.out.1.fz 4
    have f5 := HM2.out.1.fz 5
    go_wp2_with fail
    have KZ := Lib.hid (zero_put HM2.out.1 (.int .i64 qn) (.string qc) (.string qt) (.bool qs) (.slice E2 L.length e2) (.slice R2 0 r2))
    have HBZ := Lib.hid (below_put6 HB2.out (b := w.heap.size + 1 + 1 + 1) (by omega) (.int .i64 qn) (.string qc) (.string qt) (.bool qs) (.slice E2 L.length e2) (.slice R2 0 r2))
    have HIZ := Lib.hid (in_putF HI2.out (b := w.heap.size + 1 + 1 + 1) (fun b off e => by have := HF2.out b off e; omega) (.int .i64 qn) (.string qc) (.string qt) (.bool qs) (.slice E2 L.length e2) (.slice R2 0 r2))
    (generalize World.setCell (World.setCell (World.setCell (World.setCell (World.setCell (World.setCell _ _ _) _ _) _ _) _ _) _ _) _ _ = wz at *)
    obtain ⟨y0, y1, y2, y3, y4, y5⟩ := KZ.out.c6
    refine bodyPost_ret (v := .tuple #[.agg #[.int .i64 qn, .string qc, .string qt, .bool qs, .slice E2 L.length e2, .slice R2 0 r2], .int .i64 qe]) (by simp [results, Tryz.results24, go_sem, y0, y1, y2, y3, y4, y5]) rfl ?_
    exact ⟨E2, e2, R2, r2, rfl, HIZ.out, (fun b off e => by have := HF2.out b off e; omega), HBZ.out⟩
  · have hqq : doP d p ⟨4, s, t, ⟨tb, tk, te, tx⟩, ⟨cs, cz⟩⟩ = moveP d p s t := by simp [doP]
    rw [hqq]
    clear hqq H1 H2 H3 H5 H6
    generalize moveP d p s t = q at *
    obtain ⟨pn, pc, pt, ps, V⟩ := p
    unfold pndV pndC at *
    unfold Opr.val Opr.cells
    dsimp only [zeroTy, zeroCon] at *
    go_enter Tryz.func24, Tryz.ntmps24
    go_upto_region 1 with fail
    generalize hw1 : World.alloc _ (.cells #[.int .i64 0, .string ⟨#[]⟩, .string ⟨#[]⟩, .bool false, .slice none 0 0, .slice none 0 0] 41) = w1
    have HM1 : Hid (Bs [(w.heap.size + 1 + 1 + 1, 41, [.int .i64 0, .string ⟨#[]⟩, .string ⟨#[]⟩, .bool false, .slice none 0 0, .slice none 0 0]), (w.heap.size + 1 + 1, 30, [.int .i64 4, .string s, .string t, .int .i64 tb, .bool tk, .bool te, .bool tx, .int .u64 cs, .int .i64 cz]), (w.heap.size + 1, 37, [.slice A d.length ca, .slice B nb cb]), (w.heap.size, 41, [.int .i64 pn, .string pc, .string pt, .bool ps, .slice E V.length ec, .slice R 0 rc])] w1) := by
      show Bs _ _
      rw [← hw1]
      exact ⟨Blk.new3 _ _ _ _ _ _, Blk.alloc (Blk.new2 _ _ _ _ _) _, Blk.alloc (Blk.alloc (Blk.new1 _ _ _ _) _) _, Blk.alloc (Blk.alloc (Blk.alloc (Blk.new _ _ _) _) _) _, trivial⟩
    have HB1 : Hid (Below w.heap.size w w1) := by
      show Below _ _ _
      rw [← hw1]
      (repeat (first | (with_reducible exact Below.refl _ _) | (with_reducible assumption) | (with_reducible refine Below.setCell ?_ ?_ _; rotate_left; focus (first | exact Nat.le_refl _ | (dsimp only; omega))) | (with_reducible refine Below.drew ?_) | (with_reducible refine below_drewN ?_ _) | (with_reducible refine Below.alloc ?_ ?_ _; rotate_left; focus (first | exact Nat.le_refl _ | (simp; done) | (simp; omega)))))
    clear hw1
    obtain ⟨p0, p1, p2, p3, p4, p5⟩ := HM1.out.2.2.2.1.c6
    obtain ⟨d0, d1⟩ := HM1.out.2.2.1.c2
    obtain ⟨o0, o1, o2, o3, o4, o5, o6, o7, o8⟩ := HM1.out.2.1.c9
    have lt1 := HM1.out.1.lt
    -- MARKH4
    go_wp2_with fail
    refine (H4.out _ (HI.out.below HB1.out) (HIE.out.below HB1.out) (HG.out.below HB1.out)).mono ?_
    rintro e w2 ⟨E2, e2, R2, r2, rfl, hI2, hf2, hb2⟩
    obtain ⟨⟨qn, qc, qt, qs, L⟩, qe⟩ := q
    unfold pndV pndC
    dsimp only at hI2 ⊢
    have HM2 := Lib.hid (HM1.out.below hb2)
    have HB2 := Lib.hid (HB1.out.trans (hb2.mono HB1.out.size))
    have HI2 := Lib.hid hI2
    have HF2 : Hid (∀ b off, E2 = some ⟨b, off, none⟩ → w.heap.size + 1 + 1 + 1 < b) := fun b off e => by have := hf2 b off e; omega
    clear hb2 hI2 hf2 HM1 HB1 p0 p1 p2 p3 p4 p5 d0 d1 o0 o1 o2 o3 o4 o5 o6 o7 o8
    obtain ⟨z0, z1, z2, z3, z4, z5⟩ := HM2.out.1.c6
    have f0 := HM2.out.1.fz 0
    have f1 := HM2.out.1.fz 1
    have f2 := HM2.out.1.fz 2
    have f3 := HM2.out.1.fz 3
    have f4 := HM2.out.1.fz 4
    have f5 := HM2.out.1.fz 5
    go_wp2_with fail
    have KZ := Lib.hid (zero_put HM2.out.1 (.int .i64 qn) (.string qc) (.string qt) (.bool qs) (.slice E2 L.length e2) (.slice R2 0 r2))
    have HBZ := Lib.hid (below_put6 HB2.out (b := w.heap.size + 1 + 1 + 1) (by omega) (.int .i64 qn) (.string qc) (.string qt) (.bool qs) (.slice E2 L.length e2) (.slice R2 0 r2))
    have HIZ := Lib.hid (in_putF HI2.out (b := w.heap.size + 1 + 1 + 1) (fun b off e => by have := HF2.out b off e; omega) (.int .i64 qn) (.string qc) (.string qt) (.bool qs) (.slice E2 L.length e2) (.slice R2 0 r2))
    (generalize World.setCell (World.setCell (World.setCell (World.setCell (World.setCell (World.setCell _ _ _) _ _) _ _) _ _) _ _) _ _ = wz at *)
    obtain ⟨y0, y1, y2, y3, y4, y5⟩ := KZ.out.c6
    refine bodyPost_ret (v := .tuple #[.agg #[.int .i64 qn, .string qc, .string qt, .bool qs, .slice E2 L.length e2, .slice R2 0 r2], .int .i64 qe]) (by simp [results, Tryz.results24, go_sem, y0, y1, y2, y3, y4, y5]) rfl ?_
    exact ⟨E2, e2, R2, r2, rfl, HIZ.out, (fun b off e => by have := HF2.out b off e; omega), HBZ.out⟩
  · have hqq : doP d p ⟨5, s, t, ⟨tb, tk, te, tx⟩, ⟨cs, cz⟩⟩ = setP p s ⟨tb, tk, te, tx⟩ ⟨cs, cz⟩ := by simp [doP]
    rw [hqq]
    clear hqq H1 H2 H3 H4 H6
    generalize setP p s ⟨tb, tk, te, tx⟩ ⟨cs, cz⟩ = q at *
    obtain ⟨pn, pc, pt, ps, V⟩ := p
    unfold pndV pndC FTy.val FTy.cells Cid.val Cid.cells at *
    unfold Opr.val Opr.cells
    dsimp only [zeroTy, zeroCon] at *
    go_enter Tryz.func24, Tryz.ntmps24
    go_upto_region 1 with fail
    generalize hw1 : World.alloc _ (.cells #[.int .i64 0, .string ⟨#[]⟩, .string ⟨#[]⟩, .bool false, .slice none 0 0, .slice none 0 0] 41) = w1
    have HM1 : Hid (Bs [(w.heap.size + 1 + 1 + 1, 41, [.int .i64 0, .string ⟨#[]⟩, .string ⟨#[]⟩, .bool false, .slice none 0 0, .slice none 0 0]), (w.heap.size + 1 + 1, 30, [.int .i64 5, .string s, .string t, .int .i64 tb, .bool tk, .bool te, .bool tx, .int .u64 cs, .int .i64 cz]), (w.heap.size + 1, 37, [.slice A d.length ca, .slice B nb cb]), (w.heap.size, 41, [.int .i64 pn, .string pc, .string pt, .bool ps, .slice E V.length ec, .slice R 0 rc])] w1) := by
      show Bs _ _
      rw [← hw1]
      exact ⟨Blk.new3 _ _ _ _ _ _, Blk.alloc (Blk.new2 _ _ _ _ _) _, Blk.alloc (Blk.alloc (Blk.new1 _ _ _ _) _) _, Blk.alloc (Blk.alloc (Blk.alloc (Blk.new _ _ _) _) _) _, trivial⟩
    have HB1 : Hid (Below w.heap.size w w1) := by
      show Below _ _ _
      rw [← hw1]
      (repeat (first | (with_reducible exact Below.refl _ _) | (with_reducible assumption) | (with_reducible refine Below.setCell ?_ ?_ _; rotate_left; focus (first | exact Nat.le_refl _ | (dsimp only; omega))) | (with_reducible refine Below.drew ?_) | (with_reducible refine below_drewN ?_ _) | (with_reducible refine Below.alloc ?_ ?_ _; rotate_left; focus (first | exact Nat.le_refl _ | (simp; done) | (simp; omega)))))
    clear hw1
    obtain ⟨p0, p1, p2, p3, p4, p5⟩ := HM1.out.2.2.2.1.c6
    obtain ⟨d0, d1⟩ := HM1.out.2.2.1.c2
    obtain ⟨o0, o1, o2, o3, o4, o5, o6, o7, o8⟩ := HM1.out.2.1.c9
    have lt1 := HM1.out.1.lt
    -- MARKH5
    go_wp2_with fail
    refine (H5.out _ (HIE.out.below HB1.out)).mono ?_
    rintro e w2 ⟨E2, e2, R2, r2, rfl, hI2, hf2, hb2⟩
    obtain ⟨⟨qn, qc, qt, qs, L⟩, qe⟩ := q
    unfold pndV pndC
    dsimp only at hI2 ⊢
    have HM2 := Lib.hid (HM1.out.below hb2)
    have HB2 := Lib.hid (HB1.out.trans (hb2.mono HB1.out.size))
    have HI2 := Lib.hid hI2
    have HF2 : Hid (∀ b off, E2 = some ⟨b, off, none⟩ → w.heap.size + 1 + 1 + 1 < b) := fun b off e => by have := hf2 b off e; omega
    clear hb2 hI2 hf2 HM1 HB1 p0 p1 p2 p3 p4 p5 d0 d1 o0 o1 o2 o3 o4 o5 o6 o7 o8
    obtain ⟨z0, z1, z2, z3, z4, z5⟩ := HM2.out.1.c6
    have f0 := HM2.out.1.fz 0
    have f1 := HM2.out.1.fz 1
    have f2 := HM2.out.1.fz 2
    have f3 := HM2.out.1.fz 3
    have f4 := HM2.out.1.fz 4
    have f5 := HM2.out.1.fz 5
    go_wp2_with fail
    have KZ := Lib.hid (zero_put HM2.out.1 (.int .i64 qn) (.string qc) (.string qt) (.bool qs) (.slice E2 L.length e2) (.slice R2 0 r2))
    have HBZ := Lib.hid (below_put6 HB2.out (b := w.heap.size + 1 + 1 + 1) (by omega) (.int .i64 qn) (.string qc) (.string qt) (.bool qs) (.slice E2 L.length e2) (.slice R2 0 r2))
    have HIZ := Lib.hid (in_putF HI2.out (b := w.heap.size + 1 + 1 + 1) (fun b off e => by have := HF2.out b off e; omega) (.int .i64 qn) (.string qc) (.string qt) (.bool qs) (.slice E2 L.length e2) (.slice R2 0 r2))
    (generalize World.setCell (World.setCell (World.setCell (World.setCell (World.setCell (World.setCell _ _ _) _ _) _ _) _ _) _ _) _ _ = wz at *)
    obtain ⟨y0, y1, y2, y3, y4, y5⟩ := KZ.out.c6
    refine bodyPost_ret (v := .tuple #[.agg #[.int .i64 qn, .string qc, .string qt, .bool qs, .slice E2 L.length e2, .slice R2 0 r2], .int .i64 qe]) (by simp [results, Tryz.results24, go_sem, y0, y1, y2, y3, y4, y5]) rfl ?_
    exact ⟨E2, e2, R2, r2, rfl, HIZ.out, (fun b off e => by have := HF2.out b off e; omega), HBZ.out⟩
  · have hqq : doP d p ⟨k, s, t, ⟨tb, tk, te, tx⟩, ⟨cs, cz⟩⟩ = revP p s := by simp [doP, hk1, hk2, hk3, hk4, hk5]
    rw [hqq]
    clear hqq H1 H2 H3 H4 H5
    generalize revP p s = q at *
    obtain ⟨pn, pc, pt, ps, V⟩ := p
    unfold pndV pndC at *
    unfold Opr.val Opr.cells
    dsimp only [zeroTy, zeroCon] at *
    go_enter Tryz.func24, Tryz.ntmps24
    go_upto_region 1 with fail
    generalize hw1 : World.alloc _ (.cells #[.int .i64 0, .string ⟨#[]⟩, .string ⟨#[]⟩, .bool false, .slice none 0 0, .slice none 0 0] 41) = w1
    have HM1 : Hid (Bs [(w.heap.size + 1 + 1 + 1, 41, [.int .i64 0, .string ⟨#[]⟩, .string ⟨#[]⟩, .bool false, .slice none 0 0, .slice none 0 0]), (w.heap.size + 1 + 1, 30, [.int .i64 k, .string s, .string t, .int .i64 tb, .bool tk, .bool te, .bool tx, .int .u64 cs, .int .i64 cz]), (w.heap.size + 1, 37, [.slice A d.length ca, .slice B nb cb]), (w.heap.size, 41, [.int .i64 pn, .string pc, .string pt, .bool ps, .slice E V.length ec, .slice R 0 rc])] w1) := by
      show Bs _ _
      rw [← hw1]
      exact ⟨Blk.new3 _ _ _ _ _ _, Blk.alloc (Blk.new2 _ _ _ _ _) _, Blk.alloc (Blk.alloc (Blk.new1 _ _ _ _) _) _, Blk.alloc (Blk.alloc (Blk.alloc (Blk.new _ _ _) _) _) _, trivial⟩
    have HB1 : Hid (Below w.heap.size w w1) := by
      show Below _ _ _
      rw [← hw1]
      (repeat (first | (with_reducible exact Below.refl _ _) | (with_reducible assumption) | (with_reducible refine Below.setCell ?_ ?_ _; rotate_left; focus (first | exact Nat.le_refl _ | (dsimp only; omega))) | (with_reducible refine Below.drew ?_) | (with_reducible refine below_drewN ?_ _) | (with_reducible refine Below.alloc ?_ ?_ _; rotate_left; focus (first | exact Nat.le_refl _ | (simp; done) | (simp; omega)))))
    clear hw1
    obtain ⟨p0, p1, p2, p3, p4, p5⟩ := HM1.out.2.2.2.1.c6
    obtain ⟨d0, d1⟩ := HM1.out.2.2.1.c2
    obtain ⟨o0, o1, o2, o3, o4, o5, o6, o7, o8⟩ := HM1.out.2.1.c9
    have lt1 := HM1.out.1.lt
    have k1a : (k == 1) = false := by simpa using hk1
    have k1b : decide (k = 1) = false := by simpa using hk1
    have k2a : (k == 2) = false := by simpa using hk2
    have k2b : decide (k = 2) = false := by simpa using hk2
    have k3a : (k == 3) = false := by simpa using hk3
    have k3b : decide (k = 3) = false := by simpa using hk3
    have k4a : (k == 4) = false := by simpa using hk4
    have k4b : decide (k = 4) = false := by simpa using hk4
    have k5a : (k == 5) = false := by simpa using hk5
    have k5b : decide (k = 5) = false := by simpa using hk5
    -- MARKH6
    go_wp2_with fail
    refine (H6.out _ (HIE.out.below HB1.out)).mono ?_
    rintro e w2 ⟨E2, e2, R2, r2, rfl, hI2, hf2, hb2⟩
    obtain ⟨⟨qn, qc, qt, qs, L⟩, qe⟩ := q
    unfold pndV pndC
    dsimp only at hI2 ⊢
    have HM2 := Lib.hid (HM1.out.below hb2)
    have HB2 := Lib.hid (HB1.out.trans (hb2.mono HB1.out.size))
    have HI2 := Lib.hid hI2
    have HF2 : Hid (∀ b off, E2 = some ⟨b, off, none⟩ → w.heap.size + 1 + 1 + 1 < b) := fun b off e => by have := hf2 b off e; omega
    clear hb2 hI2 hf2 HM1 HB1 p0 p1 p2 p3 p4 p5 d0 d1 o0 o1 o2 o3 o4 o5 o6 o7 o8
    obtain ⟨z0, z1, z2, z3, z4, z5⟩ := HM2.out.1.c6
    have f0 := HM2.out.1.fz 0
    have f1 := HM2.out.1.fz 1
    have f2 := HM2.out.1.fz 2
    have f3 := HM2.out.1.fz 3
    have f4 := HM2.out.1.fz 4
    have f5 := HM2.out.1.fz 5
    go_wp2_with fail
    have KZ := Lib.hid (zero_put HM2.out.1 (.int .i64 qn) (.string qc) (.string qt) (.bool qs) (.slice E2 L.length e2) (.slice R2 0 r2))
    have HBZ := Lib.hid (below_put6 HB2.out (b := w.heap.size + 1 + 1 + 1) (by omega) (.int .i64 qn) (.string qc) (.string qt) (.bool qs) (.slice E2 L.length e2) (.slice R2 0 r2))
    have HIZ := Lib.hid (in_putF HI2.out (b := w.heap.size + 1 + 1 + 1) (fun b off e => by have := HF2.out b off e; omega) (.int .i64 qn) (.string qc) (.string qt) (.bool qs) (.slice E2 L.length e2) (.slice R2 0 r2))
    (generalize World.setCell (World.setCell (World.setCell (World.setCell (World.setCell (World.setCell _ _ _) _ _) _ _) _ _) _ _) _ _ = wz at *)
    obtain ⟨y0, y1, y2, y3, y4, y5⟩ := KZ.out.c6
    refine bodyPost_ret (v := .tuple #[.agg #[.int .i64 qn, .string qc, .string qt, .bool qs, .slice E2 L.length e2, .slice R2 0 r2], .int .i64 qe]) (by simp [results, Tryz.results24, go_sem, y0, y1, y2, y3, y4, y5]) rfl ?_
    exact ⟨E2, e2, R2, r2, rfl, HIZ.out, (fun b off e => by have := HF2.out b off e; omega), HBZ.out⟩
end

section
open Go.RowKit

def p0P : Pnd := ⟨1, ⟨#[99]⟩, ⟨#[]⟩, false, []⟩
/-- What stands in memory between two calls: the pending so far. -/
def BtI (d : List Rev) (l : List Opr) (k : Nat) (w : World) (A B : Option Addr) (ca nb cb : Nat) (wr : World) : Prop :=
  ∃ (qn : Int) (qc qt : ByteArray) (qs : Bool) (QE : List Edt) (E R : Option Addr) (ec rc : Nat), Hid (runP d p0P (l.take k) = ⟨qn, qc, qt, qs, QE⟩) ∧ edtK.In E QE wr ∧ (∀ b off, E = some ⟨b, off, none⟩ → w.heap.size + 1 + 1 + 1 ≤ b) ∧ Below w.heap.size w wr ∧ Bs [(w.heap.size + 1 + 1, 41, [.int .i64 qn, .string qc, .string qt, .bool qs, .slice E QE.length ec, .slice R 0 rc]), (w.heap.size + 1, 41, [.int .i64 0, .string ⟨#[]⟩, .string ⟨#[]⟩, .bool false, .slice none 0 0, .slice none 0 0]), (w.heap.size, 37, [.slice A d.length ca, .slice B nb cb])] wr
set_option maxRecDepth 100000 in
set_option maxHeartbeats 12800000 in
theorem built_any (d : List Rev) (l : List Opr) (A B F : Option Addr) (ca nb cb fc : Nat) (w : World) (h : revK.In A d w) (hF : oprK.In F l w) (hn : d.length ≤ 512) (ha : Asc d) (hl : l.length ≤ 1000) (hs : ∀ o ∈ l, o.s.size ≤ 1048576 ∧ o.t.size ≤ 1048576) (hg : G0 w) :
    Calls Tryz.prog 10 #[.agg #[.slice A d.length ca, .slice B nb cb], .slice F l.length fc] w (PndRet (runP d p0P l) w) := by
  have HI := Lib.hid h
  have HIF := Lib.hid hF
  have HG := Lib.hid hg
  have HS := Lib.hid hs
  have HRO := Lib.hid (fun (l : List Opr) => run_ok ha hn l (p := p0P) EOk.nil)
  have HDO := Lib.hid (fun p o E R ec rc w h1 h2 h3 h4 h5 h6 => rdo_any d p o A B E R ca nb cb ec rc w h1 h2 h3 hn ha h4 h5 h6)
  clear h hF ha hs hg
  unfold pndV pndC at HDO
  go_enter Tryz.func10, Tryz.ntmps10
  go_upto_region 2 with fail
  generalize hw1 : World.alloc _ (.cells #[.int .i64 1, .string ⟨#[99]⟩, .string ⟨#[]⟩, .bool false, .slice none 0 0, .slice none 0 0] 41) = w1
  have HM1 : Hid (Bs [(w.heap.size + 1 + 1, 41, [.int .i64 1, .string ⟨#[99]⟩, .string ⟨#[]⟩, .bool false, .slice none 0 0, .slice none 0 0]), (w.heap.size + 1, 41, [.int .i64 0, .string ⟨#[]⟩, .string ⟨#[]⟩, .bool false, .slice none 0 0, .slice none 0 0]), (w.heap.size, 37, [.slice A d.length ca, .slice B nb cb])] w1) := by
    show Bs _ _
    rw [← hw1]
    exact ⟨Blk.new2 _ _ _ _ _, (Blk.new1 _ _ _ _).alloc _, ((Blk.new _ _ _).alloc _).alloc _, trivial⟩
  have HB1 : Hid (Below w.heap.size w w1) := by
    show Below _ _ _
    rw [← hw1]
    (repeat (first | (with_reducible exact Below.refl _ _) | (with_reducible assumption) | (with_reducible refine Below.setCell ?_ ?_ _; rotate_left; focus (first | exact Nat.le_refl _ | (dsimp only; omega))) | (with_reducible refine Below.drew ?_) | (with_reducible refine below_drewN ?_ _) | (with_reducible refine Below.alloc ?_ ?_ _; rotate_left; focus (first | exact Nat.le_refl _ | (simp; done) | (simp; omega)))))
  clear hw1
  go_wp2_with fail
  -- MARKA
  go_loopw [13] (fun i wr => ∃ k : Nat, i = .int .i64 k ∧ k ≤ l.length ∧ BtI d l k w A B ca nb cb wr) (fun i _ => l.length - (intOf i).toNat)
  case atStart => exact ⟨0, rfl, Nat.zero_le _, 1, ⟨#[99]⟩, ⟨#[]⟩, false, [], none, none, 0, 0, rfl, RowK.In.nil _ _, (fun _ _ e => by cases e), HB1.out, HM1.out⟩
  case round =>
    obtain ⟨k, rfl, hk, qn, qc, qt, qs, QE, E, R, ec, rc, HQ, hI, hf, hB, hM⟩ := hrel
    have HIE := Lib.hid hI
    have HFE := Lib.hid hf
    have HB := Lib.hid hB
    have HM := Lib.hid hM
    clear hI hf hB hM HM1 HB1
    have lt0 := HM.out.1.lt
    by_cases hlt : k < l.length
    · have HOK : Hid (EOk QE) := by
        have := HRO.out (l.take k)
        rw [HQ.out] at this
        exact this
      have HSN : Hid (runP d p0P (l.take (k + 1)) = if (doP d ⟨qn, qc, qt, qs, QE⟩ l[k]).2 = 0 then (doP d ⟨qn, qc, qt, qs, QE⟩ l[k]).1 else ⟨qn, qc, qt, qs, QE⟩) := by
        show _ = _
        rw [List.take_succ_eq_append_getElem hlt, run_snoc, HQ.out]
      have HSZ := Lib.hid (HS.out l[k] (List.getElem_mem hlt))
      obtain ⟨b, off, rfl, hbl, hat⟩ := (HIF.out.below HB.out) (by omega)
      have hg := List.getElem?_eq_getElem hlt
      generalize l[k] = o at *
      have hcv := fun j (u : Value) (hj : o.cells[j]? = some u) => (hat.get hg hj)
      have c0 := hcv 0 _ rfl
      have c1 := hcv 1 _ rfl
      have c2 := hcv 2 _ rfl
      have c3 := hcv 3 _ rfl
      have c4 := hcv 4 _ rfl
      have c5 := hcv 5 _ rfl
      have c6 := hcv 6 _ rfl
      have c7 := hcv 7 _ rfl
      have c8 := hcv 8 _ rfl
      have e9 : oprK.n = 9 := rfl
      simp only [e9, Nat.add_zero] at c0 c1 c2 c3 c4 c5 c6 c7 c8
      clear hcv e9 hat hg
      have hkn : (k : Int) < (l.length : Int) := by omega
      have HM3 : Hid (Bs [(wr.heap.size, 30, [.int .i64 o.kind, .string o.s, .string o.t, .int .i64 o.ty.base, .bool o.ty.kw, .bool o.ty.ex, .bool o.ty.xe, .int .u64 o.con.sum, .int .i64 o.con.size]), (w.heap.size + 1 + 1, 41, [.int .i64 qn, .string qc, .string qt, .bool qs, .slice E QE.length ec, .slice R 0 rc]), (w.heap.size + 1, 41, [.int .i64 0, .string ⟨#[]⟩, .string ⟨#[]⟩, .bool false, .slice none 0 0, .slice none 0 0]), (w.heap.size, 37, [.slice A d.length ca, .slice B nb cb])] (wr.alloc (.cells [.int .i64 o.kind, .string o.s, .string o.t, .int .i64 o.ty.base, .bool o.ty.kw, .bool o.ty.ex, .bool o.ty.xe, .int .u64 o.con.sum, .int .i64 o.con.size].toArray 30))) := Bs.cons (Blk.new wr 30 [.int .i64 o.kind, .string o.s, .string o.t, .int .i64 o.ty.base, .bool o.ty.kw, .bool o.ty.ex, .bool o.ty.xe, .int .u64 o.con.sum, .int .i64 o.con.size]) (HM.out.alloc _)
      have HB3 : Hid (Below w.heap.size w (wr.alloc (.cells [.int .i64 o.kind, .string o.s, .string o.t, .int .i64 o.ty.base, .bool o.ty.kw, .bool o.ty.ex, .bool o.ty.xe, .int .u64 o.con.sum, .int .i64 o.con.size].toArray 30))) := HB.out.alloc HB.out.size _
      have HI3 := Lib.hid (HIE.out.below ((Below.refl _ _).alloc (Nat.le_refl _) (.cells [.int .i64 o.kind, .string o.s, .string o.t, .int .i64 o.ty.base, .bool o.ty.kw, .bool o.ty.ex, .bool o.ty.xe, .int .u64 o.con.sum, .int .i64 o.con.size].toArray 30)))
      -- MARKB
      go_upto_region 5 with fail
      -- MARKC
      generalize hw3 : World.alloc wr (.cells #[.int .i64 o.kind, .string o.s, .string o.t, .int .i64 o.ty.base, .bool o.ty.kw, .bool o.ty.ex, .bool o.ty.xe, .int .u64 o.con.sum, .int .i64 o.con.size] 30) = w3 at *
      clear hw3 HM HB HIE c0 c1 c2 c3 c4 c5 c6 c7 c8
      have lt3 := HM3.out.1.lt
      obtain ⟨o0, o1, o2, o3, o4, o5, o6, o7, o8⟩ := HM3.out.1.c9
      obtain ⟨p0, p1, p2, p3, p4, p5⟩ := HM3.out.2.1.c6
      obtain ⟨d0, d1⟩ := HM3.out.2.2.2.1.c2
      have HDD := Lib.hid (HDO.out ⟨qn, qc, qt, qs, QE⟩ o E R ec rc w3 (HI.out.below HB3.out) HI3.out HOK.out HSZ.out.1 HSZ.out.2 (HG.out.below HB3.out))
      unfold Opr.val Opr.cells at HDD
      dsimp only at HDD
      generalize doP d ⟨qn, qc, qt, qs, QE⟩ o = pe at *
      go_wp2_with fail
      -- MARKD
      refine HDD.out.mono ?_
      rintro e w4 ⟨E2, e2, R2, r2, rfl, hI4, hf4, hb4⟩
      obtain ⟨⟨nn, nc, nt, ns, NE⟩, ne⟩ := pe
      unfold pndV pndC
      dsimp only at hI4 HSN ⊢
      have HM4 : Hid (Bs [(w4.heap.size, 41, [.int .i64 nn, .string nc, .string nt, .bool ns, .slice E2 NE.length e2, .slice R2 0 r2]), (wr.heap.size, 30, [.int .i64 o.kind, .string o.s, .string o.t, .int .i64 o.ty.base, .bool o.ty.kw, .bool o.ty.ex, .bool o.ty.xe, .int .u64 o.con.sum, .int .i64 o.con.size]), (w.heap.size + 1 + 1, 41, [.int .i64 qn, .string qc, .string qt, .bool qs, .slice E QE.length ec, .slice R 0 rc]), (w.heap.size + 1, 41, [.int .i64 0, .string ⟨#[]⟩, .string ⟨#[]⟩, .bool false, .slice none 0 0, .slice none 0 0]), (w.heap.size, 37, [.slice A d.length ca, .slice B nb cb])] (w4.alloc (.cells [.int .i64 nn, .string nc, .string nt, .bool ns, .slice E2 NE.length e2, .slice R2 0 r2].toArray 41))) := Bs.cons (Blk.new w4 41 [.int .i64 nn, .string nc, .string nt, .bool ns, .slice E2 NE.length e2, .slice R2 0 r2]) ((HM3.out.below hb4).alloc _)
      have HB4 : Hid (Below w.heap.size w (w4.alloc (.cells [.int .i64 nn, .string nc, .string nt, .bool ns, .slice E2 NE.length e2, .slice R2 0 r2].toArray 41))) := (HB3.out.trans (hb4.mono HB3.out.size)).alloc (HB3.out.trans (hb4.mono HB3.out.size)).size _
      have HI4 := Lib.hid (hI4.below ((Below.refl _ _).alloc (Nat.le_refl _) (.cells [.int .i64 nn, .string nc, .string nt, .bool ns, .slice E2 NE.length e2, .slice R2 0 r2].toArray 41)))
      have HIO := Lib.hid ((HI3.out.below hb4).below ((Below.refl _ _).alloc (Nat.le_refl _) (.cells [.int .i64 nn, .string nc, .string nt, .bool ns, .slice E2 NE.length e2, .slice R2 0 r2].toArray 41)))
      have HF4 : Hid (∀ b off, E2 = some ⟨b, off, none⟩ → wr.heap.size + 1 ≤ b) := fun b off e => by have := hf4 b off e; omega
      clear hb4 hI4 hf4 HM3 HB3 HI3 HDD o0 o1 o2 o3 o4 o5 o6 o7 o8 p0 p1 p2 p3 p4 p5 d0 d1
      go_upto_region 6 with fail
      -- MARKE
      generalize hw5 : World.alloc w4 (.cells #[.int .i64 nn, .string nc, .string nt, .bool ns, .slice E2 NE.length e2, .slice R2 0 r2] 41) = w5 at *
      clear hw5
      obtain ⟨n0, n1, n2, n3, n4, n5⟩ := HM4.out.1.c6
      obtain ⟨p0, p1, p2, p3, p4, p5⟩ := HM4.out.2.2.1.c6
      by_cases he : ne = 0
      · have HNE := Lib.hid he
        have hea : (ne == 0) = true := by simpa using he
        have heb : decide (ne = 0) = true := by simpa using he
        rw [if_pos he] at HSN
        clear he
        have f0 := HM4.out.2.2.1.fz 0
        have f1 := HM4.out.2.2.1.fz 1
        have f2 := HM4.out.2.2.1.fz 2
        have f3 := HM4.out.2.2.1.fz 3
        have f4 := HM4.out.2.2.1.fz 4
        have f5 := HM4.out.2.2.1.fz 5
        go_wp2_with fail
        -- MARKF
        go_roundw
        case rel => exact ⟨k + 1, by go_num, by omega, nn, nc, nt, ns, NE, E2, R2, e2, r2, HSN.out, in_putF HI4.out (b := w.heap.size + 1 + 1) (fun b off e => by have := HF4.out b off e; omega) (.int .i64 nn) (.string nc) (.string nt) (.bool ns) (.slice E2 NE.length e2) (.slice R2 0 r2), (fun b off e => by have := HF4.out b off e; omega), below_put6 HB4.out (b := w.heap.size + 1 + 1) (by omega) (.int .i64 nn) (.string nc) (.string nt) (.bool ns) (.slice E2 NE.length e2) (.slice R2 0 r2), zero_put HM4.out.2.2.1 (.int .i64 nn) (.string nc) (.string nt) (.bool ns) (.slice E2 NE.length e2) (.slice R2 0 r2), far6 HM4.out.2.2.2.1 (b := w.heap.size + 1 + 1) (by omega) (.int .i64 nn) (.string nc) (.string nt) (.bool ns) (.slice E2 NE.length e2) (.slice R2 0 r2), far6 HM4.out.2.2.2.2.1 (b := w.heap.size + 1 + 1) (by omega) (.int .i64 nn) (.string nc) (.string nt) (.bool ns) (.slice E2 NE.length e2) (.slice R2 0 r2), trivial⟩
        case measure => simp [intOf]; omega
      · have hea : (ne == 0) = false := by simpa using he
        have heb : decide (ne = 0) = false := by simpa using he
        rw [if_neg he] at HSN
        go_wp2_with fail
        go_roundw
        case rel => exact ⟨k + 1, by go_num, by omega, qn, qc, qt, qs, QE, E, R, ec, rc, HSN.out, HIO.out, HFE.out, HB4.out, HM4.out.2.2⟩
        case measure => simp [intOf]; omega
    · obtain rfl : k = l.length := by omega
      have HQE := HQ.out
      rw [List.take_length] at HQE
      have HQQ := Lib.hid HQE
      clear HQE
      obtain ⟨p0, p1, p2, p3, p4, p5⟩ := HM.out.1.c6
      obtain ⟨z0, z1, z2, z3, z4, z5⟩ := HM.out.2.1.c6
      have f0 := HM.out.2.1.fz 0
      have f1 := HM.out.2.1.fz 1
      have f2 := HM.out.2.1.fz 2
      have f3 := HM.out.2.1.fz 3
      have f4 := HM.out.2.1.fz 4
      have f5 := HM.out.2.1.fz 5
      have KZ := Lib.hid (zero_put HM.out.2.1 (.int .i64 qn) (.string qc) (.string qt) (.bool qs) (.slice E QE.length ec) (.slice R 0 rc))
      have HBZ := Lib.hid (below_put6 HB.out (b := w.heap.size + 1) (by omega) (.int .i64 qn) (.string qc) (.string qt) (.bool qs) (.slice E QE.length ec) (.slice R 0 rc))
      have HIZ := Lib.hid (in_putF HIE.out (b := w.heap.size + 1) (fun b off e => by have := HFE.out b off e; omega) (.int .i64 qn) (.string qc) (.string qt) (.bool qs) (.slice E QE.length ec) (.slice R 0 rc))
      -- MARKG
      go_wp2_with fail
      (generalize World.setCell (World.setCell (World.setCell (World.setCell (World.setCell (World.setCell _ _ _) _ _) _ _) _ _) _ _) _ _ = wz at *)
      obtain ⟨y0, y1, y2, y3, y4, y5⟩ := KZ.out.c6
      refine bodyPost_ret (v := .agg #[.int .i64 qn, .string qc, .string qt, .bool qs, .slice E QE.length ec, .slice R 0 rc]) (by simp [results, Tryz.results10, go_sem, y0, y1, y2, y3, y4, y5]) rfl ?_
      rw [HQQ.out]
      exact ⟨E, ec, R, rc, rfl, HIZ.out, (fun b off e => by have := HFE.out b off e; omega), HBZ.out⟩
end

end Go.Proofs.YtocffknoeknabaaGreatDoor
