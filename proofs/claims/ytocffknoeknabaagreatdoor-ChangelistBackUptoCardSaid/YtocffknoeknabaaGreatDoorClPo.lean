/-
  The walk of changelist.opened (printed by mkpopen.py).
-/
import Derived.Test.YtocffknoeknabaaGreatDoorClM
namespace Go.Proofs.YtocffknoeknabaaGreatDoor
open Go.RowKit

set_option maxRecDepth 100000 in
set_option maxHeartbeats 12800000 in
theorem opened_any (d : List Rev) (p : Pnd) (s : ByteArray) (act : Int) (t : FTy) (c : Cid) (A B E R : Option Addr) (ca nb cb ec rc : Nat) (w : World) (h : revK.In A d w) (hE : edtK.In E p.edits w) (hok : EOk p.edits) (hn : d.length ≤ 512) (ha : Asc d) (hs : s.size ≤ 4294967281) (hact : 1 ≤ act ∧ act ≤ 3) (h3 : act = 3 → t = zeroTy ∧ c = zeroCon) :
    Calls Tryz.prog 74 #[pndV p E ec R rc, .agg #[.slice A d.length ca, .slice B nb cb], .string s, .bool (act != 1), (⟨⟨#[]⟩, act, t, c, 0, ⟨#[]⟩, 0, 0⟩ : Edt).val] w (PRet (openP d p s act t c) w) := by
  have HI := Lib.hid h
  have HIE := Lib.hid hE
  have HOK := Lib.hid hok
  have hlen := hok.len
  obtain ⟨q, hq⟩ : ∃ q, openP d p s act t c = q := ⟨_, rfl⟩
  rw [hq]
  have HQ := Lib.hid hq
  have HPS := Lib.hid (fun w => isPath18_any s w hs)
  have HKS := Lib.hid (fun w h => place_any p.edits s E ec w hok.pl hs h)
  have HLT := Lib.hid (fun w h => live_any d s A B ca nb cb w h (by omega) ha)
  have HSU := Lib.hid (fun w => suit_any t c w)
  have HCO := Lib.hid (fun w h => copied_any p E R ec rc w h (by omega))
  clear h hE hok hq ha hs
  obtain ⟨pn, pc, pt, ps, V⟩ := p
  obtain rfl | rfl | rfl : act = 1 ∨ act = 2 ∨ act = 3 := by omega
  · obtain ⟨tb, tk, te, tx⟩ := t
    obtain ⟨cs, cz⟩ := c
    clear h3 hact
    unfold pndV pndC Edt.val Edt.cells FTy.val FTy.cells Cid.val Cid.cells at *
    dsimp only [zeroTy, zeroCon] at *
    go_enter Tryz.func74, Tryz.ntmps74
    go_upto_region 1 with fail
    generalize hw1 : World.alloc _ (.cells #[.int .i64 0, .string ⟨#[]⟩, .string ⟨#[]⟩, .bool false, .slice none 0 0, .slice none 0 0] 41) = w1
    have HM1 : Hid (Bs [(w.heap.size + 1 + 1 + 1, 41, [.int .i64 0, .string ⟨#[]⟩, .string ⟨#[]⟩, .bool false, .slice none 0 0, .slice none 0 0]), (w.heap.size + 1 + 1, 44, [.string ⟨#[]⟩, .int .i64 1, .int .i64 tb, .bool tk, .bool te, .bool tx, .int .u64 cs, .int .i64 cz, .int .i64 0, .string ⟨#[]⟩, .int .i64 0, .int .i64 0]), (w.heap.size + 1, 37, [.slice A d.length ca, .slice B nb cb]), (w.heap.size, 41, [.int .i64 pn, .string pc, .string pt, .bool ps, .slice E V.length ec, .slice R 0 rc])] w1) := by
      show Bs _ _
      rw [← hw1]
      refine ⟨?_, ?_, ?_, ?_, trivial⟩
      · exact Blk.new3 _ _ _ _ _ _
      · exact Blk.alloc (Blk.new2 _ _ _ _ _) _
      · exact Blk.alloc (Blk.alloc (Blk.new1 _ _ _ _) _) _
      · exact Blk.alloc (Blk.alloc (Blk.alloc (Blk.new _ _ _) _) _) _
    have HB1 : Hid (Below w.heap.size w w1) := by
      show Below _ _ _
      rw [← hw1]
      (repeat (first | (with_reducible exact Below.refl _ _) | (with_reducible assumption) | (with_reducible refine Below.setCell ?_ ?_ _; rotate_left; focus (first | exact Nat.le_refl _ | (dsimp only; omega))) | (with_reducible refine Below.drew ?_) | (with_reducible refine below_drewN ?_ _) | (with_reducible refine Below.alloc ?_ ?_ _; rotate_left; focus (first | exact Nat.le_refl _ | (simp; done) | (simp; omega)))))
    clear hw1
    go_wp2_with fail
    refine (HPS.out _).mono ?_
    rintro e w' ⟨rfl, rfl⟩
    cases hus : useB s
    case false =>
      have hqq : q = (zeroP, 180) := by rw [← HQ.out]; unfold openP; rw [if_pos hus]
      (obtain ⟨z0, z1, z2, z3, z4, z5⟩ := (HM1.out.1).c6; have f0 := (HM1.out.1).fz 0; have f1 := (HM1.out.1).fz 1; have f2 := (HM1.out.1).fz 2; have f3 := (HM1.out.1).fz 3; have f4 := (HM1.out.1).fz 4; have f5 := (HM1.out.1).fz 5; go_wp2_with fail; have KZ := Lib.hid (zero_put (HM1.out.1) (.int .i64 0) (.string ⟨#[]⟩) (.string ⟨#[]⟩) (.bool false) (.slice none 0 0) (.slice none 0 0)); have HBZ := Lib.hid (below_put6 (HB1.out) (b := w.heap.size + 1 + 1 + 1) (by omega) (.int .i64 0) (.string ⟨#[]⟩) (.string ⟨#[]⟩) (.bool false) (.slice none 0 0) (.slice none 0 0)); generalize World.setCell (World.setCell (World.setCell (World.setCell (World.setCell (World.setCell _ _ _) _ _) _ _) _ _) _ _) _ _ = wz at *; obtain ⟨y0, y1, y2, y3, y4, y5⟩ := KZ.out.c6; exact bodyPost_ret (v := .tuple #[.agg #[.int .i64 0, .string ⟨#[]⟩, .string ⟨#[]⟩, .bool false, .slice none 0 0, .slice none 0 0], .int .i64 _]) (by simp [results, Tryz.results74, go_sem, y0, y1, y2, y3, y4, y5]) rfl (PRet.no (hqq) HBZ.out))
    have HUS := Lib.hid hus
    clear hus
    obtain ⟨p0, p1, p2, p3, p4, p5⟩ := HM1.out.2.2.2.1.c6
    go_wp2_with fail
    refine (HKS.out _ (HIE.out.below HB1.out)).mono ?_
    rintro e w2 ⟨rfl, hb2⟩
    have HM2 := Lib.hid (HM1.out.below hb2)
    have HB2 := Lib.hid (HB1.out.trans (hb2.mono HB1.out.size))
    have lt2 := HM2.out.1.lt
    clear hb2 HM1 HB1 p0 p1 p2 p3 p4 p5
    cases hh : hasE V s
    case true =>
      have hqq : q = (zeroP, 181) := by rw [← HQ.out]; unfold openP; rw [if_neg (by rw [HUS.out]; decide), if_pos hh]
      (obtain ⟨z0, z1, z2, z3, z4, z5⟩ := (HM2.out.1).c6; have f0 := (HM2.out.1).fz 0; have f1 := (HM2.out.1).fz 1; have f2 := (HM2.out.1).fz 2; have f3 := (HM2.out.1).fz 3; have f4 := (HM2.out.1).fz 4; have f5 := (HM2.out.1).fz 5; go_wp2_with fail; have KZ := Lib.hid (zero_put (HM2.out.1) (.int .i64 0) (.string ⟨#[]⟩) (.string ⟨#[]⟩) (.bool false) (.slice none 0 0) (.slice none 0 0)); have HBZ := Lib.hid (below_put6 (HB2.out) (b := w.heap.size + 1 + 1 + 1) (by omega) (.int .i64 0) (.string ⟨#[]⟩) (.string ⟨#[]⟩) (.bool false) (.slice none 0 0) (.slice none 0 0)); generalize World.setCell (World.setCell (World.setCell (World.setCell (World.setCell (World.setCell _ _ _) _ _) _ _) _ _) _ _) _ _ = wz at *; obtain ⟨y0, y1, y2, y3, y4, y5⟩ := KZ.out.c6; exact bodyPost_ret (v := .tuple #[.agg #[.int .i64 0, .string ⟨#[]⟩, .string ⟨#[]⟩, .bool false, .slice none 0 0, .slice none 0 0], .int .i64 _]) (by simp [results, Tryz.results74, go_sem, y0, y1, y2, y3, y4, y5]) rfl (PRet.no (hqq) HBZ.out))
    have HHN := Lib.hid hh
    clear hh
    generalize hv : lastR d s = v at *
    generalize hl : liveD d s = l at *
    have HVE := Lib.hid hv
    have HLE := Lib.hid hl
    clear hv hl
    have HQ1 : Hid (q = if l = decide ((1 : Int) = 1) ∨ ((1 : Int) ≠ 3 ∧ badTC ⟨tb, tk, te, tx⟩ ⟨cs, cz⟩ = true) then (zeroP, 183) else if 64 ≤ V.length then (zeroP, 184) else (⟨pn, pc, pt, ps, insE V (newE d s 1 ⟨tb, tk, te, tx⟩ ⟨cs, cz⟩)⟩, 0)) := by
      show _ = _
      rw [← HQ.out, ← HLE.out]
      unfold openP
      rw [if_neg (by rw [HUS.out]; decide), if_neg (by rw [HHN.out]; decide)]
      try rfl
    obtain ⟨d0, d1⟩ := HM2.out.2.2.1.c2
    go_wp2_with fail
    refine (HLT.out _ (HI.out.below HB2.out)).mono ?_
    rintro e w3 ⟨rfl, hb3⟩
    unfold Rev.val Rev.cells
    have HM4 : Hid (Bs [(w3.heap.size, 74, [.string v.path, .int .i64 v.num, .int .i64 v.chg, .int .i64 v.act, .int .i64 v.ty.base, .bool v.ty.kw, .bool v.ty.ex, .bool v.ty.xe, .int .u64 v.con.sum, .int .i64 v.con.size, .string v.src, .int .i64 v.srcn]), (w.heap.size + 1 + 1 + 1, 41, [.int .i64 0, .string ⟨#[]⟩, .string ⟨#[]⟩, .bool false, .slice none 0 0, .slice none 0 0]), (w.heap.size + 1 + 1, 44, [.string ⟨#[]⟩, .int .i64 1, .int .i64 tb, .bool tk, .bool te, .bool tx, .int .u64 cs, .int .i64 cz, .int .i64 0, .string ⟨#[]⟩, .int .i64 0, .int .i64 0]), (w.heap.size + 1, 37, [.slice A d.length ca, .slice B nb cb]), (w.heap.size, 41, [.int .i64 pn, .string pc, .string pt, .bool ps, .slice E V.length ec, .slice R 0 rc])] (w3.alloc (.cells [.string v.path, .int .i64 v.num, .int .i64 v.chg, .int .i64 v.act, .int .i64 v.ty.base, .bool v.ty.kw, .bool v.ty.ex, .bool v.ty.xe, .int .u64 v.con.sum, .int .i64 v.con.size, .string v.src, .int .i64 v.srcn].toArray 74))) := Bs.cons (Blk.new w3 74 [.string v.path, .int .i64 v.num, .int .i64 v.chg, .int .i64 v.act, .int .i64 v.ty.base, .bool v.ty.kw, .bool v.ty.ex, .bool v.ty.xe, .int .u64 v.con.sum, .int .i64 v.con.size, .string v.src, .int .i64 v.srcn]) ((HM2.out.below hb3).alloc _)
    have HB4 : Hid (Below w.heap.size w (w3.alloc (.cells [.string v.path, .int .i64 v.num, .int .i64 v.chg, .int .i64 v.act, .int .i64 v.ty.base, .bool v.ty.kw, .bool v.ty.ex, .bool v.ty.xe, .int .u64 v.con.sum, .int .i64 v.con.size, .string v.src, .int .i64 v.srcn].toArray 74))) := (HB2.out.trans (hb3.mono HB2.out.size)).alloc (HB2.out.trans (hb3.mono HB2.out.size)).size _
    have hz3 := hb3.size
    clear hb3 HM2 HB2 d0 d1
    go_upto_region 7 with fail
    generalize hw4 : World.alloc w3 (.cells #[.string v.path, .int .i64 v.num, .int .i64 v.chg, .int .i64 v.act, .int .i64 v.ty.base, .bool v.ty.kw, .bool v.ty.ex, .bool v.ty.xe, .int .u64 v.con.sum, .int .i64 v.con.size, .string v.src, .int .i64 v.srcn] 74) = w4 at *
    clear hw4
    have lt4 := HM4.out.1.lt
    -- MARKA
    obtain ⟨x0, x1, x2, x3, x4, x5, x6, x7, x8, x9, x10, x11⟩ := HM4.out.2.2.1.c12
    have HM5 := HM4
    have HB5 := HB4
    obtain ⟨w5, hw5⟩ : ∃ z, z = w4 := ⟨_, rfl⟩
    subst hw5
    clear HM4 HB4
    have lt5 := HM5.out.1.lt
    cases l
    case true =>
      have hqq : q = (zeroP, 183) := by rw [HQ1.out, if_pos (.inl (by decide))]
      (obtain ⟨z0, z1, z2, z3, z4, z5⟩ := (HM5.out.2.1).c6; have f0 := (HM5.out.2.1).fz 0; have f1 := (HM5.out.2.1).fz 1; have f2 := (HM5.out.2.1).fz 2; have f3 := (HM5.out.2.1).fz 3; have f4 := (HM5.out.2.1).fz 4; have f5 := (HM5.out.2.1).fz 5; go_wp2_with fail; have KZ := Lib.hid (zero_put (HM5.out.2.1) (.int .i64 0) (.string ⟨#[]⟩) (.string ⟨#[]⟩) (.bool false) (.slice none 0 0) (.slice none 0 0)); have HBZ := Lib.hid (below_put6 (HB5.out) (b := w.heap.size + 1 + 1 + 1) (by omega) (.int .i64 0) (.string ⟨#[]⟩) (.string ⟨#[]⟩) (.bool false) (.slice none 0 0) (.slice none 0 0)); generalize World.setCell (World.setCell (World.setCell (World.setCell (World.setCell (World.setCell _ _ _) _ _) _ _) _ _) _ _) _ _ = wz at *; obtain ⟨y0, y1, y2, y3, y4, y5⟩ := KZ.out.c6; exact bodyPost_ret (v := .tuple #[.agg #[.int .i64 0, .string ⟨#[]⟩, .string ⟨#[]⟩, .bool false, .slice none 0 0, .slice none 0 0], .int .i64 _]) (by simp [results, Tryz.results74, go_sem, y0, y1, y2, y3, y4, y5]) rfl (PRet.no (hqq) HBZ.out))
    -- MARKB
    go_wp2_with fail
    refine (HSU.out _).mono ?_
    rintro e w6 ⟨rfl, hb6⟩
    have HM6 := Lib.hid (HM5.out.below hb6)
    have HB6 := Lib.hid (HB5.out.trans (hb6.mono HB5.out.size))
    clear hb6 HM5 HB5 x0 x1 x2 x3 x4 x5 x6 x7 x8 x9 x10 x11
    cases hbd : badTC ⟨tb, tk, te, tx⟩ ⟨cs, cz⟩
    case true =>
      have hqq : q = (zeroP, 183) := by rw [HQ1.out, if_pos (.inr ⟨by decide, hbd⟩)]
      (obtain ⟨z0, z1, z2, z3, z4, z5⟩ := (HM6.out.2.1).c6; have f0 := (HM6.out.2.1).fz 0; have f1 := (HM6.out.2.1).fz 1; have f2 := (HM6.out.2.1).fz 2; have f3 := (HM6.out.2.1).fz 3; have f4 := (HM6.out.2.1).fz 4; have f5 := (HM6.out.2.1).fz 5; go_wp2_with fail; have KZ := Lib.hid (zero_put (HM6.out.2.1) (.int .i64 0) (.string ⟨#[]⟩) (.string ⟨#[]⟩) (.bool false) (.slice none 0 0) (.slice none 0 0)); have HBZ := Lib.hid (below_put6 (HB6.out) (b := w.heap.size + 1 + 1 + 1) (by omega) (.int .i64 0) (.string ⟨#[]⟩) (.string ⟨#[]⟩) (.bool false) (.slice none 0 0) (.slice none 0 0)); generalize World.setCell (World.setCell (World.setCell (World.setCell (World.setCell (World.setCell _ _ _) _ _) _ _) _ _) _ _) _ _ = wz at *; obtain ⟨y0, y1, y2, y3, y4, y5⟩ := KZ.out.c6; exact bodyPost_ret (v := .tuple #[.agg #[.int .i64 0, .string ⟨#[]⟩, .string ⟨#[]⟩, .bool false, .slice none 0 0, .slice none 0 0], .int .i64 _]) (by simp [results, Tryz.results74, go_sem, y0, y1, y2, y3, y4, y5]) rfl (PRet.no (hqq) HBZ.out))
    have HQ2 : Hid (q = if 64 ≤ V.length then (zeroP, 184) else (⟨pn, pc, pt, ps, insE V (newE d s 1 ⟨tb, tk, te, tx⟩ ⟨cs, cz⟩)⟩, 0)) := by
      show _ = _
      rw [HQ1.out, if_neg]
      rintro (h | h)
      · exact absurd h (by decide)
      · rw [hbd] at h; exact absurd h.2 (by decide)
    clear hbd
    clear HQ1
    have lt6 := HM6.out.1.lt
    obtain ⟨p0, p1, p2, p3, p4, p5⟩ := HM6.out.2.2.2.2.1.c6
    by_cases hbig : 64 ≤ V.length
    · have hbi : (64 : Int) ≤ (V.length : Int) := by omega
      have hqq : q = (zeroP, 184) := by rw [HQ2.out, if_pos hbig]
      (obtain ⟨z0, z1, z2, z3, z4, z5⟩ := (HM6.out.2.1).c6; have f0 := (HM6.out.2.1).fz 0; have f1 := (HM6.out.2.1).fz 1; have f2 := (HM6.out.2.1).fz 2; have f3 := (HM6.out.2.1).fz 3; have f4 := (HM6.out.2.1).fz 4; have f5 := (HM6.out.2.1).fz 5; go_wp2_with fail; have KZ := Lib.hid (zero_put (HM6.out.2.1) (.int .i64 0) (.string ⟨#[]⟩) (.string ⟨#[]⟩) (.bool false) (.slice none 0 0) (.slice none 0 0)); have HBZ := Lib.hid (below_put6 (HB6.out) (b := w.heap.size + 1 + 1 + 1) (by omega) (.int .i64 0) (.string ⟨#[]⟩) (.string ⟨#[]⟩) (.bool false) (.slice none 0 0) (.slice none 0 0)); generalize World.setCell (World.setCell (World.setCell (World.setCell (World.setCell (World.setCell _ _ _) _ _) _ _) _ _) _ _) _ _ = wz at *; obtain ⟨y0, y1, y2, y3, y4, y5⟩ := KZ.out.c6; exact bodyPost_ret (v := .tuple #[.agg #[.int .i64 0, .string ⟨#[]⟩, .string ⟨#[]⟩, .bool false, .slice none 0 0, .slice none 0 0], .int .i64 _]) (by simp [results, Tryz.results74, go_sem, y0, y1, y2, y3, y4, y5]) rfl (PRet.no (hqq) HBZ.out))
    · have hbi : ¬ (64 : Int) ≤ (V.length : Int) := by omega
      have hqq : q = (⟨pn, pc, pt, ps, insE V ⟨s, 1, ⟨tb, tk, te, tx⟩, ⟨cs, cz⟩, v.num, ⟨#[]⟩, 0, 0⟩⟩, 0) := by
        rw [HQ2.out, if_neg hbig]
        unfold newE
        rw [HVE.out]
        rfl
      have HQQ := Lib.hid hqq
      clear hqq HQ2 HQ
      -- MARKC
      obtain ⟨y0, y1, y2, y3, y4, y5, y6, y7, y8, y9, y10, y11⟩ := HM6.out.1.c12
      
      obtain ⟨x0, x1, x2, x3, x4, x5, x6, x7, x8, x9, x10, x11⟩ := HM6.out.2.2.1.c12
      obtain ⟨f0, f1, f2, f3, f4, f5, f6, f7, f8, f9, f10, f11⟩ := HM6.out.2.2.1.f12
      go_wp2_with fail
      go_region
      obtain ⟨w7, hw7⟩ : ∃ z, z = ((w6.setCell ⟨w.heap.size + 1 + 1, 0, none⟩ (.string s)).setCell ⟨w.heap.size + 1 + 1, 8, none⟩ (.int .i64 v.num)).drew := ⟨_, rfl⟩
      have HM7 : Hid (Bs [(w3.heap.size, 74, [.string v.path, .int .i64 v.num, .int .i64 v.chg, .int .i64 v.act, .int .i64 v.ty.base, .bool v.ty.kw, .bool v.ty.ex, .bool v.ty.xe, .int .u64 v.con.sum, .int .i64 v.con.size, .string v.src, .int .i64 v.srcn]), (w.heap.size + 1 + 1 + 1, 41, [.int .i64 0, .string ⟨#[]⟩, .string ⟨#[]⟩, .bool false, .slice none 0 0, .slice none 0 0]), (w.heap.size + 1 + 1, 44, [.string s, .int .i64 1, .int .i64 tb, .bool tk, .bool te, .bool tx, .int .u64 cs, .int .i64 cz, .int .i64 v.num, .string ⟨#[]⟩, .int .i64 0, .int .i64 0]), (w.heap.size + 1, 37, [.slice A d.length ca, .slice B nb cb]), (w.heap.size, 41, [.int .i64 pn, .string pc, .string pt, .bool ps, .slice E V.length ec, .slice R 0 rc])] w7) := by
        show Bs _ _
        rw [hw7]
        exact Bs.drew ⟨(HM6.out.1.far (p := ⟨w.heap.size + 1 + 1, 0, none⟩) (by dsimp only; omega) (.string s)).far (p := ⟨w.heap.size + 1 + 1, 8, none⟩) (by dsimp only; omega) (.int .i64 v.num), (HM6.out.2.1.far (p := ⟨w.heap.size + 1 + 1, 0, none⟩) (by dsimp only; omega) (.string s)).far (p := ⟨w.heap.size + 1 + 1, 8, none⟩) (by dsimp only; omega) (.int .i64 v.num), (HM6.out.2.2.1.set 0 (.string s)).set 8 (.int .i64 v.num), (HM6.out.2.2.2.1.far (p := ⟨w.heap.size + 1 + 1, 0, none⟩) (by dsimp only; omega) (.string s)).far (p := ⟨w.heap.size + 1 + 1, 8, none⟩) (by dsimp only; omega) (.int .i64 v.num), (HM6.out.2.2.2.2.1.far (p := ⟨w.heap.size + 1 + 1, 0, none⟩) (by dsimp only; omega) (.string s)).far (p := ⟨w.heap.size + 1 + 1, 8, none⟩) (by dsimp only; omega) (.int .i64 v.num), trivial⟩
      have HB7 : Hid (Below w.heap.size w w7) := by
        show Below _ _ _
        rw [hw7]
        exact ((HB6.out.setCell (p := ⟨w.heap.size + 1 + 1, 0, none⟩) (by dsimp only; omega) (.string s)).setCell (p := ⟨w.heap.size + 1 + 1, 8, none⟩) (by dsimp only; omega) (.int .i64 v.num)).drew
      rw [← hw7]
      clear hw7 HM6 HB6 p0 p1 p2 p3 p4 p5 x0 x1 x2 x3 x4 x5 x6 x7 x8 x9 x10 x11 y0 y1 y2 y3 y4 y5 y6 y7 y8 y9 y10 y11 f0 f1 f2 f3 f4 f5 f6 f7 f8 f9 f10 f11
      have lt7 := HM7.out.1.lt
      obtain ⟨p0, p1, p2, p3, p4, p5⟩ := HM7.out.2.2.2.2.1.c6
      go_wp2_with fail
      refine (HCO.out _ (HIE.out.below HB7.out)).mono ?_
      rintro e w8 ⟨A8, c8, R8, r8, rfl, ho8, hb8⟩
      unfold pndV pndC
      dsimp only at ho8 ⊢
      have HM8 := Lib.hid (HM7.out.below hb8)
      have HB8 := Lib.hid (HB7.out.trans (hb8.mono HB7.out.size))
      have HO8 := Lib.hid ho8
      have hz8 := hb8.size
      clear hb8 ho8 HM7 HB7 HCO p0 p1 p2 p3 p4 p5
      go_upto_region 15 with fail
      have HM9 : Hid (Bs [(w8.heap.size, 41, [.int .i64 pn, .string pc, .string pt, .bool ps, .slice A8 V.length c8, .slice R8 0 r8]), (w3.heap.size, 74, [.string v.path, .int .i64 v.num, .int .i64 v.chg, .int .i64 v.act, .int .i64 v.ty.base, .bool v.ty.kw, .bool v.ty.ex, .bool v.ty.xe, .int .u64 v.con.sum, .int .i64 v.con.size, .string v.src, .int .i64 v.srcn]), (w.heap.size + 1 + 1 + 1, 41, [.int .i64 0, .string ⟨#[]⟩, .string ⟨#[]⟩, .bool false, .slice none 0 0, .slice none 0 0]), (w.heap.size + 1 + 1, 44, [.string s, .int .i64 1, .int .i64 tb, .bool tk, .bool te, .bool tx, .int .u64 cs, .int .i64 cz, .int .i64 v.num, .string ⟨#[]⟩, .int .i64 0, .int .i64 0]), (w.heap.size + 1, 37, [.slice A d.length ca, .slice B nb cb]), (w.heap.size, 41, [.int .i64 pn, .string pc, .string pt, .bool ps, .slice E V.length ec, .slice R 0 rc])] (w8.alloc (.cells [.int .i64 pn, .string pc, .string pt, .bool ps, .slice A8 V.length c8, .slice R8 0 r8].toArray 41))) := Bs.cons (Blk.new w8 41 [.int .i64 pn, .string pc, .string pt, .bool ps, .slice A8 V.length c8, .slice R8 0 r8]) (HM8.out.alloc _)
      have HB9 := Lib.hid (HB8.out.alloc HB8.out.size (.cells [.int .i64 pn, .string pc, .string pt, .bool ps, .slice A8 V.length c8, .slice R8 0 r8].toArray 41))
      have HO9 := Lib.hid (HO8.out.alloc (.cells [.int .i64 pn, .string pc, .string pt, .bool ps, .slice A8 V.length c8, .slice R8 0 r8].toArray 41))
      generalize hw9 : World.alloc w8 (.cells #[.int .i64 pn, .string pc, .string pt, .bool ps, .slice A8 V.length c8, .slice R8 0 r8] 41) = w9 at *
      clear hw9 HM8 HB8 HO8
      have lt9 := HM9.out.1.lt
      obtain ⟨p0, p1, p2, p3, p4, p5⟩ := HM9.out.1.c6
      obtain ⟨x0, x1, x2, x3, x4, x5, x6, x7, x8, x9, x10, x11⟩ := HM9.out.2.2.2.1.c12
      have HW := with_any V ⟨s, 1, ⟨tb, tk, te, tx⟩, ⟨cs, cz⟩, v.num, ⟨#[]⟩, 0, 0⟩ A8 c8 w9 (RowK.In.of_row HO9.out) HOK.out.pl HUS.out
      obtain ⟨L, hL⟩ : ∃ L, insE V ⟨s, 1, ⟨tb, tk, te, tx⟩, ⟨cs, cz⟩, v.num, ⟨#[]⟩, 0, 0⟩ = L := ⟨_, rfl⟩
      rw [hL] at HW HQQ
      clear hL
      unfold Edt.val Edt.cells at HW
      dsimp only [zeroTy, zeroCon] at HW
      have HWW := Lib.hid HW
      clear HW
      go_wp2_with fail
      refine HWW.out.mono ?_
      rintro e wa ⟨va, rfl, hoa, hba⟩
      obtain ⟨Aa, cc, rfl⟩ := own_slice hoa
      have HMa := Lib.hid (HM9.out.below hba)
      have HBa := Lib.hid (HB9.out.trans (hba.mono HB9.out.size))
      have HOa := Lib.hid hoa
      have hza := hba.size
      clear hba hoa HWW HM9 HB9 HO9 p0 p1 p2 p3 p4 p5 x0 x1 x2 x3 x4 x5 x6 x7 x8 x9 x10 x11
      obtain ⟨p0, p1, p2, p3, p4, p5⟩ := HMa.out.1.c6
      have g4 := HMa.out.1.fz 4
      have HMP := Lib.hid (show Bs [(w8.heap.size, 41, [.int .i64 pn, .string pc, .string pt, .bool ps, .slice Aa L.length cc, .slice R8 0 r8]), (w3.heap.size, 74, [.string v.path, .int .i64 v.num, .int .i64 v.chg, .int .i64 v.act, .int .i64 v.ty.base, .bool v.ty.kw, .bool v.ty.ex, .bool v.ty.xe, .int .u64 v.con.sum, .int .i64 v.con.size, .string v.src, .int .i64 v.srcn]), (w.heap.size + 1 + 1 + 1, 41, [.int .i64 0, .string ⟨#[]⟩, .string ⟨#[]⟩, .bool false, .slice none 0 0, .slice none 0 0]), (w.heap.size + 1 + 1, 44, [.string s, .int .i64 1, .int .i64 tb, .bool tk, .bool te, .bool tx, .int .u64 cs, .int .i64 cz, .int .i64 v.num, .string ⟨#[]⟩, .int .i64 0, .int .i64 0]), (w.heap.size + 1, 37, [.slice A d.length ca, .slice B nb cb]), (w.heap.size, 41, [.int .i64 pn, .string pc, .string pt, .bool ps, .slice E V.length ec, .slice R 0 rc])] _ from ⟨HMa.out.1.set 4 (.slice Aa L.length cc), HMa.out.2.1.far (p := ⟨w8.heap.size, 4, none⟩) (by dsimp only; omega) (.slice Aa L.length cc), HMa.out.2.2.1.far (p := ⟨w8.heap.size, 4, none⟩) (by dsimp only; omega) (.slice Aa L.length cc), HMa.out.2.2.2.1.far (p := ⟨w8.heap.size, 4, none⟩) (by dsimp only; omega) (.slice Aa L.length cc), HMa.out.2.2.2.2.1.far (p := ⟨w8.heap.size, 4, none⟩) (by dsimp only; omega) (.slice Aa L.length cc), HMa.out.2.2.2.2.2.1.far (p := ⟨w8.heap.size, 4, none⟩) (by dsimp only; omega) (.slice Aa L.length cc), trivial⟩)
      have HBP := Lib.hid (HBa.out.setCell (p := ⟨w8.heap.size, 4, none⟩) (by dsimp only; omega) (.slice Aa L.length cc))
      have HOP := Lib.hid (own_set_below HOa.out (p := ⟨w8.heap.size, 4, none⟩) (by dsimp only; omega) (.slice Aa L.length cc))
      go_upto_region 16 with fail
      (generalize World.setCell _ _ _ = wb at *)
      clear HMa HBa HOa p0 p1 p2 p3 p4 p5 g4
      have ltb := HMP.out.1.lt
      obtain ⟨p0, p1, p2, p3, p4, p5⟩ := HMP.out.1.c6
      obtain ⟨z0, z1, z2, z3, z4, z5⟩ := HMP.out.2.2.1.c6
      have f0 := HMP.out.2.2.1.fz 0
      have f1 := HMP.out.2.2.1.fz 1
      have f2 := HMP.out.2.2.1.fz 2
      have f3 := HMP.out.2.2.1.fz 3
      have f4 := HMP.out.2.2.1.fz 4
      have f5 := HMP.out.2.2.1.fz 5
      go_wp2_with fail
      have KZ := Lib.hid (zero_put (HMP.out.2.2.1) (.int .i64 pn) (.string pc) (.string pt) (.bool ps) (.slice Aa L.length cc) (.slice R8 0 r8))
      have HBZ := Lib.hid (below_put6 HBP.out (b := w.heap.size + 1 + 1 + 1) (by omega) (.int .i64 pn) (.string pc) (.string pt) (.bool ps) (.slice Aa L.length cc) (.slice R8 0 r8))
      have HOZ := Lib.hid (own_put6 HOP.out (b := w.heap.size + 1 + 1 + 1) (by intro e; have := HOP.out.lt _ e; omega) (.int .i64 pn) (.string pc) (.string pt) (.bool ps) (.slice Aa L.length cc) (.slice R8 0 r8))
      (generalize World.setCell (World.setCell (World.setCell (World.setCell (World.setCell (World.setCell _ _ _) _ _) _ _) _ _) _ _) _ _ = wz at *)
      obtain ⟨y0, y1, y2, y3, y4, y5⟩ := KZ.out.c6
      exact bodyPost_ret (v := .tuple #[.agg #[.int .i64 pn, .string pc, .string pt, .bool ps, .slice Aa L.length cc, .slice R8 0 r8], .int .i64 0]) (by simp [results, Tryz.results74, go_sem, y0, y1, y2, y3, y4, y5]) rfl (PRet.yes HQQ.out HOZ.out HBZ.out (by omega))
  · obtain ⟨tb, tk, te, tx⟩ := t
    obtain ⟨cs, cz⟩ := c
    clear h3 hact
    unfold pndV pndC Edt.val Edt.cells FTy.val FTy.cells Cid.val Cid.cells at *
    dsimp only [zeroTy, zeroCon] at *
    go_enter Tryz.func74, Tryz.ntmps74
    go_upto_region 1 with fail
    generalize hw1 : World.alloc _ (.cells #[.int .i64 0, .string ⟨#[]⟩, .string ⟨#[]⟩, .bool false, .slice none 0 0, .slice none 0 0] 41) = w1
    have HM1 : Hid (Bs [(w.heap.size + 1 + 1 + 1, 41, [.int .i64 0, .string ⟨#[]⟩, .string ⟨#[]⟩, .bool false, .slice none 0 0, .slice none 0 0]), (w.heap.size + 1 + 1, 44, [.string ⟨#[]⟩, .int .i64 2, .int .i64 tb, .bool tk, .bool te, .bool tx, .int .u64 cs, .int .i64 cz, .int .i64 0, .string ⟨#[]⟩, .int .i64 0, .int .i64 0]), (w.heap.size + 1, 37, [.slice A d.length ca, .slice B nb cb]), (w.heap.size, 41, [.int .i64 pn, .string pc, .string pt, .bool ps, .slice E V.length ec, .slice R 0 rc])] w1) := by
      show Bs _ _
      rw [← hw1]
      refine ⟨?_, ?_, ?_, ?_, trivial⟩
      · exact Blk.new3 _ _ _ _ _ _
      · exact Blk.alloc (Blk.new2 _ _ _ _ _) _
      · exact Blk.alloc (Blk.alloc (Blk.new1 _ _ _ _) _) _
      · exact Blk.alloc (Blk.alloc (Blk.alloc (Blk.new _ _ _) _) _) _
    have HB1 : Hid (Below w.heap.size w w1) := by
      show Below _ _ _
      rw [← hw1]
      (repeat (first | (with_reducible exact Below.refl _ _) | (with_reducible assumption) | (with_reducible refine Below.setCell ?_ ?_ _; rotate_left; focus (first | exact Nat.le_refl _ | (dsimp only; omega))) | (with_reducible refine Below.drew ?_) | (with_reducible refine below_drewN ?_ _) | (with_reducible refine Below.alloc ?_ ?_ _; rotate_left; focus (first | exact Nat.le_refl _ | (simp; done) | (simp; omega)))))
    clear hw1
    go_wp2_with fail
    refine (HPS.out _).mono ?_
    rintro e w' ⟨rfl, rfl⟩
    cases hus : useB s
    case false =>
      have hqq : q = (zeroP, 180) := by rw [← HQ.out]; unfold openP; rw [if_pos hus]
      (obtain ⟨z0, z1, z2, z3, z4, z5⟩ := (HM1.out.1).c6; have f0 := (HM1.out.1).fz 0; have f1 := (HM1.out.1).fz 1; have f2 := (HM1.out.1).fz 2; have f3 := (HM1.out.1).fz 3; have f4 := (HM1.out.1).fz 4; have f5 := (HM1.out.1).fz 5; go_wp2_with fail; have KZ := Lib.hid (zero_put (HM1.out.1) (.int .i64 0) (.string ⟨#[]⟩) (.string ⟨#[]⟩) (.bool false) (.slice none 0 0) (.slice none 0 0)); have HBZ := Lib.hid (below_put6 (HB1.out) (b := w.heap.size + 1 + 1 + 1) (by omega) (.int .i64 0) (.string ⟨#[]⟩) (.string ⟨#[]⟩) (.bool false) (.slice none 0 0) (.slice none 0 0)); generalize World.setCell (World.setCell (World.setCell (World.setCell (World.setCell (World.setCell _ _ _) _ _) _ _) _ _) _ _) _ _ = wz at *; obtain ⟨y0, y1, y2, y3, y4, y5⟩ := KZ.out.c6; exact bodyPost_ret (v := .tuple #[.agg #[.int .i64 0, .string ⟨#[]⟩, .string ⟨#[]⟩, .bool false, .slice none 0 0, .slice none 0 0], .int .i64 _]) (by simp [results, Tryz.results74, go_sem, y0, y1, y2, y3, y4, y5]) rfl (PRet.no (hqq) HBZ.out))
    have HUS := Lib.hid hus
    clear hus
    obtain ⟨p0, p1, p2, p3, p4, p5⟩ := HM1.out.2.2.2.1.c6
    go_wp2_with fail
    refine (HKS.out _ (HIE.out.below HB1.out)).mono ?_
    rintro e w2 ⟨rfl, hb2⟩
    have HM2 := Lib.hid (HM1.out.below hb2)
    have HB2 := Lib.hid (HB1.out.trans (hb2.mono HB1.out.size))
    have lt2 := HM2.out.1.lt
    clear hb2 HM1 HB1 p0 p1 p2 p3 p4 p5
    cases hh : hasE V s
    case true =>
      have hqq : q = (zeroP, 181) := by rw [← HQ.out]; unfold openP; rw [if_neg (by rw [HUS.out]; decide), if_pos hh]
      (obtain ⟨z0, z1, z2, z3, z4, z5⟩ := (HM2.out.1).c6; have f0 := (HM2.out.1).fz 0; have f1 := (HM2.out.1).fz 1; have f2 := (HM2.out.1).fz 2; have f3 := (HM2.out.1).fz 3; have f4 := (HM2.out.1).fz 4; have f5 := (HM2.out.1).fz 5; go_wp2_with fail; have KZ := Lib.hid (zero_put (HM2.out.1) (.int .i64 0) (.string ⟨#[]⟩) (.string ⟨#[]⟩) (.bool false) (.slice none 0 0) (.slice none 0 0)); have HBZ := Lib.hid (below_put6 (HB2.out) (b := w.heap.size + 1 + 1 + 1) (by omega) (.int .i64 0) (.string ⟨#[]⟩) (.string ⟨#[]⟩) (.bool false) (.slice none 0 0) (.slice none 0 0)); generalize World.setCell (World.setCell (World.setCell (World.setCell (World.setCell (World.setCell _ _ _) _ _) _ _) _ _) _ _) _ _ = wz at *; obtain ⟨y0, y1, y2, y3, y4, y5⟩ := KZ.out.c6; exact bodyPost_ret (v := .tuple #[.agg #[.int .i64 0, .string ⟨#[]⟩, .string ⟨#[]⟩, .bool false, .slice none 0 0, .slice none 0 0], .int .i64 _]) (by simp [results, Tryz.results74, go_sem, y0, y1, y2, y3, y4, y5]) rfl (PRet.no (hqq) HBZ.out))
    have HHN := Lib.hid hh
    clear hh
    generalize hv : lastR d s = v at *
    generalize hl : liveD d s = l at *
    have HVE := Lib.hid hv
    have HLE := Lib.hid hl
    clear hv hl
    have HQ1 : Hid (q = if l = decide ((2 : Int) = 1) ∨ ((2 : Int) ≠ 3 ∧ badTC ⟨tb, tk, te, tx⟩ ⟨cs, cz⟩ = true) then (zeroP, 183) else if 64 ≤ V.length then (zeroP, 184) else (⟨pn, pc, pt, ps, insE V (newE d s 2 ⟨tb, tk, te, tx⟩ ⟨cs, cz⟩)⟩, 0)) := by
      show _ = _
      rw [← HQ.out, ← HLE.out]
      unfold openP
      rw [if_neg (by rw [HUS.out]; decide), if_neg (by rw [HHN.out]; decide)]
      try rfl
    obtain ⟨d0, d1⟩ := HM2.out.2.2.1.c2
    go_wp2_with fail
    refine (HLT.out _ (HI.out.below HB2.out)).mono ?_
    rintro e w3 ⟨rfl, hb3⟩
    unfold Rev.val Rev.cells
    have HM4 : Hid (Bs [(w3.heap.size, 74, [.string v.path, .int .i64 v.num, .int .i64 v.chg, .int .i64 v.act, .int .i64 v.ty.base, .bool v.ty.kw, .bool v.ty.ex, .bool v.ty.xe, .int .u64 v.con.sum, .int .i64 v.con.size, .string v.src, .int .i64 v.srcn]), (w.heap.size + 1 + 1 + 1, 41, [.int .i64 0, .string ⟨#[]⟩, .string ⟨#[]⟩, .bool false, .slice none 0 0, .slice none 0 0]), (w.heap.size + 1 + 1, 44, [.string ⟨#[]⟩, .int .i64 2, .int .i64 tb, .bool tk, .bool te, .bool tx, .int .u64 cs, .int .i64 cz, .int .i64 0, .string ⟨#[]⟩, .int .i64 0, .int .i64 0]), (w.heap.size + 1, 37, [.slice A d.length ca, .slice B nb cb]), (w.heap.size, 41, [.int .i64 pn, .string pc, .string pt, .bool ps, .slice E V.length ec, .slice R 0 rc])] (w3.alloc (.cells [.string v.path, .int .i64 v.num, .int .i64 v.chg, .int .i64 v.act, .int .i64 v.ty.base, .bool v.ty.kw, .bool v.ty.ex, .bool v.ty.xe, .int .u64 v.con.sum, .int .i64 v.con.size, .string v.src, .int .i64 v.srcn].toArray 74))) := Bs.cons (Blk.new w3 74 [.string v.path, .int .i64 v.num, .int .i64 v.chg, .int .i64 v.act, .int .i64 v.ty.base, .bool v.ty.kw, .bool v.ty.ex, .bool v.ty.xe, .int .u64 v.con.sum, .int .i64 v.con.size, .string v.src, .int .i64 v.srcn]) ((HM2.out.below hb3).alloc _)
    have HB4 : Hid (Below w.heap.size w (w3.alloc (.cells [.string v.path, .int .i64 v.num, .int .i64 v.chg, .int .i64 v.act, .int .i64 v.ty.base, .bool v.ty.kw, .bool v.ty.ex, .bool v.ty.xe, .int .u64 v.con.sum, .int .i64 v.con.size, .string v.src, .int .i64 v.srcn].toArray 74))) := (HB2.out.trans (hb3.mono HB2.out.size)).alloc (HB2.out.trans (hb3.mono HB2.out.size)).size _
    have hz3 := hb3.size
    clear hb3 HM2 HB2 d0 d1
    go_upto_region 7 with fail
    generalize hw4 : World.alloc w3 (.cells #[.string v.path, .int .i64 v.num, .int .i64 v.chg, .int .i64 v.act, .int .i64 v.ty.base, .bool v.ty.kw, .bool v.ty.ex, .bool v.ty.xe, .int .u64 v.con.sum, .int .i64 v.con.size, .string v.src, .int .i64 v.srcn] 74) = w4 at *
    clear hw4
    have lt4 := HM4.out.1.lt
    -- MARKA
    obtain ⟨x0, x1, x2, x3, x4, x5, x6, x7, x8, x9, x10, x11⟩ := HM4.out.2.2.1.c12
    have HM5 := HM4
    have HB5 := HB4
    obtain ⟨w5, hw5⟩ : ∃ z, z = w4 := ⟨_, rfl⟩
    subst hw5
    clear HM4 HB4
    have lt5 := HM5.out.1.lt
    cases l
    case false =>
      have hqq : q = (zeroP, 183) := by rw [HQ1.out, if_pos (.inl (by decide))]
      (obtain ⟨z0, z1, z2, z3, z4, z5⟩ := (HM5.out.2.1).c6; have f0 := (HM5.out.2.1).fz 0; have f1 := (HM5.out.2.1).fz 1; have f2 := (HM5.out.2.1).fz 2; have f3 := (HM5.out.2.1).fz 3; have f4 := (HM5.out.2.1).fz 4; have f5 := (HM5.out.2.1).fz 5; go_wp2_with fail; have KZ := Lib.hid (zero_put (HM5.out.2.1) (.int .i64 0) (.string ⟨#[]⟩) (.string ⟨#[]⟩) (.bool false) (.slice none 0 0) (.slice none 0 0)); have HBZ := Lib.hid (below_put6 (HB5.out) (b := w.heap.size + 1 + 1 + 1) (by omega) (.int .i64 0) (.string ⟨#[]⟩) (.string ⟨#[]⟩) (.bool false) (.slice none 0 0) (.slice none 0 0)); generalize World.setCell (World.setCell (World.setCell (World.setCell (World.setCell (World.setCell _ _ _) _ _) _ _) _ _) _ _) _ _ = wz at *; obtain ⟨y0, y1, y2, y3, y4, y5⟩ := KZ.out.c6; exact bodyPost_ret (v := .tuple #[.agg #[.int .i64 0, .string ⟨#[]⟩, .string ⟨#[]⟩, .bool false, .slice none 0 0, .slice none 0 0], .int .i64 _]) (by simp [results, Tryz.results74, go_sem, y0, y1, y2, y3, y4, y5]) rfl (PRet.no (hqq) HBZ.out))
    -- MARKB
    go_wp2_with fail
    refine (HSU.out _).mono ?_
    rintro e w6 ⟨rfl, hb6⟩
    have HM6 := Lib.hid (HM5.out.below hb6)
    have HB6 := Lib.hid (HB5.out.trans (hb6.mono HB5.out.size))
    clear hb6 HM5 HB5 x0 x1 x2 x3 x4 x5 x6 x7 x8 x9 x10 x11
    cases hbd : badTC ⟨tb, tk, te, tx⟩ ⟨cs, cz⟩
    case true =>
      have hqq : q = (zeroP, 183) := by rw [HQ1.out, if_pos (.inr ⟨by decide, hbd⟩)]
      (obtain ⟨z0, z1, z2, z3, z4, z5⟩ := (HM6.out.2.1).c6; have f0 := (HM6.out.2.1).fz 0; have f1 := (HM6.out.2.1).fz 1; have f2 := (HM6.out.2.1).fz 2; have f3 := (HM6.out.2.1).fz 3; have f4 := (HM6.out.2.1).fz 4; have f5 := (HM6.out.2.1).fz 5; go_wp2_with fail; have KZ := Lib.hid (zero_put (HM6.out.2.1) (.int .i64 0) (.string ⟨#[]⟩) (.string ⟨#[]⟩) (.bool false) (.slice none 0 0) (.slice none 0 0)); have HBZ := Lib.hid (below_put6 (HB6.out) (b := w.heap.size + 1 + 1 + 1) (by omega) (.int .i64 0) (.string ⟨#[]⟩) (.string ⟨#[]⟩) (.bool false) (.slice none 0 0) (.slice none 0 0)); generalize World.setCell (World.setCell (World.setCell (World.setCell (World.setCell (World.setCell _ _ _) _ _) _ _) _ _) _ _) _ _ = wz at *; obtain ⟨y0, y1, y2, y3, y4, y5⟩ := KZ.out.c6; exact bodyPost_ret (v := .tuple #[.agg #[.int .i64 0, .string ⟨#[]⟩, .string ⟨#[]⟩, .bool false, .slice none 0 0, .slice none 0 0], .int .i64 _]) (by simp [results, Tryz.results74, go_sem, y0, y1, y2, y3, y4, y5]) rfl (PRet.no (hqq) HBZ.out))
    have HQ2 : Hid (q = if 64 ≤ V.length then (zeroP, 184) else (⟨pn, pc, pt, ps, insE V (newE d s 2 ⟨tb, tk, te, tx⟩ ⟨cs, cz⟩)⟩, 0)) := by
      show _ = _
      rw [HQ1.out, if_neg]
      rintro (h | h)
      · exact absurd h (by decide)
      · rw [hbd] at h; exact absurd h.2 (by decide)
    clear hbd
    clear HQ1
    have lt6 := HM6.out.1.lt
    obtain ⟨p0, p1, p2, p3, p4, p5⟩ := HM6.out.2.2.2.2.1.c6
    by_cases hbig : 64 ≤ V.length
    · have hbi : (64 : Int) ≤ (V.length : Int) := by omega
      have hqq : q = (zeroP, 184) := by rw [HQ2.out, if_pos hbig]
      (obtain ⟨z0, z1, z2, z3, z4, z5⟩ := (HM6.out.2.1).c6; have f0 := (HM6.out.2.1).fz 0; have f1 := (HM6.out.2.1).fz 1; have f2 := (HM6.out.2.1).fz 2; have f3 := (HM6.out.2.1).fz 3; have f4 := (HM6.out.2.1).fz 4; have f5 := (HM6.out.2.1).fz 5; go_wp2_with fail; have KZ := Lib.hid (zero_put (HM6.out.2.1) (.int .i64 0) (.string ⟨#[]⟩) (.string ⟨#[]⟩) (.bool false) (.slice none 0 0) (.slice none 0 0)); have HBZ := Lib.hid (below_put6 (HB6.out) (b := w.heap.size + 1 + 1 + 1) (by omega) (.int .i64 0) (.string ⟨#[]⟩) (.string ⟨#[]⟩) (.bool false) (.slice none 0 0) (.slice none 0 0)); generalize World.setCell (World.setCell (World.setCell (World.setCell (World.setCell (World.setCell _ _ _) _ _) _ _) _ _) _ _) _ _ = wz at *; obtain ⟨y0, y1, y2, y3, y4, y5⟩ := KZ.out.c6; exact bodyPost_ret (v := .tuple #[.agg #[.int .i64 0, .string ⟨#[]⟩, .string ⟨#[]⟩, .bool false, .slice none 0 0, .slice none 0 0], .int .i64 _]) (by simp [results, Tryz.results74, go_sem, y0, y1, y2, y3, y4, y5]) rfl (PRet.no (hqq) HBZ.out))
    · have hbi : ¬ (64 : Int) ≤ (V.length : Int) := by omega
      have hqq : q = (⟨pn, pc, pt, ps, insE V ⟨s, 2, ⟨tb, tk, te, tx⟩, ⟨cs, cz⟩, v.num, ⟨#[]⟩, 0, 0⟩⟩, 0) := by
        rw [HQ2.out, if_neg hbig]
        unfold newE
        rw [HVE.out]
        rfl
      have HQQ := Lib.hid hqq
      clear hqq HQ2 HQ
      -- MARKC
      obtain ⟨y0, y1, y2, y3, y4, y5, y6, y7, y8, y9, y10, y11⟩ := HM6.out.1.c12
      
      obtain ⟨x0, x1, x2, x3, x4, x5, x6, x7, x8, x9, x10, x11⟩ := HM6.out.2.2.1.c12
      obtain ⟨f0, f1, f2, f3, f4, f5, f6, f7, f8, f9, f10, f11⟩ := HM6.out.2.2.1.f12
      go_wp2_with fail
      go_region
      obtain ⟨w7, hw7⟩ : ∃ z, z = ((w6.setCell ⟨w.heap.size + 1 + 1, 0, none⟩ (.string s)).setCell ⟨w.heap.size + 1 + 1, 8, none⟩ (.int .i64 v.num)).drew := ⟨_, rfl⟩
      have HM7 : Hid (Bs [(w3.heap.size, 74, [.string v.path, .int .i64 v.num, .int .i64 v.chg, .int .i64 v.act, .int .i64 v.ty.base, .bool v.ty.kw, .bool v.ty.ex, .bool v.ty.xe, .int .u64 v.con.sum, .int .i64 v.con.size, .string v.src, .int .i64 v.srcn]), (w.heap.size + 1 + 1 + 1, 41, [.int .i64 0, .string ⟨#[]⟩, .string ⟨#[]⟩, .bool false, .slice none 0 0, .slice none 0 0]), (w.heap.size + 1 + 1, 44, [.string s, .int .i64 2, .int .i64 tb, .bool tk, .bool te, .bool tx, .int .u64 cs, .int .i64 cz, .int .i64 v.num, .string ⟨#[]⟩, .int .i64 0, .int .i64 0]), (w.heap.size + 1, 37, [.slice A d.length ca, .slice B nb cb]), (w.heap.size, 41, [.int .i64 pn, .string pc, .string pt, .bool ps, .slice E V.length ec, .slice R 0 rc])] w7) := by
        show Bs _ _
        rw [hw7]
        exact Bs.drew ⟨(HM6.out.1.far (p := ⟨w.heap.size + 1 + 1, 0, none⟩) (by dsimp only; omega) (.string s)).far (p := ⟨w.heap.size + 1 + 1, 8, none⟩) (by dsimp only; omega) (.int .i64 v.num), (HM6.out.2.1.far (p := ⟨w.heap.size + 1 + 1, 0, none⟩) (by dsimp only; omega) (.string s)).far (p := ⟨w.heap.size + 1 + 1, 8, none⟩) (by dsimp only; omega) (.int .i64 v.num), (HM6.out.2.2.1.set 0 (.string s)).set 8 (.int .i64 v.num), (HM6.out.2.2.2.1.far (p := ⟨w.heap.size + 1 + 1, 0, none⟩) (by dsimp only; omega) (.string s)).far (p := ⟨w.heap.size + 1 + 1, 8, none⟩) (by dsimp only; omega) (.int .i64 v.num), (HM6.out.2.2.2.2.1.far (p := ⟨w.heap.size + 1 + 1, 0, none⟩) (by dsimp only; omega) (.string s)).far (p := ⟨w.heap.size + 1 + 1, 8, none⟩) (by dsimp only; omega) (.int .i64 v.num), trivial⟩
      have HB7 : Hid (Below w.heap.size w w7) := by
        show Below _ _ _
        rw [hw7]
        exact ((HB6.out.setCell (p := ⟨w.heap.size + 1 + 1, 0, none⟩) (by dsimp only; omega) (.string s)).setCell (p := ⟨w.heap.size + 1 + 1, 8, none⟩) (by dsimp only; omega) (.int .i64 v.num)).drew
      rw [← hw7]
      clear hw7 HM6 HB6 p0 p1 p2 p3 p4 p5 x0 x1 x2 x3 x4 x5 x6 x7 x8 x9 x10 x11 y0 y1 y2 y3 y4 y5 y6 y7 y8 y9 y10 y11 f0 f1 f2 f3 f4 f5 f6 f7 f8 f9 f10 f11
      have lt7 := HM7.out.1.lt
      obtain ⟨p0, p1, p2, p3, p4, p5⟩ := HM7.out.2.2.2.2.1.c6
      go_wp2_with fail
      refine (HCO.out _ (HIE.out.below HB7.out)).mono ?_
      rintro e w8 ⟨A8, c8, R8, r8, rfl, ho8, hb8⟩
      unfold pndV pndC
      dsimp only at ho8 ⊢
      have HM8 := Lib.hid (HM7.out.below hb8)
      have HB8 := Lib.hid (HB7.out.trans (hb8.mono HB7.out.size))
      have HO8 := Lib.hid ho8
      have hz8 := hb8.size
      clear hb8 ho8 HM7 HB7 HCO p0 p1 p2 p3 p4 p5
      go_upto_region 15 with fail
      have HM9 : Hid (Bs [(w8.heap.size, 41, [.int .i64 pn, .string pc, .string pt, .bool ps, .slice A8 V.length c8, .slice R8 0 r8]), (w3.heap.size, 74, [.string v.path, .int .i64 v.num, .int .i64 v.chg, .int .i64 v.act, .int .i64 v.ty.base, .bool v.ty.kw, .bool v.ty.ex, .bool v.ty.xe, .int .u64 v.con.sum, .int .i64 v.con.size, .string v.src, .int .i64 v.srcn]), (w.heap.size + 1 + 1 + 1, 41, [.int .i64 0, .string ⟨#[]⟩, .string ⟨#[]⟩, .bool false, .slice none 0 0, .slice none 0 0]), (w.heap.size + 1 + 1, 44, [.string s, .int .i64 2, .int .i64 tb, .bool tk, .bool te, .bool tx, .int .u64 cs, .int .i64 cz, .int .i64 v.num, .string ⟨#[]⟩, .int .i64 0, .int .i64 0]), (w.heap.size + 1, 37, [.slice A d.length ca, .slice B nb cb]), (w.heap.size, 41, [.int .i64 pn, .string pc, .string pt, .bool ps, .slice E V.length ec, .slice R 0 rc])] (w8.alloc (.cells [.int .i64 pn, .string pc, .string pt, .bool ps, .slice A8 V.length c8, .slice R8 0 r8].toArray 41))) := Bs.cons (Blk.new w8 41 [.int .i64 pn, .string pc, .string pt, .bool ps, .slice A8 V.length c8, .slice R8 0 r8]) (HM8.out.alloc _)
      have HB9 := Lib.hid (HB8.out.alloc HB8.out.size (.cells [.int .i64 pn, .string pc, .string pt, .bool ps, .slice A8 V.length c8, .slice R8 0 r8].toArray 41))
      have HO9 := Lib.hid (HO8.out.alloc (.cells [.int .i64 pn, .string pc, .string pt, .bool ps, .slice A8 V.length c8, .slice R8 0 r8].toArray 41))
      generalize hw9 : World.alloc w8 (.cells #[.int .i64 pn, .string pc, .string pt, .bool ps, .slice A8 V.length c8, .slice R8 0 r8] 41) = w9 at *
      clear hw9 HM8 HB8 HO8
      have lt9 := HM9.out.1.lt
      obtain ⟨p0, p1, p2, p3, p4, p5⟩ := HM9.out.1.c6
      obtain ⟨x0, x1, x2, x3, x4, x5, x6, x7, x8, x9, x10, x11⟩ := HM9.out.2.2.2.1.c12
      have HW := with_any V ⟨s, 2, ⟨tb, tk, te, tx⟩, ⟨cs, cz⟩, v.num, ⟨#[]⟩, 0, 0⟩ A8 c8 w9 (RowK.In.of_row HO9.out) HOK.out.pl HUS.out
      obtain ⟨L, hL⟩ : ∃ L, insE V ⟨s, 2, ⟨tb, tk, te, tx⟩, ⟨cs, cz⟩, v.num, ⟨#[]⟩, 0, 0⟩ = L := ⟨_, rfl⟩
      rw [hL] at HW HQQ
      clear hL
      unfold Edt.val Edt.cells at HW
      dsimp only [zeroTy, zeroCon] at HW
      have HWW := Lib.hid HW
      clear HW
      go_wp2_with fail
      refine HWW.out.mono ?_
      rintro e wa ⟨va, rfl, hoa, hba⟩
      obtain ⟨Aa, cc, rfl⟩ := own_slice hoa
      have HMa := Lib.hid (HM9.out.below hba)
      have HBa := Lib.hid (HB9.out.trans (hba.mono HB9.out.size))
      have HOa := Lib.hid hoa
      have hza := hba.size
      clear hba hoa HWW HM9 HB9 HO9 p0 p1 p2 p3 p4 p5 x0 x1 x2 x3 x4 x5 x6 x7 x8 x9 x10 x11
      obtain ⟨p0, p1, p2, p3, p4, p5⟩ := HMa.out.1.c6
      have g4 := HMa.out.1.fz 4
      have HMP := Lib.hid (show Bs [(w8.heap.size, 41, [.int .i64 pn, .string pc, .string pt, .bool ps, .slice Aa L.length cc, .slice R8 0 r8]), (w3.heap.size, 74, [.string v.path, .int .i64 v.num, .int .i64 v.chg, .int .i64 v.act, .int .i64 v.ty.base, .bool v.ty.kw, .bool v.ty.ex, .bool v.ty.xe, .int .u64 v.con.sum, .int .i64 v.con.size, .string v.src, .int .i64 v.srcn]), (w.heap.size + 1 + 1 + 1, 41, [.int .i64 0, .string ⟨#[]⟩, .string ⟨#[]⟩, .bool false, .slice none 0 0, .slice none 0 0]), (w.heap.size + 1 + 1, 44, [.string s, .int .i64 2, .int .i64 tb, .bool tk, .bool te, .bool tx, .int .u64 cs, .int .i64 cz, .int .i64 v.num, .string ⟨#[]⟩, .int .i64 0, .int .i64 0]), (w.heap.size + 1, 37, [.slice A d.length ca, .slice B nb cb]), (w.heap.size, 41, [.int .i64 pn, .string pc, .string pt, .bool ps, .slice E V.length ec, .slice R 0 rc])] _ from ⟨HMa.out.1.set 4 (.slice Aa L.length cc), HMa.out.2.1.far (p := ⟨w8.heap.size, 4, none⟩) (by dsimp only; omega) (.slice Aa L.length cc), HMa.out.2.2.1.far (p := ⟨w8.heap.size, 4, none⟩) (by dsimp only; omega) (.slice Aa L.length cc), HMa.out.2.2.2.1.far (p := ⟨w8.heap.size, 4, none⟩) (by dsimp only; omega) (.slice Aa L.length cc), HMa.out.2.2.2.2.1.far (p := ⟨w8.heap.size, 4, none⟩) (by dsimp only; omega) (.slice Aa L.length cc), HMa.out.2.2.2.2.2.1.far (p := ⟨w8.heap.size, 4, none⟩) (by dsimp only; omega) (.slice Aa L.length cc), trivial⟩)
      have HBP := Lib.hid (HBa.out.setCell (p := ⟨w8.heap.size, 4, none⟩) (by dsimp only; omega) (.slice Aa L.length cc))
      have HOP := Lib.hid (own_set_below HOa.out (p := ⟨w8.heap.size, 4, none⟩) (by dsimp only; omega) (.slice Aa L.length cc))
      go_upto_region 16 with fail
      (generalize World.setCell _ _ _ = wb at *)
      clear HMa HBa HOa p0 p1 p2 p3 p4 p5 g4
      have ltb := HMP.out.1.lt
      obtain ⟨p0, p1, p2, p3, p4, p5⟩ := HMP.out.1.c6
      obtain ⟨z0, z1, z2, z3, z4, z5⟩ := HMP.out.2.2.1.c6
      have f0 := HMP.out.2.2.1.fz 0
      have f1 := HMP.out.2.2.1.fz 1
      have f2 := HMP.out.2.2.1.fz 2
      have f3 := HMP.out.2.2.1.fz 3
      have f4 := HMP.out.2.2.1.fz 4
      have f5 := HMP.out.2.2.1.fz 5
      go_wp2_with fail
      have KZ := Lib.hid (zero_put (HMP.out.2.2.1) (.int .i64 pn) (.string pc) (.string pt) (.bool ps) (.slice Aa L.length cc) (.slice R8 0 r8))
      have HBZ := Lib.hid (below_put6 HBP.out (b := w.heap.size + 1 + 1 + 1) (by omega) (.int .i64 pn) (.string pc) (.string pt) (.bool ps) (.slice Aa L.length cc) (.slice R8 0 r8))
      have HOZ := Lib.hid (own_put6 HOP.out (b := w.heap.size + 1 + 1 + 1) (by intro e; have := HOP.out.lt _ e; omega) (.int .i64 pn) (.string pc) (.string pt) (.bool ps) (.slice Aa L.length cc) (.slice R8 0 r8))
      (generalize World.setCell (World.setCell (World.setCell (World.setCell (World.setCell (World.setCell _ _ _) _ _) _ _) _ _) _ _) _ _ = wz at *)
      obtain ⟨y0, y1, y2, y3, y4, y5⟩ := KZ.out.c6
      exact bodyPost_ret (v := .tuple #[.agg #[.int .i64 pn, .string pc, .string pt, .bool ps, .slice Aa L.length cc, .slice R8 0 r8], .int .i64 0]) (by simp [results, Tryz.results74, go_sem, y0, y1, y2, y3, y4, y5]) rfl (PRet.yes HQQ.out HOZ.out HBZ.out (by omega))
  · obtain ⟨rfl, rfl⟩ := h3 rfl
    clear h3 hact
    unfold pndV pndC Edt.val Edt.cells FTy.val FTy.cells Cid.val Cid.cells at *
    dsimp only [zeroTy, zeroCon] at *
    go_enter Tryz.func74, Tryz.ntmps74
    go_upto_region 1 with fail
    generalize hw1 : World.alloc _ (.cells #[.int .i64 0, .string ⟨#[]⟩, .string ⟨#[]⟩, .bool false, .slice none 0 0, .slice none 0 0] 41) = w1
    have HM1 : Hid (Bs [(w.heap.size + 1 + 1 + 1, 41, [.int .i64 0, .string ⟨#[]⟩, .string ⟨#[]⟩, .bool false, .slice none 0 0, .slice none 0 0]), (w.heap.size + 1 + 1, 44, [.string ⟨#[]⟩, .int .i64 3, .int .i64 0, .bool false, .bool false, .bool false, .int .u64 0, .int .i64 0, .int .i64 0, .string ⟨#[]⟩, .int .i64 0, .int .i64 0]), (w.heap.size + 1, 37, [.slice A d.length ca, .slice B nb cb]), (w.heap.size, 41, [.int .i64 pn, .string pc, .string pt, .bool ps, .slice E V.length ec, .slice R 0 rc])] w1) := by
      show Bs _ _
      rw [← hw1]
      refine ⟨?_, ?_, ?_, ?_, trivial⟩
      · exact Blk.new3 _ _ _ _ _ _
      · exact Blk.alloc (Blk.new2 _ _ _ _ _) _
      · exact Blk.alloc (Blk.alloc (Blk.new1 _ _ _ _) _) _
      · exact Blk.alloc (Blk.alloc (Blk.alloc (Blk.new _ _ _) _) _) _
    have HB1 : Hid (Below w.heap.size w w1) := by
      show Below _ _ _
      rw [← hw1]
      (repeat (first | (with_reducible exact Below.refl _ _) | (with_reducible assumption) | (with_reducible refine Below.setCell ?_ ?_ _; rotate_left; focus (first | exact Nat.le_refl _ | (dsimp only; omega))) | (with_reducible refine Below.drew ?_) | (with_reducible refine below_drewN ?_ _) | (with_reducible refine Below.alloc ?_ ?_ _; rotate_left; focus (first | exact Nat.le_refl _ | (simp; done) | (simp; omega)))))
    clear hw1
    go_wp2_with fail
    refine (HPS.out _).mono ?_
    rintro e w' ⟨rfl, rfl⟩
    cases hus : useB s
    case false =>
      have hqq : q = (zeroP, 180) := by rw [← HQ.out]; unfold openP; rw [if_pos hus]
      (obtain ⟨z0, z1, z2, z3, z4, z5⟩ := (HM1.out.1).c6; have f0 := (HM1.out.1).fz 0; have f1 := (HM1.out.1).fz 1; have f2 := (HM1.out.1).fz 2; have f3 := (HM1.out.1).fz 3; have f4 := (HM1.out.1).fz 4; have f5 := (HM1.out.1).fz 5; go_wp2_with fail; have KZ := Lib.hid (zero_put (HM1.out.1) (.int .i64 0) (.string ⟨#[]⟩) (.string ⟨#[]⟩) (.bool false) (.slice none 0 0) (.slice none 0 0)); have HBZ := Lib.hid (below_put6 (HB1.out) (b := w.heap.size + 1 + 1 + 1) (by omega) (.int .i64 0) (.string ⟨#[]⟩) (.string ⟨#[]⟩) (.bool false) (.slice none 0 0) (.slice none 0 0)); generalize World.setCell (World.setCell (World.setCell (World.setCell (World.setCell (World.setCell _ _ _) _ _) _ _) _ _) _ _) _ _ = wz at *; obtain ⟨y0, y1, y2, y3, y4, y5⟩ := KZ.out.c6; exact bodyPost_ret (v := .tuple #[.agg #[.int .i64 0, .string ⟨#[]⟩, .string ⟨#[]⟩, .bool false, .slice none 0 0, .slice none 0 0], .int .i64 _]) (by simp [results, Tryz.results74, go_sem, y0, y1, y2, y3, y4, y5]) rfl (PRet.no (hqq) HBZ.out))
    have HUS := Lib.hid hus
    clear hus
    obtain ⟨p0, p1, p2, p3, p4, p5⟩ := HM1.out.2.2.2.1.c6
    go_wp2_with fail
    refine (HKS.out _ (HIE.out.below HB1.out)).mono ?_
    rintro e w2 ⟨rfl, hb2⟩
    have HM2 := Lib.hid (HM1.out.below hb2)
    have HB2 := Lib.hid (HB1.out.trans (hb2.mono HB1.out.size))
    have lt2 := HM2.out.1.lt
    clear hb2 HM1 HB1 p0 p1 p2 p3 p4 p5
    cases hh : hasE V s
    case true =>
      have hqq : q = (zeroP, 181) := by rw [← HQ.out]; unfold openP; rw [if_neg (by rw [HUS.out]; decide), if_pos hh]
      (obtain ⟨z0, z1, z2, z3, z4, z5⟩ := (HM2.out.1).c6; have f0 := (HM2.out.1).fz 0; have f1 := (HM2.out.1).fz 1; have f2 := (HM2.out.1).fz 2; have f3 := (HM2.out.1).fz 3; have f4 := (HM2.out.1).fz 4; have f5 := (HM2.out.1).fz 5; go_wp2_with fail; have KZ := Lib.hid (zero_put (HM2.out.1) (.int .i64 0) (.string ⟨#[]⟩) (.string ⟨#[]⟩) (.bool false) (.slice none 0 0) (.slice none 0 0)); have HBZ := Lib.hid (below_put6 (HB2.out) (b := w.heap.size + 1 + 1 + 1) (by omega) (.int .i64 0) (.string ⟨#[]⟩) (.string ⟨#[]⟩) (.bool false) (.slice none 0 0) (.slice none 0 0)); generalize World.setCell (World.setCell (World.setCell (World.setCell (World.setCell (World.setCell _ _ _) _ _) _ _) _ _) _ _) _ _ = wz at *; obtain ⟨y0, y1, y2, y3, y4, y5⟩ := KZ.out.c6; exact bodyPost_ret (v := .tuple #[.agg #[.int .i64 0, .string ⟨#[]⟩, .string ⟨#[]⟩, .bool false, .slice none 0 0, .slice none 0 0], .int .i64 _]) (by simp [results, Tryz.results74, go_sem, y0, y1, y2, y3, y4, y5]) rfl (PRet.no (hqq) HBZ.out))
    have HHN := Lib.hid hh
    clear hh
    generalize hv : lastR d s = v at *
    generalize hl : liveD d s = l at *
    have HVE := Lib.hid hv
    have HLE := Lib.hid hl
    clear hv hl
    have HQ1 : Hid (q = if l = decide ((3 : Int) = 1) ∨ ((3 : Int) ≠ 3 ∧ badTC zeroTy zeroCon = true) then (zeroP, 183) else if 64 ≤ V.length then (zeroP, 184) else (⟨pn, pc, pt, ps, insE V (newE d s 3 zeroTy zeroCon)⟩, 0)) := by
      show _ = _
      rw [← HQ.out, ← HLE.out]
      unfold openP
      rw [if_neg (by rw [HUS.out]; decide), if_neg (by rw [HHN.out]; decide)]
      try rfl
    obtain ⟨d0, d1⟩ := HM2.out.2.2.1.c2
    go_wp2_with fail
    refine (HLT.out _ (HI.out.below HB2.out)).mono ?_
    rintro e w3 ⟨rfl, hb3⟩
    unfold Rev.val Rev.cells
    have HM4 : Hid (Bs [(w3.heap.size, 74, [.string v.path, .int .i64 v.num, .int .i64 v.chg, .int .i64 v.act, .int .i64 v.ty.base, .bool v.ty.kw, .bool v.ty.ex, .bool v.ty.xe, .int .u64 v.con.sum, .int .i64 v.con.size, .string v.src, .int .i64 v.srcn]), (w.heap.size + 1 + 1 + 1, 41, [.int .i64 0, .string ⟨#[]⟩, .string ⟨#[]⟩, .bool false, .slice none 0 0, .slice none 0 0]), (w.heap.size + 1 + 1, 44, [.string ⟨#[]⟩, .int .i64 3, .int .i64 0, .bool false, .bool false, .bool false, .int .u64 0, .int .i64 0, .int .i64 0, .string ⟨#[]⟩, .int .i64 0, .int .i64 0]), (w.heap.size + 1, 37, [.slice A d.length ca, .slice B nb cb]), (w.heap.size, 41, [.int .i64 pn, .string pc, .string pt, .bool ps, .slice E V.length ec, .slice R 0 rc])] (w3.alloc (.cells [.string v.path, .int .i64 v.num, .int .i64 v.chg, .int .i64 v.act, .int .i64 v.ty.base, .bool v.ty.kw, .bool v.ty.ex, .bool v.ty.xe, .int .u64 v.con.sum, .int .i64 v.con.size, .string v.src, .int .i64 v.srcn].toArray 74))) := Bs.cons (Blk.new w3 74 [.string v.path, .int .i64 v.num, .int .i64 v.chg, .int .i64 v.act, .int .i64 v.ty.base, .bool v.ty.kw, .bool v.ty.ex, .bool v.ty.xe, .int .u64 v.con.sum, .int .i64 v.con.size, .string v.src, .int .i64 v.srcn]) ((HM2.out.below hb3).alloc _)
    have HB4 : Hid (Below w.heap.size w (w3.alloc (.cells [.string v.path, .int .i64 v.num, .int .i64 v.chg, .int .i64 v.act, .int .i64 v.ty.base, .bool v.ty.kw, .bool v.ty.ex, .bool v.ty.xe, .int .u64 v.con.sum, .int .i64 v.con.size, .string v.src, .int .i64 v.srcn].toArray 74))) := (HB2.out.trans (hb3.mono HB2.out.size)).alloc (HB2.out.trans (hb3.mono HB2.out.size)).size _
    have hz3 := hb3.size
    clear hb3 HM2 HB2 d0 d1
    go_upto_region 7 with fail
    generalize hw4 : World.alloc w3 (.cells #[.string v.path, .int .i64 v.num, .int .i64 v.chg, .int .i64 v.act, .int .i64 v.ty.base, .bool v.ty.kw, .bool v.ty.ex, .bool v.ty.xe, .int .u64 v.con.sum, .int .i64 v.con.size, .string v.src, .int .i64 v.srcn] 74) = w4 at *
    clear hw4
    have lt4 := HM4.out.1.lt
    -- MARKA
    obtain ⟨x0, x1, x2, x3, x4, x5, x6, x7, x8, x9, x10, x11⟩ := HM4.out.2.2.1.c12
    obtain ⟨y0, y1, y2, y3, y4, y5, y6, y7, y8, y9, y10, y11⟩ := HM4.out.1.c12
    obtain ⟨f0, f1, f2, f3, f4, f5, f6, f7, f8, f9, f10, f11⟩ := HM4.out.2.2.1.f12
    have HMP := Lib.hid (show Bs [(w3.heap.size, 74, [.string v.path, .int .i64 v.num, .int .i64 v.chg, .int .i64 v.act, .int .i64 v.ty.base, .bool v.ty.kw, .bool v.ty.ex, .bool v.ty.xe, .int .u64 v.con.sum, .int .i64 v.con.size, .string v.src, .int .i64 v.srcn]), (w.heap.size + 1 + 1 + 1, 41, [.int .i64 0, .string ⟨#[]⟩, .string ⟨#[]⟩, .bool false, .slice none 0 0, .slice none 0 0]), (w.heap.size + 1 + 1, 44, [.string ⟨#[]⟩, .int .i64 3, .int .i64 v.ty.base, .bool v.ty.kw, .bool v.ty.ex, .bool v.ty.xe, .int .u64 0, .int .i64 0, .int .i64 0, .string ⟨#[]⟩, .int .i64 0, .int .i64 0]), (w.heap.size + 1, 37, [.slice A d.length ca, .slice B nb cb]), (w.heap.size, 41, [.int .i64 pn, .string pc, .string pt, .bool ps, .slice E V.length ec, .slice R 0 rc])] _ from ⟨((((HM4.out.1.far (p := ⟨w.heap.size + 1 + 1, 2, none⟩) (by dsimp only; omega) (.int .i64 v.ty.base)).far (p := ⟨w.heap.size + 1 + 1, 3, none⟩) (by dsimp only; omega) (.bool v.ty.kw)).far (p := ⟨w.heap.size + 1 + 1, 4, none⟩) (by dsimp only; omega) (.bool v.ty.ex)).far (p := ⟨w.heap.size + 1 + 1, 5, none⟩) (by dsimp only; omega) (.bool v.ty.xe)), ((((HM4.out.2.1.far (p := ⟨w.heap.size + 1 + 1, 2, none⟩) (by dsimp only; omega) (.int .i64 v.ty.base)).far (p := ⟨w.heap.size + 1 + 1, 3, none⟩) (by dsimp only; omega) (.bool v.ty.kw)).far (p := ⟨w.heap.size + 1 + 1, 4, none⟩) (by dsimp only; omega) (.bool v.ty.ex)).far (p := ⟨w.heap.size + 1 + 1, 5, none⟩) (by dsimp only; omega) (.bool v.ty.xe)), ((((HM4.out.2.2.1.set 2 (.int .i64 v.ty.base)).set 3 (.bool v.ty.kw)).set 4 (.bool v.ty.ex)).set 5 (.bool v.ty.xe)), ((((HM4.out.2.2.2.1.far (p := ⟨w.heap.size + 1 + 1, 2, none⟩) (by dsimp only; omega) (.int .i64 v.ty.base)).far (p := ⟨w.heap.size + 1 + 1, 3, none⟩) (by dsimp only; omega) (.bool v.ty.kw)).far (p := ⟨w.heap.size + 1 + 1, 4, none⟩) (by dsimp only; omega) (.bool v.ty.ex)).far (p := ⟨w.heap.size + 1 + 1, 5, none⟩) (by dsimp only; omega) (.bool v.ty.xe)), ((((HM4.out.2.2.2.2.1.far (p := ⟨w.heap.size + 1 + 1, 2, none⟩) (by dsimp only; omega) (.int .i64 v.ty.base)).far (p := ⟨w.heap.size + 1 + 1, 3, none⟩) (by dsimp only; omega) (.bool v.ty.kw)).far (p := ⟨w.heap.size + 1 + 1, 4, none⟩) (by dsimp only; omega) (.bool v.ty.ex)).far (p := ⟨w.heap.size + 1 + 1, 5, none⟩) (by dsimp only; omega) (.bool v.ty.xe)), trivial⟩)
    have HBP := Lib.hid (((((HB4.out.setCell (p := ⟨w.heap.size + 1 + 1, 2, none⟩) (by dsimp only; omega) (.int .i64 v.ty.base)).setCell (p := ⟨w.heap.size + 1 + 1, 3, none⟩) (by dsimp only; omega) (.bool v.ty.kw)).setCell (p := ⟨w.heap.size + 1 + 1, 4, none⟩) (by dsimp only; omega) (.bool v.ty.ex)).setCell (p := ⟨w.heap.size + 1 + 1, 5, none⟩) (by dsimp only; omega) (.bool v.ty.xe)))
    go_upto_region 9 with fail
    generalize World.setCell (World.setCell (World.setCell (World.setCell _ _ _) _ _) _ _) _ _ = w5 at *
    have HM5 := HMP
    have HB5 := HBP
    clear HMP HBP HM4 HB4 y0 y1 y2 y3 y4 y5 y6 y7 y8 y9 y10 y11 x0 x1 x2 x3 x4 x5 x6 x7 x8 x9 x10 x11 f0 f1 f2 f3 f4 f5 f6 f7 f8 f9 f10 f11
    obtain ⟨x0, x1, x2, x3, x4, x5, x6, x7, x8, x9, x10, x11⟩ := HM5.out.2.2.1.c12
    have lt5 := HM5.out.1.lt
    cases l
    case false =>
      have hqq : q = (zeroP, 183) := by rw [HQ1.out, if_pos (.inl (by decide))]
      (obtain ⟨z0, z1, z2, z3, z4, z5⟩ := (HM5.out.2.1).c6; have f0 := (HM5.out.2.1).fz 0; have f1 := (HM5.out.2.1).fz 1; have f2 := (HM5.out.2.1).fz 2; have f3 := (HM5.out.2.1).fz 3; have f4 := (HM5.out.2.1).fz 4; have f5 := (HM5.out.2.1).fz 5; go_wp2_with fail; have KZ := Lib.hid (zero_put (HM5.out.2.1) (.int .i64 0) (.string ⟨#[]⟩) (.string ⟨#[]⟩) (.bool false) (.slice none 0 0) (.slice none 0 0)); have HBZ := Lib.hid (below_put6 (HB5.out) (b := w.heap.size + 1 + 1 + 1) (by omega) (.int .i64 0) (.string ⟨#[]⟩) (.string ⟨#[]⟩) (.bool false) (.slice none 0 0) (.slice none 0 0)); generalize World.setCell (World.setCell (World.setCell (World.setCell (World.setCell (World.setCell _ _ _) _ _) _ _) _ _) _ _) _ _ = wz at *; obtain ⟨y0, y1, y2, y3, y4, y5⟩ := KZ.out.c6; exact bodyPost_ret (v := .tuple #[.agg #[.int .i64 0, .string ⟨#[]⟩, .string ⟨#[]⟩, .bool false, .slice none 0 0, .slice none 0 0], .int .i64 _]) (by simp [results, Tryz.results74, go_sem, y0, y1, y2, y3, y4, y5]) rfl (PRet.no (hqq) HBZ.out))
    -- MARKB
    have HM6 := HM5
    have HB6 := HB5
    obtain ⟨w6, hw6⟩ : ∃ z, z = w5 := ⟨_, rfl⟩
    subst hw6
    clear HM5 HB5
    have HQ2 : Hid (q = if 64 ≤ V.length then (zeroP, 184) else (⟨pn, pc, pt, ps, insE V (newE d s 3 zeroTy zeroCon)⟩, 0)) := by
      show _ = _
      rw [HQ1.out, if_neg]
      rintro (h | h)
      · exact absurd h (by decide)
      · exact h.1 rfl
    clear HQ1
    have lt6 := HM6.out.1.lt
    obtain ⟨p0, p1, p2, p3, p4, p5⟩ := HM6.out.2.2.2.2.1.c6
    by_cases hbig : 64 ≤ V.length
    · have hbi : (64 : Int) ≤ (V.length : Int) := by omega
      have hqq : q = (zeroP, 184) := by rw [HQ2.out, if_pos hbig]
      (obtain ⟨z0, z1, z2, z3, z4, z5⟩ := (HM6.out.2.1).c6; have f0 := (HM6.out.2.1).fz 0; have f1 := (HM6.out.2.1).fz 1; have f2 := (HM6.out.2.1).fz 2; have f3 := (HM6.out.2.1).fz 3; have f4 := (HM6.out.2.1).fz 4; have f5 := (HM6.out.2.1).fz 5; go_wp2_with fail; have KZ := Lib.hid (zero_put (HM6.out.2.1) (.int .i64 0) (.string ⟨#[]⟩) (.string ⟨#[]⟩) (.bool false) (.slice none 0 0) (.slice none 0 0)); have HBZ := Lib.hid (below_put6 (HB6.out) (b := w.heap.size + 1 + 1 + 1) (by omega) (.int .i64 0) (.string ⟨#[]⟩) (.string ⟨#[]⟩) (.bool false) (.slice none 0 0) (.slice none 0 0)); generalize World.setCell (World.setCell (World.setCell (World.setCell (World.setCell (World.setCell _ _ _) _ _) _ _) _ _) _ _) _ _ = wz at *; obtain ⟨y0, y1, y2, y3, y4, y5⟩ := KZ.out.c6; exact bodyPost_ret (v := .tuple #[.agg #[.int .i64 0, .string ⟨#[]⟩, .string ⟨#[]⟩, .bool false, .slice none 0 0, .slice none 0 0], .int .i64 _]) (by simp [results, Tryz.results74, go_sem, y0, y1, y2, y3, y4, y5]) rfl (PRet.no (hqq) HBZ.out))
    · have hbi : ¬ (64 : Int) ≤ (V.length : Int) := by omega
      have hqq : q = (⟨pn, pc, pt, ps, insE V ⟨s, 3, v.ty, zeroCon, v.num, ⟨#[]⟩, 0, 0⟩⟩, 0) := by
        rw [HQ2.out, if_neg hbig]
        unfold newE
        rw [HVE.out]
        rfl
      have HQQ := Lib.hid hqq
      clear hqq HQ2 HQ
      -- MARKC
      obtain ⟨y0, y1, y2, y3, y4, y5, y6, y7, y8, y9, y10, y11⟩ := HM6.out.1.c12
      clear x0 x1 x2 x3 x4 x5 x6 x7 x8 x9 x10 x11
      obtain ⟨x0, x1, x2, x3, x4, x5, x6, x7, x8, x9, x10, x11⟩ := HM6.out.2.2.1.c12
      obtain ⟨f0, f1, f2, f3, f4, f5, f6, f7, f8, f9, f10, f11⟩ := HM6.out.2.2.1.f12
      go_wp2_with fail
      go_region
      obtain ⟨w7, hw7⟩ : ∃ z, z = ((w6.setCell ⟨w.heap.size + 1 + 1, 0, none⟩ (.string s)).setCell ⟨w.heap.size + 1 + 1, 8, none⟩ (.int .i64 v.num)).drew := ⟨_, rfl⟩
      have HM7 : Hid (Bs [(w3.heap.size, 74, [.string v.path, .int .i64 v.num, .int .i64 v.chg, .int .i64 v.act, .int .i64 v.ty.base, .bool v.ty.kw, .bool v.ty.ex, .bool v.ty.xe, .int .u64 v.con.sum, .int .i64 v.con.size, .string v.src, .int .i64 v.srcn]), (w.heap.size + 1 + 1 + 1, 41, [.int .i64 0, .string ⟨#[]⟩, .string ⟨#[]⟩, .bool false, .slice none 0 0, .slice none 0 0]), (w.heap.size + 1 + 1, 44, [.string s, .int .i64 3, .int .i64 v.ty.base, .bool v.ty.kw, .bool v.ty.ex, .bool v.ty.xe, .int .u64 0, .int .i64 0, .int .i64 v.num, .string ⟨#[]⟩, .int .i64 0, .int .i64 0]), (w.heap.size + 1, 37, [.slice A d.length ca, .slice B nb cb]), (w.heap.size, 41, [.int .i64 pn, .string pc, .string pt, .bool ps, .slice E V.length ec, .slice R 0 rc])] w7) := by
        show Bs _ _
        rw [hw7]
        exact Bs.drew ⟨(HM6.out.1.far (p := ⟨w.heap.size + 1 + 1, 0, none⟩) (by dsimp only; omega) (.string s)).far (p := ⟨w.heap.size + 1 + 1, 8, none⟩) (by dsimp only; omega) (.int .i64 v.num), (HM6.out.2.1.far (p := ⟨w.heap.size + 1 + 1, 0, none⟩) (by dsimp only; omega) (.string s)).far (p := ⟨w.heap.size + 1 + 1, 8, none⟩) (by dsimp only; omega) (.int .i64 v.num), (HM6.out.2.2.1.set 0 (.string s)).set 8 (.int .i64 v.num), (HM6.out.2.2.2.1.far (p := ⟨w.heap.size + 1 + 1, 0, none⟩) (by dsimp only; omega) (.string s)).far (p := ⟨w.heap.size + 1 + 1, 8, none⟩) (by dsimp only; omega) (.int .i64 v.num), (HM6.out.2.2.2.2.1.far (p := ⟨w.heap.size + 1 + 1, 0, none⟩) (by dsimp only; omega) (.string s)).far (p := ⟨w.heap.size + 1 + 1, 8, none⟩) (by dsimp only; omega) (.int .i64 v.num), trivial⟩
      have HB7 : Hid (Below w.heap.size w w7) := by
        show Below _ _ _
        rw [hw7]
        exact ((HB6.out.setCell (p := ⟨w.heap.size + 1 + 1, 0, none⟩) (by dsimp only; omega) (.string s)).setCell (p := ⟨w.heap.size + 1 + 1, 8, none⟩) (by dsimp only; omega) (.int .i64 v.num)).drew
      rw [← hw7]
      clear hw7 HM6 HB6 p0 p1 p2 p3 p4 p5 x0 x1 x2 x3 x4 x5 x6 x7 x8 x9 x10 x11 y0 y1 y2 y3 y4 y5 y6 y7 y8 y9 y10 y11 f0 f1 f2 f3 f4 f5 f6 f7 f8 f9 f10 f11
      have lt7 := HM7.out.1.lt
      obtain ⟨p0, p1, p2, p3, p4, p5⟩ := HM7.out.2.2.2.2.1.c6
      go_wp2_with fail
      refine (HCO.out _ (HIE.out.below HB7.out)).mono ?_
      rintro e w8 ⟨A8, c8, R8, r8, rfl, ho8, hb8⟩
      unfold pndV pndC
      dsimp only at ho8 ⊢
      have HM8 := Lib.hid (HM7.out.below hb8)
      have HB8 := Lib.hid (HB7.out.trans (hb8.mono HB7.out.size))
      have HO8 := Lib.hid ho8
      have hz8 := hb8.size
      clear hb8 ho8 HM7 HB7 HCO p0 p1 p2 p3 p4 p5
      go_upto_region 15 with fail
      have HM9 : Hid (Bs [(w8.heap.size, 41, [.int .i64 pn, .string pc, .string pt, .bool ps, .slice A8 V.length c8, .slice R8 0 r8]), (w3.heap.size, 74, [.string v.path, .int .i64 v.num, .int .i64 v.chg, .int .i64 v.act, .int .i64 v.ty.base, .bool v.ty.kw, .bool v.ty.ex, .bool v.ty.xe, .int .u64 v.con.sum, .int .i64 v.con.size, .string v.src, .int .i64 v.srcn]), (w.heap.size + 1 + 1 + 1, 41, [.int .i64 0, .string ⟨#[]⟩, .string ⟨#[]⟩, .bool false, .slice none 0 0, .slice none 0 0]), (w.heap.size + 1 + 1, 44, [.string s, .int .i64 3, .int .i64 v.ty.base, .bool v.ty.kw, .bool v.ty.ex, .bool v.ty.xe, .int .u64 0, .int .i64 0, .int .i64 v.num, .string ⟨#[]⟩, .int .i64 0, .int .i64 0]), (w.heap.size + 1, 37, [.slice A d.length ca, .slice B nb cb]), (w.heap.size, 41, [.int .i64 pn, .string pc, .string pt, .bool ps, .slice E V.length ec, .slice R 0 rc])] (w8.alloc (.cells [.int .i64 pn, .string pc, .string pt, .bool ps, .slice A8 V.length c8, .slice R8 0 r8].toArray 41))) := Bs.cons (Blk.new w8 41 [.int .i64 pn, .string pc, .string pt, .bool ps, .slice A8 V.length c8, .slice R8 0 r8]) (HM8.out.alloc _)
      have HB9 := Lib.hid (HB8.out.alloc HB8.out.size (.cells [.int .i64 pn, .string pc, .string pt, .bool ps, .slice A8 V.length c8, .slice R8 0 r8].toArray 41))
      have HO9 := Lib.hid (HO8.out.alloc (.cells [.int .i64 pn, .string pc, .string pt, .bool ps, .slice A8 V.length c8, .slice R8 0 r8].toArray 41))
      generalize hw9 : World.alloc w8 (.cells #[.int .i64 pn, .string pc, .string pt, .bool ps, .slice A8 V.length c8, .slice R8 0 r8] 41) = w9 at *
      clear hw9 HM8 HB8 HO8
      have lt9 := HM9.out.1.lt
      obtain ⟨p0, p1, p2, p3, p4, p5⟩ := HM9.out.1.c6
      obtain ⟨x0, x1, x2, x3, x4, x5, x6, x7, x8, x9, x10, x11⟩ := HM9.out.2.2.2.1.c12
      have HW := with_any V ⟨s, 3, v.ty, zeroCon, v.num, ⟨#[]⟩, 0, 0⟩ A8 c8 w9 (RowK.In.of_row HO9.out) HOK.out.pl HUS.out
      obtain ⟨L, hL⟩ : ∃ L, insE V ⟨s, 3, v.ty, zeroCon, v.num, ⟨#[]⟩, 0, 0⟩ = L := ⟨_, rfl⟩
      rw [hL] at HW HQQ
      clear hL
      unfold Edt.val Edt.cells at HW
      dsimp only [zeroTy, zeroCon] at HW
      have HWW := Lib.hid HW
      clear HW
      go_wp2_with fail
      refine HWW.out.mono ?_
      rintro e wa ⟨va, rfl, hoa, hba⟩
      obtain ⟨Aa, cc, rfl⟩ := own_slice hoa
      have HMa := Lib.hid (HM9.out.below hba)
      have HBa := Lib.hid (HB9.out.trans (hba.mono HB9.out.size))
      have HOa := Lib.hid hoa
      have hza := hba.size
      clear hba hoa HWW HM9 HB9 HO9 p0 p1 p2 p3 p4 p5 x0 x1 x2 x3 x4 x5 x6 x7 x8 x9 x10 x11
      obtain ⟨p0, p1, p2, p3, p4, p5⟩ := HMa.out.1.c6
      have g4 := HMa.out.1.fz 4
      have HMP := Lib.hid (show Bs [(w8.heap.size, 41, [.int .i64 pn, .string pc, .string pt, .bool ps, .slice Aa L.length cc, .slice R8 0 r8]), (w3.heap.size, 74, [.string v.path, .int .i64 v.num, .int .i64 v.chg, .int .i64 v.act, .int .i64 v.ty.base, .bool v.ty.kw, .bool v.ty.ex, .bool v.ty.xe, .int .u64 v.con.sum, .int .i64 v.con.size, .string v.src, .int .i64 v.srcn]), (w.heap.size + 1 + 1 + 1, 41, [.int .i64 0, .string ⟨#[]⟩, .string ⟨#[]⟩, .bool false, .slice none 0 0, .slice none 0 0]), (w.heap.size + 1 + 1, 44, [.string s, .int .i64 3, .int .i64 v.ty.base, .bool v.ty.kw, .bool v.ty.ex, .bool v.ty.xe, .int .u64 0, .int .i64 0, .int .i64 v.num, .string ⟨#[]⟩, .int .i64 0, .int .i64 0]), (w.heap.size + 1, 37, [.slice A d.length ca, .slice B nb cb]), (w.heap.size, 41, [.int .i64 pn, .string pc, .string pt, .bool ps, .slice E V.length ec, .slice R 0 rc])] _ from ⟨HMa.out.1.set 4 (.slice Aa L.length cc), HMa.out.2.1.far (p := ⟨w8.heap.size, 4, none⟩) (by dsimp only; omega) (.slice Aa L.length cc), HMa.out.2.2.1.far (p := ⟨w8.heap.size, 4, none⟩) (by dsimp only; omega) (.slice Aa L.length cc), HMa.out.2.2.2.1.far (p := ⟨w8.heap.size, 4, none⟩) (by dsimp only; omega) (.slice Aa L.length cc), HMa.out.2.2.2.2.1.far (p := ⟨w8.heap.size, 4, none⟩) (by dsimp only; omega) (.slice Aa L.length cc), HMa.out.2.2.2.2.2.1.far (p := ⟨w8.heap.size, 4, none⟩) (by dsimp only; omega) (.slice Aa L.length cc), trivial⟩)
      have HBP := Lib.hid (HBa.out.setCell (p := ⟨w8.heap.size, 4, none⟩) (by dsimp only; omega) (.slice Aa L.length cc))
      have HOP := Lib.hid (own_set_below HOa.out (p := ⟨w8.heap.size, 4, none⟩) (by dsimp only; omega) (.slice Aa L.length cc))
      go_upto_region 16 with fail
      (generalize World.setCell _ _ _ = wb at *)
      clear HMa HBa HOa p0 p1 p2 p3 p4 p5 g4
      have ltb := HMP.out.1.lt
      obtain ⟨p0, p1, p2, p3, p4, p5⟩ := HMP.out.1.c6
      obtain ⟨z0, z1, z2, z3, z4, z5⟩ := HMP.out.2.2.1.c6
      have f0 := HMP.out.2.2.1.fz 0
      have f1 := HMP.out.2.2.1.fz 1
      have f2 := HMP.out.2.2.1.fz 2
      have f3 := HMP.out.2.2.1.fz 3
      have f4 := HMP.out.2.2.1.fz 4
      have f5 := HMP.out.2.2.1.fz 5
      go_wp2_with fail
      have KZ := Lib.hid (zero_put (HMP.out.2.2.1) (.int .i64 pn) (.string pc) (.string pt) (.bool ps) (.slice Aa L.length cc) (.slice R8 0 r8))
      have HBZ := Lib.hid (below_put6 HBP.out (b := w.heap.size + 1 + 1 + 1) (by omega) (.int .i64 pn) (.string pc) (.string pt) (.bool ps) (.slice Aa L.length cc) (.slice R8 0 r8))
      have HOZ := Lib.hid (own_put6 HOP.out (b := w.heap.size + 1 + 1 + 1) (by intro e; have := HOP.out.lt _ e; omega) (.int .i64 pn) (.string pc) (.string pt) (.bool ps) (.slice Aa L.length cc) (.slice R8 0 r8))
      (generalize World.setCell (World.setCell (World.setCell (World.setCell (World.setCell (World.setCell _ _ _) _ _) _ _) _ _) _ _) _ _ = wz at *)
      obtain ⟨y0, y1, y2, y3, y4, y5⟩ := KZ.out.c6
      exact bodyPost_ret (v := .tuple #[.agg #[.int .i64 pn, .string pc, .string pt, .bool ps, .slice Aa L.length cc, .slice R8 0 r8], .int .i64 0]) (by simp [results, Tryz.results74, go_sem, y0, y1, y2, y3, y4, y5]) rfl (PRet.yes HQQ.out HOZ.out HBZ.out (by omega))
end Go.Proofs.YtocffknoeknabaaGreatDoor
