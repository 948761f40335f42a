/-
  The walk of changelist.Move (printed by mkmove.py).
-/
import Derived.Test.YtocffknoeknabaaGreatDoorClM
namespace Go.Proofs.YtocffknoeknabaaGreatDoor
open Go.RowKit

set_option maxRecDepth 100000 in
set_option maxHeartbeats 12800000 in
theorem move_any (d : List Rev) (p : Pnd) (s t : ByteArray) (A B E R : Option Addr) (ca nb cb ec rc : Nat) (w : World) (h : revK.In A d w) (hE : edtK.In E p.edits w) (hok : EOk p.edits) (hn : d.length ≤ 512) (ha : Asc d) (hs : s.size ≤ 4294967281) (ht : t.size ≤ 4294967281) :
    Calls Tryz.prog 22 #[pndV p E ec R rc, .agg #[.slice A d.length ca, .slice B nb cb], .string s, .string t] w (PRet (moveP d p s t) w) := by
  have HI := Lib.hid h
  have HIE := Lib.hid hE
  have HOK := Lib.hid hok
  have hlen := hok.len
  obtain ⟨q, hq⟩ : ∃ q, moveP d p s t = q := ⟨_, rfl⟩
  rw [hq]
  have HQ := Lib.hid hq
  have HPS := Lib.hid (fun w => isPath18_any s w hs)
  have HPT := Lib.hid (fun w => isPath18_any t w ht)
  have HKS := Lib.hid (fun w h => place_any p.edits s E ec w hok.pl hs h)
  have HKT := Lib.hid (fun w h => place_any p.edits t E ec w hok.pl ht h)
  have HLT := Lib.hid (fun w h => live_any d t A B ca nb cb w h (by omega) ha)
  have HLA := Lib.hid (fun w h => last_any d s A B ca nb cb w h (by omega) ha)
  have HMV := Lib.hid (fun o w h => movable_any d p s o A B E R ca nb cb ec rc w h (by omega) ha)
  have HCO := Lib.hid (fun w h => copied_any p E R ec rc w h (by omega))
  clear h hE hok hq ha hs ht
  obtain ⟨pn, pc, pt, ps, V⟩ := p
  unfold pndV pndC at *
  dsimp only at *
  go_enter Tryz.func22, Tryz.ntmps22
  go_upto_region 1 with fail
  generalize hw1 : World.alloc _ (.cells #[.int .i64 0, .string ⟨#[]⟩, .string ⟨#[]⟩, .bool false, .slice none 0 0, .slice none 0 0] 41) = w1
  have HM1 : Hid (Bs [(w.heap.size + 1 + 1, 41, [.int .i64 0, .string ⟨#[]⟩, .string ⟨#[]⟩, .bool false, .slice none 0 0, .slice none 0 0]), (w.heap.size + 1, 37, [.slice A d.length ca, .slice B nb cb]), (w.heap.size, 41, [.int .i64 pn, .string pc, .string pt, .bool ps, .slice E V.length ec, .slice R 0 rc])] w1) := by
    show Bs _ _
    rw [← hw1]
    exact ⟨Blk.new2 _ _ _ _ _, (Blk.new1 _ _ _ _).alloc _, ((Blk.new _ _ _).alloc _).alloc _, trivial⟩
  have HB1 : Hid (Below w.heap.size w w1) := by
    show Below _ _ _
    rw [← hw1]
    (repeat (first | (with_reducible exact Below.refl _ _) | (with_reducible assumption) | (with_reducible refine Below.setCell ?_ ?_ _; rotate_left; focus (first | exact Nat.le_refl _ | (dsimp only; omega))) | (with_reducible refine Below.drew ?_) | (with_reducible refine below_drewN ?_ _) | (with_reducible refine Below.alloc ?_ ?_ _; rotate_left; focus (first | exact Nat.le_refl _ | (simp; done) | (simp; omega)))))
  clear hw1
  go_wp2_with fail
  refine (HPS.out _).mono ?_
  rintro e w' ⟨rfl, rfl⟩
  cases hus : useB s
  · have hqq : q = (zeroP, 180) := by rw [← HQ.out]; unfold moveP; rw [if_pos (.inl hus)]
    (obtain ⟨z0, z1, z2, z3, z4, z5⟩ := (HM1.out.1).c6; have f0 := (HM1.out.1).fz 0; have f1 := (HM1.out.1).fz 1; have f2 := (HM1.out.1).fz 2; have f3 := (HM1.out.1).fz 3; have f4 := (HM1.out.1).fz 4; have f5 := (HM1.out.1).fz 5; go_wp2_with fail; have KZ := Lib.hid (zero_put (HM1.out.1) (.int .i64 0) (.string ⟨#[]⟩) (.string ⟨#[]⟩) (.bool false) (.slice none 0 0) (.slice none 0 0)); have HBZ := Lib.hid (below_put6 (HB1.out) (b := w.heap.size + 1 + 1) (by omega) (.int .i64 0) (.string ⟨#[]⟩) (.string ⟨#[]⟩) (.bool false) (.slice none 0 0) (.slice none 0 0)); generalize World.setCell (World.setCell (World.setCell (World.setCell (World.setCell (World.setCell _ _ _) _ _) _ _) _ _) _ _) _ _ = wz at *; obtain ⟨y0, y1, y2, y3, y4, y5⟩ := KZ.out.c6; exact bodyPost_ret (v := .tuple #[.agg #[.int .i64 0, .string ⟨#[]⟩, .string ⟨#[]⟩, .bool false, .slice none 0 0, .slice none 0 0], .int .i64 _]) (by simp [results, Tryz.results22, go_sem, y0, y1, y2, y3, y4, y5]) rfl (PRet.no (hqq) HBZ.out))
  have HUS := Lib.hid hus
  clear hus
  go_wp2_with fail
  refine (HPT.out _).mono ?_
  rintro e w' ⟨rfl, rfl⟩
  cases hut : useB t
  · have hqq : q = (zeroP, 180) := by rw [← HQ.out]; unfold moveP; rw [if_pos (.inr hut)]
    (obtain ⟨z0, z1, z2, z3, z4, z5⟩ := (HM1.out.1).c6; have f0 := (HM1.out.1).fz 0; have f1 := (HM1.out.1).fz 1; have f2 := (HM1.out.1).fz 2; have f3 := (HM1.out.1).fz 3; have f4 := (HM1.out.1).fz 4; have f5 := (HM1.out.1).fz 5; go_wp2_with fail; have KZ := Lib.hid (zero_put (HM1.out.1) (.int .i64 0) (.string ⟨#[]⟩) (.string ⟨#[]⟩) (.bool false) (.slice none 0 0) (.slice none 0 0)); have HBZ := Lib.hid (below_put6 (HB1.out) (b := w.heap.size + 1 + 1) (by omega) (.int .i64 0) (.string ⟨#[]⟩) (.string ⟨#[]⟩) (.bool false) (.slice none 0 0) (.slice none 0 0)); generalize World.setCell (World.setCell (World.setCell (World.setCell (World.setCell (World.setCell _ _ _) _ _) _ _) _ _) _ _) _ _ = wz at *; obtain ⟨y0, y1, y2, y3, y4, y5⟩ := KZ.out.c6; exact bodyPost_ret (v := .tuple #[.agg #[.int .i64 0, .string ⟨#[]⟩, .string ⟨#[]⟩, .bool false, .slice none 0 0, .slice none 0 0], .int .i64 _]) (by simp [results, Tryz.results22, go_sem, y0, y1, y2, y3, y4, y5]) rfl (PRet.no (hqq) HBZ.out))
  have HUT := Lib.hid hut
  clear hut
  (obtain ⟨p0, p1, p2, p3, p4, p5⟩ := (HM1.out.2.2.1).c6)
  go_wp2_with fail
  refine (HKT.out _ (HIE.out.below HB1.out)).mono ?_
  rintro e w2 ⟨rfl, hb2⟩
  have HM2 := Lib.hid (HM1.out.below hb2)
  have HB2 := Lib.hid (HB1.out.trans (hb2.mono HB1.out.size))
  clear hb2 HM1 HB1 p0 p1 p2 p3 p4 p5
  cases hht : hasE V t
  case true =>
    have hqq : q = (zeroP, 181) := by rw [← HQ.out]; unfold moveP; rw [if_neg (by rw [HUS.out, HUT.out]; simp), if_pos hht]
    (obtain ⟨z0, z1, z2, z3, z4, z5⟩ := (HM2.out.1).c6; have f0 := (HM2.out.1).fz 0; have f1 := (HM2.out.1).fz 1; have f2 := (HM2.out.1).fz 2; have f3 := (HM2.out.1).fz 3; have f4 := (HM2.out.1).fz 4; have f5 := (HM2.out.1).fz 5; go_wp2_with fail; have KZ := Lib.hid (zero_put (HM2.out.1) (.int .i64 0) (.string ⟨#[]⟩) (.string ⟨#[]⟩) (.bool false) (.slice none 0 0) (.slice none 0 0)); have HBZ := Lib.hid (below_put6 (HB2.out) (b := w.heap.size + 1 + 1) (by omega) (.int .i64 0) (.string ⟨#[]⟩) (.string ⟨#[]⟩) (.bool false) (.slice none 0 0) (.slice none 0 0)); generalize World.setCell (World.setCell (World.setCell (World.setCell (World.setCell (World.setCell _ _ _) _ _) _ _) _ _) _ _) _ _ = wz at *; obtain ⟨y0, y1, y2, y3, y4, y5⟩ := KZ.out.c6; exact bodyPost_ret (v := .tuple #[.agg #[.int .i64 0, .string ⟨#[]⟩, .string ⟨#[]⟩, .bool false, .slice none 0 0, .slice none 0 0], .int .i64 _]) (by simp [results, Tryz.results22, go_sem, y0, y1, y2, y3, y4, y5]) rfl (PRet.no (hqq) HBZ.out))
  have HHT := Lib.hid hht
  clear hht
  (obtain ⟨p0, p1, p2, p3, p4, p5⟩ := (HM2.out.2.2.1).c6)
  have lt2 := HM2.out.1.lt
  have ltp2 := HM2.out.2.2.1.lt
  go_wp2_with fail
  refine (HKS.out _ (HIE.out.below (HB2.out.alloc HB2.out.size _))).mono ?_
  rintro e w3 ⟨rfl, hb3⟩
  have HM3 : Hid (Bs [(w2.heap.size, 44, [.string ⟨#[]⟩, .int .i64 0, .int .i64 0, .bool false, .bool false, .bool false, .int .u64 0, .int .i64 0, .int .i64 0, .string ⟨#[]⟩, .int .i64 0, .int .i64 0]), (w.heap.size + 1 + 1, 41, [.int .i64 0, .string ⟨#[]⟩, .string ⟨#[]⟩, .bool false, .slice none 0 0, .slice none 0 0]), (w.heap.size + 1, 37, [.slice A d.length ca, .slice B nb cb]), (w.heap.size, 41, [.int .i64 pn, .string pc, .string pt, .bool ps, .slice E V.length ec, .slice R 0 rc])] w3) := Bs.cons ((Blk.new w2 44 [.string ⟨#[]⟩, .int .i64 0, .int .i64 0, .bool false, .bool false, .bool false, .int .u64 0, .int .i64 0, .int .i64 0, .string ⟨#[]⟩, .int .i64 0, .int .i64 0]).below hb3) ((HM2.out.alloc _).below hb3)
  have HB3 := Lib.hid ((HB2.out.alloc HB2.out.size (.cells [.string ⟨#[]⟩, .int .i64 0, .int .i64 0, .bool false, .bool false, .bool false, .int .u64 0, .int .i64 0, .int .i64 0, .string ⟨#[]⟩, .int .i64 0, .int .i64 0].toArray 44)).trans (hb3.mono (HB2.out.alloc HB2.out.size (.cells [.string ⟨#[]⟩, .int .i64 0, .int .i64 0, .bool false, .bool false, .bool false, .int .u64 0, .int .i64 0, .int .i64 0, .string ⟨#[]⟩, .int .i64 0, .int .i64 0].toArray 44)).size))
  have lt3 := HM3.out.1.lt
  clear hb3 HM2 HB2 p0 p1 p2 p3 p4 p5
  have HQ1 : Hid (moveP d ⟨pn, pc, pt, ps, V⟩ s t = if movBad d V s t = true then (zeroP, 183) else if 64 < (movedL d V s t).length then (zeroP, 184) else (⟨pn, pc, pt, ps, movedL d V s t⟩, 0)) := by
    show _ = _
    unfold moveP
    rw [if_neg (by rw [HUS.out, HUT.out]; simp), if_neg (by rw [HHT.out]; simp)]
  cases hf : fndE V s with
  | none =>
    have HF := Lib.hid hf
    have hh : hasE V s = false := none_has hf
    rw [hh]
    clear hf
    (obtain ⟨d0, d1⟩ := (HM3.out.2.2.1).c2)
    generalize hu : lastR d t = u at *
    generalize hlt : liveD d t = lt at *
    go_wp2_with fail
    refine (HLT.out _ (HI.out.below HB3.out)).mono ?_
    rintro e w5 ⟨rfl, hb5⟩
    unfold Rev.val Rev.cells
    have HM6 : Hid (Bs [(w5.heap.size, 74, [.string u.path, .int .i64 u.num, .int .i64 u.chg, .int .i64 u.act, .int .i64 u.ty.base, .bool u.ty.kw, .bool u.ty.ex, .bool u.ty.xe, .int .u64 u.con.sum, .int .i64 u.con.size, .string u.src, .int .i64 u.srcn]), (w2.heap.size, 44, [.string ⟨#[]⟩, .int .i64 0, .int .i64 0, .bool false, .bool false, .bool false, .int .u64 0, .int .i64 0, .int .i64 0, .string ⟨#[]⟩, .int .i64 0, .int .i64 0]), (w.heap.size + 1 + 1, 41, [.int .i64 0, .string ⟨#[]⟩, .string ⟨#[]⟩, .bool false, .slice none 0 0, .slice none 0 0]), (w.heap.size + 1, 37, [.slice A d.length ca, .slice B nb cb]), (w.heap.size, 41, [.int .i64 pn, .string pc, .string pt, .bool ps, .slice E V.length ec, .slice R 0 rc])] (w5.alloc (.cells [.string u.path, .int .i64 u.num, .int .i64 u.chg, .int .i64 u.act, .int .i64 u.ty.base, .bool u.ty.kw, .bool u.ty.ex, .bool u.ty.xe, .int .u64 u.con.sum, .int .i64 u.con.size, .string u.src, .int .i64 u.srcn].toArray 74))) := Bs.cons (Blk.new w5 74 [.string u.path, .int .i64 u.num, .int .i64 u.chg, .int .i64 u.act, .int .i64 u.ty.base, .bool u.ty.kw, .bool u.ty.ex, .bool u.ty.xe, .int .u64 u.con.sum, .int .i64 u.con.size, .string u.src, .int .i64 u.srcn]) ((HM3.out.below hb5).alloc _)
    have HB6 : Hid (Below w.heap.size w (w5.alloc (.cells [.string u.path, .int .i64 u.num, .int .i64 u.chg, .int .i64 u.act, .int .i64 u.ty.base, .bool u.ty.kw, .bool u.ty.ex, .bool u.ty.xe, .int .u64 u.con.sum, .int .i64 u.con.size, .string u.src, .int .i64 u.srcn].toArray 74))) := (HB3.out.trans (hb5.mono HB3.out.size)).alloc (HB3.out.trans (hb5.mono HB3.out.size)).size _
    have hz5 := hb5.size
    clear hb5 HM3 HB3 d0 d1
    go_upto_region 11 with fail
    generalize hw6 : World.alloc w5 (.cells #[.string u.path, .int .i64 u.num, .int .i64 u.chg, .int .i64 u.act, .int .i64 u.ty.base, .bool u.ty.kw, .bool u.ty.ex, .bool u.ty.xe, .int .u64 u.con.sum, .int .i64 u.con.size, .string u.src, .int .i64 u.srcn] 74) = w6 at *
    clear hw6
    have HLTE := Lib.hid hlt
    have HUE := Lib.hid hu
    clear hlt hu
    have lt6 := HM6.out.1.lt
    cases lt
    case true =>
      have hbad : movBad d V s t = true := by
        unfold movBad; rw [HLTE.out]; rfl
      have hqq : q = (zeroP, 183) := by rw [← HQ.out, HQ1.out, if_pos hbad]
      (obtain ⟨z0, z1, z2, z3, z4, z5⟩ := (HM6.out.2.2.1).c6; have f0 := (HM6.out.2.2.1).fz 0; have f1 := (HM6.out.2.2.1).fz 1; have f2 := (HM6.out.2.2.1).fz 2; have f3 := (HM6.out.2.2.1).fz 3; have f4 := (HM6.out.2.2.1).fz 4; have f5 := (HM6.out.2.2.1).fz 5; go_wp2_with fail; have KZ := Lib.hid (zero_put (HM6.out.2.2.1) (.int .i64 0) (.string ⟨#[]⟩) (.string ⟨#[]⟩) (.bool false) (.slice none 0 0) (.slice none 0 0)); have HBZ := Lib.hid (below_put6 (HB6.out) (b := w.heap.size + 1 + 1) (by omega) (.int .i64 0) (.string ⟨#[]⟩) (.string ⟨#[]⟩) (.bool false) (.slice none 0 0) (.slice none 0 0)); generalize World.setCell (World.setCell (World.setCell (World.setCell (World.setCell (World.setCell _ _ _) _ _) _ _) _ _) _ _) _ _ = wz at *; obtain ⟨y0, y1, y2, y3, y4, y5⟩ := KZ.out.c6; exact bodyPost_ret (v := .tuple #[.agg #[.int .i64 0, .string ⟨#[]⟩, .string ⟨#[]⟩, .bool false, .slice none 0 0, .slice none 0 0], .int .i64 _]) (by simp [results, Tryz.results22, go_sem, y0, y1, y2, y3, y4, y5]) rfl (PRet.no (hqq) HBZ.out))
    cases hst : (s.toList == t.toList)
    case true =>
      have hbad : movBad d V s t = true := by
        unfold movBad; rw [← path_tl, hst]; simp
      have hqq : q = (zeroP, 183) := by rw [← HQ.out, HQ1.out, if_pos hbad]
      (obtain ⟨z0, z1, z2, z3, z4, z5⟩ := (HM6.out.2.2.1).c6; have f0 := (HM6.out.2.2.1).fz 0; have f1 := (HM6.out.2.2.1).fz 1; have f2 := (HM6.out.2.2.1).fz 2; have f3 := (HM6.out.2.2.1).fz 3; have f4 := (HM6.out.2.2.1).fz 4; have f5 := (HM6.out.2.2.1).fz 5; go_wp2_with fail; have KZ := Lib.hid (zero_put (HM6.out.2.2.1) (.int .i64 0) (.string ⟨#[]⟩) (.string ⟨#[]⟩) (.bool false) (.slice none 0 0) (.slice none 0 0)); have HBZ := Lib.hid (below_put6 (HB6.out) (b := w.heap.size + 1 + 1) (by omega) (.int .i64 0) (.string ⟨#[]⟩) (.string ⟨#[]⟩) (.bool false) (.slice none 0 0) (.slice none 0 0)); generalize World.setCell (World.setCell (World.setCell (World.setCell (World.setCell (World.setCell _ _ _) _ _) _ _) _ _) _ _) _ _ = wz at *; obtain ⟨y0, y1, y2, y3, y4, y5⟩ := KZ.out.c6; exact bodyPost_ret (v := .tuple #[.agg #[.int .i64 0, .string ⟨#[]⟩, .string ⟨#[]⟩, .bool false, .slice none 0 0, .slice none 0 0], .int .i64 _]) (by simp [results, Tryz.results22, go_sem, y0, y1, y2, y3, y4, y5]) rfl (PRet.no (hqq) HBZ.out))
    have hne : (s == t) = false := by rw [← path_tl]; exact hst
    have HNE := Lib.hid hne
    clear hne
    (obtain ⟨p0, p1, p2, p3, p4, p5⟩ := (HM6.out.2.2.2.2.1).c6)
    (obtain ⟨d0, d1⟩ := (HM6.out.2.2.2.1).c2)
    obtain ⟨q0, q1, q2, q3, q4, q5, q6, q7, q8, q9, q10, q11⟩ := HM6.out.2.1.c12
    go_wp2_with fail
    refine (HMV.out none _ (HI.out.below HB6.out)).mono ?_
    rintro e w7 ⟨rfl, hb7⟩
    have HM7 := Lib.hid (HM6.out.below hb7)
    have HB7 := Lib.hid (HB6.out.trans (hb7.mono HB6.out.size))
    have hz7 := hb7.size
    clear hb7 HM6 HB6 p0 p1 p2 p3 p4 p5 q0 q1 q2 q3 q4 q5 q6 q7 q8 q9 q10 q11 d0 d1 hst
    cases hmv : movB d s none
    case false =>
      have hbad : movBad d V s t = true := by
        unfold movBad; rw [HF.out, show liveD d s = false from hmv]; simp
      have hqq : q = (zeroP, 183) := by rw [← HQ.out, HQ1.out, if_pos hbad]
      (obtain ⟨z0, z1, z2, z3, z4, z5⟩ := (HM7.out.2.2.1).c6; have f0 := (HM7.out.2.2.1).fz 0; have f1 := (HM7.out.2.2.1).fz 1; have f2 := (HM7.out.2.2.1).fz 2; have f3 := (HM7.out.2.2.1).fz 3; have f4 := (HM7.out.2.2.1).fz 4; have f5 := (HM7.out.2.2.1).fz 5; go_wp2_with fail; have KZ := Lib.hid (zero_put (HM7.out.2.2.1) (.int .i64 0) (.string ⟨#[]⟩) (.string ⟨#[]⟩) (.bool false) (.slice none 0 0) (.slice none 0 0)); have HBZ := Lib.hid (below_put6 (HB7.out) (b := w.heap.size + 1 + 1) (by omega) (.int .i64 0) (.string ⟨#[]⟩) (.string ⟨#[]⟩) (.bool false) (.slice none 0 0) (.slice none 0 0)); generalize World.setCell (World.setCell (World.setCell (World.setCell (World.setCell (World.setCell _ _ _) _ _) _ _) _ _) _ _) _ _ = wz at *; obtain ⟨y0, y1, y2, y3, y4, y5⟩ := KZ.out.c6; exact bodyPost_ret (v := .tuple #[.agg #[.int .i64 0, .string ⟨#[]⟩, .string ⟨#[]⟩, .bool false, .slice none 0 0, .slice none 0 0], .int .i64 _]) (by simp [results, Tryz.results22, go_sem, y0, y1, y2, y3, y4, y5]) rfl (PRet.no (hqq) HBZ.out))
    have HOKB : Hid (movBad d V s t = false) := by
      show _ = _
      unfold movBad
      rw [HF.out, HLTE.out, HNE.out]
      rw [show liveD d s = true from hmv]; rfl

    clear hmv HMV HLT HLTE
    (obtain ⟨p0, p1, p2, p3, p4, p5⟩ := (HM7.out.2.2.2.2.1).c6)
    go_wp2_with fail
    refine (HCO.out _ (HIE.out.below HB7.out)).mono ?_
    rintro e w8 ⟨A8, c8, R8, r8, rfl, ho8, hb8⟩
    unfold pndV pndC
    dsimp only at ho8 ⊢
    have HO8 := Lib.hid ho8
    have HM8 := Lib.hid (HM7.out.below hb8)
    have HB8 := Lib.hid (HB7.out.trans (hb8.mono HB7.out.size))
    have hz8 := hb8.size
    clear hb8 ho8 HM7 HB7 HCO p0 p1 p2 p3 p4 p5
    go_upto_region 14 with fail
    have HM9 : Hid (Bs [(w8.heap.size, 41, [.int .i64 pn, .string pc, .string pt, .bool ps, .slice A8 V.length c8, .slice R8 0 r8]), (w5.heap.size, 74, [.string u.path, .int .i64 u.num, .int .i64 u.chg, .int .i64 u.act, .int .i64 u.ty.base, .bool u.ty.kw, .bool u.ty.ex, .bool u.ty.xe, .int .u64 u.con.sum, .int .i64 u.con.size, .string u.src, .int .i64 u.srcn]), (w2.heap.size, 44, [.string ⟨#[]⟩, .int .i64 0, .int .i64 0, .bool false, .bool false, .bool false, .int .u64 0, .int .i64 0, .int .i64 0, .string ⟨#[]⟩, .int .i64 0, .int .i64 0]), (w.heap.size + 1 + 1, 41, [.int .i64 0, .string ⟨#[]⟩, .string ⟨#[]⟩, .bool false, .slice none 0 0, .slice none 0 0]), (w.heap.size + 1, 37, [.slice A d.length ca, .slice B nb cb]), (w.heap.size, 41, [.int .i64 pn, .string pc, .string pt, .bool ps, .slice E V.length ec, .slice R 0 rc])] (w8.alloc (.cells [.int .i64 pn, .string pc, .string pt, .bool ps, .slice A8 V.length c8, .slice R8 0 r8].toArray 41))) := Bs.cons (Blk.new w8 41 [.int .i64 pn, .string pc, .string pt, .bool ps, .slice A8 V.length c8, .slice R8 0 r8]) (HM8.out.alloc _)
    have HB9 := Lib.hid (HB8.out.alloc HB8.out.size (.cells [.int .i64 pn, .string pc, .string pt, .bool ps, .slice A8 V.length c8, .slice R8 0 r8].toArray 41))
    have HO9 := Lib.hid (HO8.out.alloc (.cells [.int .i64 pn, .string pc, .string pt, .bool ps, .slice A8 V.length c8, .slice R8 0 r8].toArray 41))
    have HL8 := Lib.hid HO8.out.lt
    generalize hw9 : World.alloc w8 (.cells #[.int .i64 pn, .string pc, .string pt, .bool ps, .slice A8 V.length c8, .slice R8 0 r8] 41) = w9 at *
    clear hw9 HM8 HB8 HO8
    have lt9 := HM9.out.1.lt
    have hsw : w.heap.size ≤ w7.heap.size := by omega
    (obtain ⟨d0, d1⟩ := (HM9.out.2.2.2.2.1).c2)
    go_wp2_with fail
    refine (HLA.out _ (HI.out.below HB9.out)).mono ?_
    rintro e w10 ⟨rfl, hb10⟩
    generalize hv : lastR d s = v at *
    have HVE := Lib.hid hv
    clear hv
    unfold Rev.val Rev.cells
    have HM11 : Hid (Bs [(w10.heap.size, 74, [.string v.path, .int .i64 v.num, .int .i64 v.chg, .int .i64 v.act, .int .i64 v.ty.base, .bool v.ty.kw, .bool v.ty.ex, .bool v.ty.xe, .int .u64 v.con.sum, .int .i64 v.con.size, .string v.src, .int .i64 v.srcn]), (w8.heap.size, 41, [.int .i64 pn, .string pc, .string pt, .bool ps, .slice A8 V.length c8, .slice R8 0 r8]), (w5.heap.size, 74, [.string u.path, .int .i64 u.num, .int .i64 u.chg, .int .i64 u.act, .int .i64 u.ty.base, .bool u.ty.kw, .bool u.ty.ex, .bool u.ty.xe, .int .u64 u.con.sum, .int .i64 u.con.size, .string u.src, .int .i64 u.srcn]), (w2.heap.size, 44, [.string ⟨#[]⟩, .int .i64 0, .int .i64 0, .bool false, .bool false, .bool false, .int .u64 0, .int .i64 0, .int .i64 0, .string ⟨#[]⟩, .int .i64 0, .int .i64 0]), (w.heap.size + 1 + 1, 41, [.int .i64 0, .string ⟨#[]⟩, .string ⟨#[]⟩, .bool false, .slice none 0 0, .slice none 0 0]), (w.heap.size + 1, 37, [.slice A d.length ca, .slice B nb cb]), (w.heap.size, 41, [.int .i64 pn, .string pc, .string pt, .bool ps, .slice E V.length ec, .slice R 0 rc])] (w10.alloc (.cells [.string v.path, .int .i64 v.num, .int .i64 v.chg, .int .i64 v.act, .int .i64 v.ty.base, .bool v.ty.kw, .bool v.ty.ex, .bool v.ty.xe, .int .u64 v.con.sum, .int .i64 v.con.size, .string v.src, .int .i64 v.srcn].toArray 74))) := Bs.cons (Blk.new w10 74 [.string v.path, .int .i64 v.num, .int .i64 v.chg, .int .i64 v.act, .int .i64 v.ty.base, .bool v.ty.kw, .bool v.ty.ex, .bool v.ty.xe, .int .u64 v.con.sum, .int .i64 v.con.size, .string v.src, .int .i64 v.srcn]) ((HM9.out.below hb10).alloc _)
    have HB11 : Hid (Below w.heap.size w (w10.alloc (.cells [.string v.path, .int .i64 v.num, .int .i64 v.chg, .int .i64 v.act, .int .i64 v.ty.base, .bool v.ty.kw, .bool v.ty.ex, .bool v.ty.xe, .int .u64 v.con.sum, .int .i64 v.con.size, .string v.src, .int .i64 v.srcn].toArray 74))) := (HB9.out.trans (hb10.mono HB9.out.size)).alloc (HB9.out.trans (hb10.mono HB9.out.size)).size _
    have HO11 : Hid ((w10.alloc (.cells [.string v.path, .int .i64 v.num, .int .i64 v.chg, .int .i64 v.act, .int .i64 v.ty.base, .bool v.ty.kw, .bool v.ty.ex, .bool v.ty.xe, .int .u64 v.con.sum, .int .i64 v.con.size, .string v.src, .int .i64 v.srcn].toArray 74)).ownsRow w7.heap.size 44 12 (.slice A8 (V).length c8) (V).length (edtK.flat (V))) := (ownsRow_below HO9.out hb10).alloc _
    have hz10 := hb10.size
    clear hb10 HM9 HB9 HO9 d0 d1
    go_upto_region 18 with fail
    generalize hw11 : World.alloc w10 (.cells #[.string v.path, .int .i64 v.num, .int .i64 v.chg, .int .i64 v.act, .int .i64 v.ty.base, .bool v.ty.kw, .bool v.ty.ex, .bool v.ty.xe, .int .u64 v.con.sum, .int .i64 v.con.size, .string v.src, .int .i64 v.srcn] 74) = w11 at *
    clear hw11
    have lt11 := HM11.out.1.lt
    obtain ⟨f0, f1, f2, f3, f4, f5, f6, f7, f8, f9, f10, f11⟩ := HM11.out.2.2.2.1.f12
    obtain ⟨z0, z1, z2, z3, z4, z5, z6, z7, z8, z9, z10, z11⟩ := HM11.out.2.2.2.1.c12
    obtain ⟨y0, y1, y2, y3, y4, y5, y6, y7, y8, y9, y10, y11⟩ := HM11.out.1.c12
    have HMP := Lib.hid (show Bs [(w10.heap.size, 74, [.string v.path, .int .i64 v.num, .int .i64 v.chg, .int .i64 v.act, .int .i64 v.ty.base, .bool v.ty.kw, .bool v.ty.ex, .bool v.ty.xe, .int .u64 v.con.sum, .int .i64 v.con.size, .string v.src, .int .i64 v.srcn]), (w8.heap.size, 41, [.int .i64 pn, .string pc, .string pt, .bool ps, .slice A8 V.length c8, .slice R8 0 r8]), (w5.heap.size, 74, [.string u.path, .int .i64 u.num, .int .i64 u.chg, .int .i64 u.act, .int .i64 u.ty.base, .bool u.ty.kw, .bool u.ty.ex, .bool u.ty.xe, .int .u64 u.con.sum, .int .i64 u.con.size, .string u.src, .int .i64 u.srcn]), (w2.heap.size, 44, [.string ⟨#[]⟩, .int .i64 0, .int .i64 v.ty.base, .bool v.ty.kw, .bool v.ty.ex, .bool v.ty.xe, .int .u64 v.con.sum, .int .i64 v.con.size, .int .i64 0, .string ⟨#[]⟩, .int .i64 0, .int .i64 0]), (w.heap.size + 1 + 1, 41, [.int .i64 0, .string ⟨#[]⟩, .string ⟨#[]⟩, .bool false, .slice none 0 0, .slice none 0 0]), (w.heap.size + 1, 37, [.slice A d.length ca, .slice B nb cb]), (w.heap.size, 41, [.int .i64 pn, .string pc, .string pt, .bool ps, .slice E V.length ec, .slice R 0 rc])] _ from ⟨HM11.out.1.far12 (.string ⟨#[]⟩) (.int .i64 0) (.int .i64 v.ty.base) (.bool v.ty.kw) (.bool v.ty.ex) (.bool v.ty.xe) (.int .u64 v.con.sum) (.int .i64 v.con.size) (.int .i64 0) (.string ⟨#[]⟩) (.int .i64 0) (.int .i64 0) (b := w2.heap.size) (by omega), HM11.out.2.1.far12 (.string ⟨#[]⟩) (.int .i64 0) (.int .i64 v.ty.base) (.bool v.ty.kw) (.bool v.ty.ex) (.bool v.ty.xe) (.int .u64 v.con.sum) (.int .i64 v.con.size) (.int .i64 0) (.string ⟨#[]⟩) (.int .i64 0) (.int .i64 0) (b := w2.heap.size) (by omega), HM11.out.2.2.1.far12 (.string ⟨#[]⟩) (.int .i64 0) (.int .i64 v.ty.base) (.bool v.ty.kw) (.bool v.ty.ex) (.bool v.ty.xe) (.int .u64 v.con.sum) (.int .i64 v.con.size) (.int .i64 0) (.string ⟨#[]⟩) (.int .i64 0) (.int .i64 0) (b := w2.heap.size) (by omega), HM11.out.2.2.2.1.put12 (.string ⟨#[]⟩) (.int .i64 0) (.int .i64 v.ty.base) (.bool v.ty.kw) (.bool v.ty.ex) (.bool v.ty.xe) (.int .u64 v.con.sum) (.int .i64 v.con.size) (.int .i64 0) (.string ⟨#[]⟩) (.int .i64 0) (.int .i64 0), HM11.out.2.2.2.2.1.far12 (.string ⟨#[]⟩) (.int .i64 0) (.int .i64 v.ty.base) (.bool v.ty.kw) (.bool v.ty.ex) (.bool v.ty.xe) (.int .u64 v.con.sum) (.int .i64 v.con.size) (.int .i64 0) (.string ⟨#[]⟩) (.int .i64 0) (.int .i64 0) (b := w2.heap.size) (by omega), HM11.out.2.2.2.2.2.1.far12 (.string ⟨#[]⟩) (.int .i64 0) (.int .i64 v.ty.base) (.bool v.ty.kw) (.bool v.ty.ex) (.bool v.ty.xe) (.int .u64 v.con.sum) (.int .i64 v.con.size) (.int .i64 0) (.string ⟨#[]⟩) (.int .i64 0) (.int .i64 0) (b := w2.heap.size) (by omega), HM11.out.2.2.2.2.2.2.1.far12 (.string ⟨#[]⟩) (.int .i64 0) (.int .i64 v.ty.base) (.bool v.ty.kw) (.bool v.ty.ex) (.bool v.ty.xe) (.int .u64 v.con.sum) (.int .i64 v.con.size) (.int .i64 0) (.string ⟨#[]⟩) (.int .i64 0) (.int .i64 0) (b := w2.heap.size) (by omega), trivial⟩)
    have HBP := Lib.hid (below_put12 (.string ⟨#[]⟩) (.int .i64 0) (.int .i64 v.ty.base) (.bool v.ty.kw) (.bool v.ty.ex) (.bool v.ty.xe) (.int .u64 v.con.sum) (.int .i64 v.con.size) (.int .i64 0) (.string ⟨#[]⟩) (.int .i64 0) (.int .i64 0) (b := w2.heap.size) HB11.out (by omega))
    have HOP := Lib.hid (own_put12 (.string ⟨#[]⟩) (.int .i64 0) (.int .i64 v.ty.base) (.bool v.ty.kw) (.bool v.ty.ex) (.bool v.ty.xe) (.int .u64 v.con.sum) (.int .i64 v.con.size) (.int .i64 0) (.string ⟨#[]⟩) (.int .i64 0) (.int .i64 0) (b := w2.heap.size) HO11.out (by intro e; have := HO11.out.lt _ e; omega))
    go_upto_region 20 with fail
    (generalize World.setCell (World.setCell (World.setCell (World.setCell (World.setCell (World.setCell (World.setCell (World.setCell (World.setCell (World.setCell (World.setCell (World.setCell _ _ _) _ _) _ _) _ _) _ _) _ _) _ _) _ _) _ _) _ _) _ _) _ _ = w12 at *)
    have HM12 := HMP
    have HB12 := HBP
    have HO12 := HOP
    have lt12 := HM12.out.1.lt
    clear HMP HBP HOP HM11 HB11 HO11 f0 f1 f2 f3 f4 f5 f6 f7 f8 f9 f10 f11 z0 z1 z2 z3 z4 z5 z6 z7 z8 z9 z10 z11 y0 y1 y2 y3 y4 y5 y6 y7 y8 y9 y10 y11
    have HEP : Hid (EPl V) := HOK.out.pl
    have HFN := Lib.hid (fnd_none HF.out)
    have HFT := Lib.hid (has_none HHT.out)
    obtain ⟨p0, p1, p2, p3, p4, p5⟩ := HM12.out.2.1.c6
    have g4 := HM12.out.2.1.fz 4
    obtain ⟨y0, y1, y2, y3, y4, y5, y6, y7, y8, y9, y10, y11⟩ := HM12.out.1.c12
    have HW := with_any V ⟨s, 5, v.ty, zeroCon, v.num, ⟨#[]⟩, 0, 0⟩ A8 c8 w12 (RowK.In.of_row HO12.out) HEP.out HUS.out
    obtain ⟨L13, hL13⟩ : ∃ L, insE V ⟨s, 5, v.ty, zeroCon, v.num, ⟨#[]⟩, 0, 0⟩ = L := ⟨_, rfl⟩
    rw [hL13] at HW
    have HLE13 := Lib.hid hL13
    clear hL13
    unfold Edt.val Edt.cells at HW
    dsimp only [zeroTy, zeroCon] at HW
    have HWW := Lib.hid HW
    clear HW
    go_wp2_with fail
    refine HWW.out.mono ?_
    rintro e w13 ⟨v13, rfl, ho13, hb13⟩
    obtain ⟨A13, c13, rfl⟩ := own_slice ho13
    have HM13 := Lib.hid (HM12.out.below hb13)
    have HB13 := Lib.hid (HB12.out.trans (hb13.mono HB12.out.size))
    have HO13 := Lib.hid ho13
    have hz13 := hb13.size
    clear hb13 ho13 HWW HM12 HB12 HO12 p0 p1 p2 p3 p4 p5 g4 y0 y1 y2 y3 y4 y5 y6 y7 y8 y9 y10 y11
    obtain ⟨p0, p1, p2, p3, p4, p5⟩ := HM13.out.2.1.c6
    have g4 := HM13.out.2.1.fz 4
    have HMP := Lib.hid (show Bs [(w10.heap.size, 74, [.string v.path, .int .i64 v.num, .int .i64 v.chg, .int .i64 v.act, .int .i64 v.ty.base, .bool v.ty.kw, .bool v.ty.ex, .bool v.ty.xe, .int .u64 v.con.sum, .int .i64 v.con.size, .string v.src, .int .i64 v.srcn]), (w8.heap.size, 41, [.int .i64 pn, .string pc, .string pt, .bool ps, .slice A13 (L13).length c13, .slice R8 0 r8]), (w5.heap.size, 74, [.string u.path, .int .i64 u.num, .int .i64 u.chg, .int .i64 u.act, .int .i64 u.ty.base, .bool u.ty.kw, .bool u.ty.ex, .bool u.ty.xe, .int .u64 u.con.sum, .int .i64 u.con.size, .string u.src, .int .i64 u.srcn]), (w2.heap.size, 44, [.string ⟨#[]⟩, .int .i64 0, .int .i64 v.ty.base, .bool v.ty.kw, .bool v.ty.ex, .bool v.ty.xe, .int .u64 v.con.sum, .int .i64 v.con.size, .int .i64 0, .string ⟨#[]⟩, .int .i64 0, .int .i64 0]), (w.heap.size + 1 + 1, 41, [.int .i64 0, .string ⟨#[]⟩, .string ⟨#[]⟩, .bool false, .slice none 0 0, .slice none 0 0]), (w.heap.size + 1, 37, [.slice A d.length ca, .slice B nb cb]), (w.heap.size, 41, [.int .i64 pn, .string pc, .string pt, .bool ps, .slice E V.length ec, .slice R 0 rc])] _ from ⟨HM13.out.1.far (p := ⟨w8.heap.size, 4, none⟩) (by dsimp only; omega) (.slice A13 (L13).length c13), HM13.out.2.1.set 4 (.slice A13 (L13).length c13), HM13.out.2.2.1.far (p := ⟨w8.heap.size, 4, none⟩) (by dsimp only; omega) (.slice A13 (L13).length c13), HM13.out.2.2.2.1.far (p := ⟨w8.heap.size, 4, none⟩) (by dsimp only; omega) (.slice A13 (L13).length c13), HM13.out.2.2.2.2.1.far (p := ⟨w8.heap.size, 4, none⟩) (by dsimp only; omega) (.slice A13 (L13).length c13), HM13.out.2.2.2.2.2.1.far (p := ⟨w8.heap.size, 4, none⟩) (by dsimp only; omega) (.slice A13 (L13).length c13), HM13.out.2.2.2.2.2.2.1.far (p := ⟨w8.heap.size, 4, none⟩) (by dsimp only; omega) (.slice A13 (L13).length c13), trivial⟩)
    have HBP := Lib.hid (HB13.out.setCell (p := ⟨w8.heap.size, 4, none⟩) (by dsimp only; omega) (.slice A13 (L13).length c13))
    have HOP := Lib.hid (own_set_below HO13.out (p := ⟨w8.heap.size, 4, none⟩) (by dsimp only; omega) (.slice A13 (L13).length c13))
    go_upto_region 21 with fail
    (generalize World.setCell _ _ _ = w14 at *)
    have HM14 := HMP
    have HB14 := HBP
    have HO14 := HOP
    have lt14 := HM14.out.1.lt
    clear HMP HBP HOP HM13 HB13 HO13 p0 p1 p2 p3 p4 p5 g4
    obtain ⟨f0, f1, f2, f3, f4, f5, f6, f7, f8, f9, f10, f11⟩ := HM14.out.2.2.2.1.f12
    obtain ⟨z0, z1, z2, z3, z4, z5, z6, z7, z8, z9, z10, z11⟩ := HM14.out.2.2.2.1.c12
    obtain ⟨y0, y1, y2, y3, y4, y5, y6, y7, y8, y9, y10, y11⟩ := HM14.out.1.c12
    have HMP := Lib.hid (show Bs [(w10.heap.size, 74, [.string v.path, .int .i64 v.num, .int .i64 v.chg, .int .i64 v.act, .int .i64 v.ty.base, .bool v.ty.kw, .bool v.ty.ex, .bool v.ty.xe, .int .u64 v.con.sum, .int .i64 v.con.size, .string v.src, .int .i64 v.srcn]), (w8.heap.size, 41, [.int .i64 pn, .string pc, .string pt, .bool ps, .slice A13 (L13).length c13, .slice R8 0 r8]), (w5.heap.size, 74, [.string u.path, .int .i64 u.num, .int .i64 u.chg, .int .i64 u.act, .int .i64 u.ty.base, .bool u.ty.kw, .bool u.ty.ex, .bool u.ty.xe, .int .u64 u.con.sum, .int .i64 u.con.size, .string u.src, .int .i64 u.srcn]), (w2.heap.size, 44, [.string ⟨#[]⟩, .int .i64 4, .int .i64 v.ty.base, .bool v.ty.kw, .bool v.ty.ex, .bool v.ty.xe, .int .u64 v.con.sum, .int .i64 v.con.size, .int .i64 0, .string s, .int .i64 v.num, .int .i64 0]), (w.heap.size + 1 + 1, 41, [.int .i64 0, .string ⟨#[]⟩, .string ⟨#[]⟩, .bool false, .slice none 0 0, .slice none 0 0]), (w.heap.size + 1, 37, [.slice A d.length ca, .slice B nb cb]), (w.heap.size, 41, [.int .i64 pn, .string pc, .string pt, .bool ps, .slice E V.length ec, .slice R 0 rc])] _ from ⟨HM14.out.1.far12 (.string ⟨#[]⟩) (.int .i64 4) (.int .i64 v.ty.base) (.bool v.ty.kw) (.bool v.ty.ex) (.bool v.ty.xe) (.int .u64 v.con.sum) (.int .i64 v.con.size) (.int .i64 0) (.string s) (.int .i64 v.num) (.int .i64 0) (b := w2.heap.size) (by omega), HM14.out.2.1.far12 (.string ⟨#[]⟩) (.int .i64 4) (.int .i64 v.ty.base) (.bool v.ty.kw) (.bool v.ty.ex) (.bool v.ty.xe) (.int .u64 v.con.sum) (.int .i64 v.con.size) (.int .i64 0) (.string s) (.int .i64 v.num) (.int .i64 0) (b := w2.heap.size) (by omega), HM14.out.2.2.1.far12 (.string ⟨#[]⟩) (.int .i64 4) (.int .i64 v.ty.base) (.bool v.ty.kw) (.bool v.ty.ex) (.bool v.ty.xe) (.int .u64 v.con.sum) (.int .i64 v.con.size) (.int .i64 0) (.string s) (.int .i64 v.num) (.int .i64 0) (b := w2.heap.size) (by omega), HM14.out.2.2.2.1.put12 (.string ⟨#[]⟩) (.int .i64 4) (.int .i64 v.ty.base) (.bool v.ty.kw) (.bool v.ty.ex) (.bool v.ty.xe) (.int .u64 v.con.sum) (.int .i64 v.con.size) (.int .i64 0) (.string s) (.int .i64 v.num) (.int .i64 0), HM14.out.2.2.2.2.1.far12 (.string ⟨#[]⟩) (.int .i64 4) (.int .i64 v.ty.base) (.bool v.ty.kw) (.bool v.ty.ex) (.bool v.ty.xe) (.int .u64 v.con.sum) (.int .i64 v.con.size) (.int .i64 0) (.string s) (.int .i64 v.num) (.int .i64 0) (b := w2.heap.size) (by omega), HM14.out.2.2.2.2.2.1.far12 (.string ⟨#[]⟩) (.int .i64 4) (.int .i64 v.ty.base) (.bool v.ty.kw) (.bool v.ty.ex) (.bool v.ty.xe) (.int .u64 v.con.sum) (.int .i64 v.con.size) (.int .i64 0) (.string s) (.int .i64 v.num) (.int .i64 0) (b := w2.heap.size) (by omega), HM14.out.2.2.2.2.2.2.1.far12 (.string ⟨#[]⟩) (.int .i64 4) (.int .i64 v.ty.base) (.bool v.ty.kw) (.bool v.ty.ex) (.bool v.ty.xe) (.int .u64 v.con.sum) (.int .i64 v.con.size) (.int .i64 0) (.string s) (.int .i64 v.num) (.int .i64 0) (b := w2.heap.size) (by omega), trivial⟩)
    have HBP := Lib.hid (below_put12 (.string ⟨#[]⟩) (.int .i64 4) (.int .i64 v.ty.base) (.bool v.ty.kw) (.bool v.ty.ex) (.bool v.ty.xe) (.int .u64 v.con.sum) (.int .i64 v.con.size) (.int .i64 0) (.string s) (.int .i64 v.num) (.int .i64 0) (b := w2.heap.size) HB14.out (by omega))
    have HOP := Lib.hid (own_put12 (.string ⟨#[]⟩) (.int .i64 4) (.int .i64 v.ty.base) (.bool v.ty.kw) (.bool v.ty.ex) (.bool v.ty.xe) (.int .u64 v.con.sum) (.int .i64 v.con.size) (.int .i64 0) (.string s) (.int .i64 v.num) (.int .i64 0) (b := w2.heap.size) HO14.out (by intro e; have := HO14.out.lt _ e; omega))
    go_upto_region 22 with fail
    (generalize World.setCell (World.setCell (World.setCell (World.setCell (World.setCell (World.setCell (World.setCell (World.setCell (World.setCell (World.setCell (World.setCell (World.setCell _ _ _) _ _) _ _) _ _) _ _) _ _) _ _) _ _) _ _) _ _) _ _) _ _ = w15 at *)
    have HM15 := HMP
    have HB15 := HBP
    have HO15 := HOP
    have lt15 := HM15.out.1.lt
    clear HMP HBP HOP HM14 HB14 HO14 f0 f1 f2 f3 f4 f5 f6 f7 f8 f9 f10 f11 z0 z1 z2 z3 z4 z5 z6 z7 z8 z9 z10 z11 y0 y1 y2 y3 y4 y5 y6 y7 y8 y9 y10 y11
    -- MARKF
    obtain ⟨f0, f1, f2, f3, f4, f5, f6, f7, f8, f9, f10, f11⟩ := HM15.out.2.2.2.1.f12
    obtain ⟨z0, z1, z2, z3, z4, z5, z6, z7, z8, z9, z10, z11⟩ := HM15.out.2.2.2.1.c12
    obtain ⟨y0, y1, y2, y3, y4, y5, y6, y7, y8, y9, y10, y11⟩ := HM15.out.2.2.1.c12
    have HMP := Lib.hid (Bs.drew (show Bs [(w10.heap.size, 74, [.string v.path, .int .i64 v.num, .int .i64 v.chg, .int .i64 v.act, .int .i64 v.ty.base, .bool v.ty.kw, .bool v.ty.ex, .bool v.ty.xe, .int .u64 v.con.sum, .int .i64 v.con.size, .string v.src, .int .i64 v.srcn]), (w8.heap.size, 41, [.int .i64 pn, .string pc, .string pt, .bool ps, .slice A13 (L13).length c13, .slice R8 0 r8]), (w5.heap.size, 74, [.string u.path, .int .i64 u.num, .int .i64 u.chg, .int .i64 u.act, .int .i64 u.ty.base, .bool u.ty.kw, .bool u.ty.ex, .bool u.ty.xe, .int .u64 u.con.sum, .int .i64 u.con.size, .string u.src, .int .i64 u.srcn]), (w2.heap.size, 44, [.string t, .int .i64 4, .int .i64 v.ty.base, .bool v.ty.kw, .bool v.ty.ex, .bool v.ty.xe, .int .u64 v.con.sum, .int .i64 v.con.size, .int .i64 u.num, .string s, .int .i64 v.num, .int .i64 0]), (w.heap.size + 1 + 1, 41, [.int .i64 0, .string ⟨#[]⟩, .string ⟨#[]⟩, .bool false, .slice none 0 0, .slice none 0 0]), (w.heap.size + 1, 37, [.slice A d.length ca, .slice B nb cb]), (w.heap.size, 41, [.int .i64 pn, .string pc, .string pt, .bool ps, .slice E V.length ec, .slice R 0 rc])] _ from ⟨(HM15.out.1.far (p := ⟨w2.heap.size, 0, none⟩) (by dsimp only; omega) (.string t)).far (p := ⟨w2.heap.size, 8, none⟩) (by dsimp only; omega) (.int .i64 u.num), (HM15.out.2.1.far (p := ⟨w2.heap.size, 0, none⟩) (by dsimp only; omega) (.string t)).far (p := ⟨w2.heap.size, 8, none⟩) (by dsimp only; omega) (.int .i64 u.num), (HM15.out.2.2.1.far (p := ⟨w2.heap.size, 0, none⟩) (by dsimp only; omega) (.string t)).far (p := ⟨w2.heap.size, 8, none⟩) (by dsimp only; omega) (.int .i64 u.num), (HM15.out.2.2.2.1.set 0 (.string t)).set 8 (.int .i64 u.num), (HM15.out.2.2.2.2.1.far (p := ⟨w2.heap.size, 0, none⟩) (by dsimp only; omega) (.string t)).far (p := ⟨w2.heap.size, 8, none⟩) (by dsimp only; omega) (.int .i64 u.num), (HM15.out.2.2.2.2.2.1.far (p := ⟨w2.heap.size, 0, none⟩) (by dsimp only; omega) (.string t)).far (p := ⟨w2.heap.size, 8, none⟩) (by dsimp only; omega) (.int .i64 u.num), (HM15.out.2.2.2.2.2.2.1.far (p := ⟨w2.heap.size, 0, none⟩) (by dsimp only; omega) (.string t)).far (p := ⟨w2.heap.size, 8, none⟩) (by dsimp only; omega) (.int .i64 u.num), trivial⟩))
    have HBP := Lib.hid (((HB15.out.setCell (p := ⟨w2.heap.size, 0, none⟩) (by dsimp only; omega) (.string t)).setCell (p := ⟨w2.heap.size, 8, none⟩) (by dsimp only; omega) (.int .i64 u.num)).drew)
    have HOP := Lib.hid (World.ownsRow.drew (own_setC (own_setC HO15.out (p := ⟨w2.heap.size, 0, none⟩) (by intro e; have := HO15.out.lt _ e; dsimp only at this; omega) (.string t)) (p := ⟨w2.heap.size, 8, none⟩) (by intro e; have := HO15.out.lt _ e; dsimp only at this; omega) (.int .i64 u.num)))
    -- MARKD
    go_wp2_with fail
    go_region
    -- MARKE
    obtain ⟨w16, hw16⟩ : ∃ x, x = ((w15.setCell ⟨w2.heap.size, 0, none⟩ (.string t)).setCell ⟨w2.heap.size, 8, none⟩ (.int .i64 u.num)).drew := ⟨_, rfl⟩
    have HM16 : Hid (Bs [(w10.heap.size, 74, [.string v.path, .int .i64 v.num, .int .i64 v.chg, .int .i64 v.act, .int .i64 v.ty.base, .bool v.ty.kw, .bool v.ty.ex, .bool v.ty.xe, .int .u64 v.con.sum, .int .i64 v.con.size, .string v.src, .int .i64 v.srcn]), (w8.heap.size, 41, [.int .i64 pn, .string pc, .string pt, .bool ps, .slice A13 (L13).length c13, .slice R8 0 r8]), (w5.heap.size, 74, [.string u.path, .int .i64 u.num, .int .i64 u.chg, .int .i64 u.act, .int .i64 u.ty.base, .bool u.ty.kw, .bool u.ty.ex, .bool u.ty.xe, .int .u64 u.con.sum, .int .i64 u.con.size, .string u.src, .int .i64 u.srcn]), (w2.heap.size, 44, [.string t, .int .i64 4, .int .i64 v.ty.base, .bool v.ty.kw, .bool v.ty.ex, .bool v.ty.xe, .int .u64 v.con.sum, .int .i64 v.con.size, .int .i64 u.num, .string s, .int .i64 v.num, .int .i64 0]), (w.heap.size + 1 + 1, 41, [.int .i64 0, .string ⟨#[]⟩, .string ⟨#[]⟩, .bool false, .slice none 0 0, .slice none 0 0]), (w.heap.size + 1, 37, [.slice A d.length ca, .slice B nb cb]), (w.heap.size, 41, [.int .i64 pn, .string pc, .string pt, .bool ps, .slice E V.length ec, .slice R 0 rc])] w16) := by rw [hw16]; exact HMP.out
    have HB16 : Hid (Below w.heap.size w w16) := by rw [hw16]; exact HBP.out
    have HO16 : Hid (w16.ownsRow w12.heap.size 44 12 (.slice A13 (L13).length c13) (L13).length (edtK.flat (L13))) := by rw [hw16]; exact HOP.out
    rw [← hw16]
    clear hw16
    have lt16 := HM16.out.1.lt
    clear HMP HBP HOP HM15 HB15 HO15 f0 f1 f2 f3 f4 f5 f6 f7 f8 f9 f10 f11 z0 z1 z2 z3 z4 z5 z6 z7 z8 z9 z10 z11 y0 y1 y2 y3 y4 y5 y6 y7 y8 y9 y10 y11
    have HEP2 : Hid (EPl L13) := by
      show EPl _
      rw [← HLE13.out]
      exact HEP.out.ins HUS.out HFN.out (by omega)
    -- MARKA
    obtain ⟨p0, p1, p2, p3, p4, p5⟩ := HM16.out.2.1.c6
    have g4 := HM16.out.2.1.fz 4
    obtain ⟨y0, y1, y2, y3, y4, y5, y6, y7, y8, y9, y10, y11⟩ := HM16.out.2.2.2.1.c12
    have HW := with_any (L13) ⟨t, 4, v.ty, v.con, u.num, s, v.num, 0⟩ A13 c13 w16 (RowK.In.of_row HO16.out) HEP2.out HUT.out
    obtain ⟨L17, hL17⟩ : ∃ L, insE (L13) ⟨t, 4, v.ty, v.con, u.num, s, v.num, 0⟩ = L := ⟨_, rfl⟩
    rw [hL17] at HW
    have HLE17 := Lib.hid hL17
    clear hL17
    unfold Edt.val Edt.cells at HW
    dsimp only [zeroTy, zeroCon] at HW
    have HWW := Lib.hid HW
    clear HW
    go_wp2_with fail
    refine HWW.out.mono ?_
    rintro e w17 ⟨v17, rfl, ho17, hb17⟩
    obtain ⟨A17, c17, rfl⟩ := own_slice ho17
    have HM17 := Lib.hid (HM16.out.below hb17)
    have HB17 := Lib.hid (HB16.out.trans (hb17.mono HB16.out.size))
    have HO17 := Lib.hid ho17
    have hz17 := hb17.size
    clear hb17 ho17 HWW HM16 HB16 HO16 p0 p1 p2 p3 p4 p5 g4 y0 y1 y2 y3 y4 y5 y6 y7 y8 y9 y10 y11
    obtain ⟨p0, p1, p2, p3, p4, p5⟩ := HM17.out.2.1.c6
    have g4 := HM17.out.2.1.fz 4
    have HMP := Lib.hid (show Bs [(w10.heap.size, 74, [.string v.path, .int .i64 v.num, .int .i64 v.chg, .int .i64 v.act, .int .i64 v.ty.base, .bool v.ty.kw, .bool v.ty.ex, .bool v.ty.xe, .int .u64 v.con.sum, .int .i64 v.con.size, .string v.src, .int .i64 v.srcn]), (w8.heap.size, 41, [.int .i64 pn, .string pc, .string pt, .bool ps, .slice A17 (L17).length c17, .slice R8 0 r8]), (w5.heap.size, 74, [.string u.path, .int .i64 u.num, .int .i64 u.chg, .int .i64 u.act, .int .i64 u.ty.base, .bool u.ty.kw, .bool u.ty.ex, .bool u.ty.xe, .int .u64 u.con.sum, .int .i64 u.con.size, .string u.src, .int .i64 u.srcn]), (w2.heap.size, 44, [.string t, .int .i64 4, .int .i64 v.ty.base, .bool v.ty.kw, .bool v.ty.ex, .bool v.ty.xe, .int .u64 v.con.sum, .int .i64 v.con.size, .int .i64 u.num, .string s, .int .i64 v.num, .int .i64 0]), (w.heap.size + 1 + 1, 41, [.int .i64 0, .string ⟨#[]⟩, .string ⟨#[]⟩, .bool false, .slice none 0 0, .slice none 0 0]), (w.heap.size + 1, 37, [.slice A d.length ca, .slice B nb cb]), (w.heap.size, 41, [.int .i64 pn, .string pc, .string pt, .bool ps, .slice E V.length ec, .slice R 0 rc])] _ from ⟨HM17.out.1.far (p := ⟨w8.heap.size, 4, none⟩) (by dsimp only; omega) (.slice A17 (L17).length c17), HM17.out.2.1.set 4 (.slice A17 (L17).length c17), HM17.out.2.2.1.far (p := ⟨w8.heap.size, 4, none⟩) (by dsimp only; omega) (.slice A17 (L17).length c17), HM17.out.2.2.2.1.far (p := ⟨w8.heap.size, 4, none⟩) (by dsimp only; omega) (.slice A17 (L17).length c17), HM17.out.2.2.2.2.1.far (p := ⟨w8.heap.size, 4, none⟩) (by dsimp only; omega) (.slice A17 (L17).length c17), HM17.out.2.2.2.2.2.1.far (p := ⟨w8.heap.size, 4, none⟩) (by dsimp only; omega) (.slice A17 (L17).length c17), HM17.out.2.2.2.2.2.2.1.far (p := ⟨w8.heap.size, 4, none⟩) (by dsimp only; omega) (.slice A17 (L17).length c17), trivial⟩)
    have HBP := Lib.hid (HB17.out.setCell (p := ⟨w8.heap.size, 4, none⟩) (by dsimp only; omega) (.slice A17 (L17).length c17))
    have HOP := Lib.hid (own_set_below HO17.out (p := ⟨w8.heap.size, 4, none⟩) (by dsimp only; omega) (.slice A17 (L17).length c17))
    go_upto_region 24 with fail
    (generalize World.setCell _ _ _ = w18 at *)
    have HM18 := HMP
    have HB18 := HBP
    have HO18 := HOP
    have lt18 := HM18.out.1.lt
    clear HMP HBP HOP HM17 HB17 HO17 p0 p1 p2 p3 p4 p5 g4
    -- MARKB
    have HEQ : Hid (movedL d V s t = L17) := by
      show _ = _
      unfold movedL awayE hereE
      rw [HF.out]
      dsimp only
      rw [HVE.out, HUE.out, HLE13.out]
      exact HLE17.out
    obtain ⟨p0, p1, p2, p3, p4, p5⟩ := HM18.out.2.1.c6
    by_cases hbig : 64 < (L17).length
    · have hbi : (64 : Int) < ((L17).length : Int) := by omega
      have hqq : q = (zeroP, 184) := by rw [← HQ.out, HQ1.out, if_neg (by rw [HOKB.out]; decide), if_pos (by rw [HEQ.out]; exact hbig)]
      (obtain ⟨z0, z1, z2, z3, z4, z5⟩ := (HM18.out.2.2.2.2.1).c6; have f0 := (HM18.out.2.2.2.2.1).fz 0; have f1 := (HM18.out.2.2.2.2.1).fz 1; have f2 := (HM18.out.2.2.2.2.1).fz 2; have f3 := (HM18.out.2.2.2.2.1).fz 3; have f4 := (HM18.out.2.2.2.2.1).fz 4; have f5 := (HM18.out.2.2.2.2.1).fz 5; go_wp2_with fail; have KZ := Lib.hid (zero_put (HM18.out.2.2.2.2.1) (.int .i64 0) (.string ⟨#[]⟩) (.string ⟨#[]⟩) (.bool false) (.slice none 0 0) (.slice none 0 0)); have HBZ := Lib.hid (below_put6 (HB18.out) (b := w.heap.size + 1 + 1) (by omega) (.int .i64 0) (.string ⟨#[]⟩) (.string ⟨#[]⟩) (.bool false) (.slice none 0 0) (.slice none 0 0)); generalize World.setCell (World.setCell (World.setCell (World.setCell (World.setCell (World.setCell _ _ _) _ _) _ _) _ _) _ _) _ _ = wz at *; obtain ⟨y0, y1, y2, y3, y4, y5⟩ := KZ.out.c6; exact bodyPost_ret (v := .tuple #[.agg #[.int .i64 0, .string ⟨#[]⟩, .string ⟨#[]⟩, .bool false, .slice none 0 0, .slice none 0 0], .int .i64 _]) (by simp [results, Tryz.results22, go_sem, y0, y1, y2, y3, y4, y5]) rfl (PRet.no (hqq) HBZ.out))
    · have hbi : ¬ (64 : Int) < ((L17).length : Int) := by omega
      have hqq : q = (⟨pn, pc, pt, ps, L17⟩, 0) := by rw [← HQ.out, HQ1.out, if_neg (by rw [HOKB.out]; decide), if_neg (by rw [HEQ.out]; exact hbig), HEQ.out]
      have KZ := Lib.hid (zero_put (HM18.out.2.2.2.2.1) (.int .i64 pn) (.string pc) (.string pt) (.bool ps) (.slice A17 (L17).length c17) (.slice R8 0 r8))
      have HBZ := Lib.hid (below_put6 HB18.out (b := w.heap.size + 1 + 1) (by omega) (.int .i64 pn) (.string pc) (.string pt) (.bool ps) (.slice A17 (L17).length c17) (.slice R8 0 r8))
      have HOZ := Lib.hid (own_put6 HO18.out (b := w.heap.size + 1 + 1) (by intro e; have := HO18.out.lt _ e; omega) (.int .i64 pn) (.string pc) (.string pt) (.bool ps) (.slice A17 (L17).length c17) (.slice R8 0 r8))
      obtain ⟨z0, z1, z2, z3, z4, z5⟩ := HM18.out.2.2.2.2.1.c6
      have f0 := HM18.out.2.2.2.2.1.fz 0
      have f1 := HM18.out.2.2.2.2.1.fz 1
      have f2 := HM18.out.2.2.2.2.1.fz 2
      have f3 := HM18.out.2.2.2.2.1.fz 3
      have f4 := HM18.out.2.2.2.2.1.fz 4
      have f5 := HM18.out.2.2.2.2.1.fz 5
      go_wp2_with fail
      (generalize World.setCell (World.setCell (World.setCell (World.setCell (World.setCell (World.setCell _ _ _) _ _) _ _) _ _) _ _) _ _ = wz at *)
      obtain ⟨y0, y1, y2, y3, y4, y5⟩ := KZ.out.c6
      exact bodyPost_ret (v := .tuple #[.agg #[.int .i64 pn, .string pc, .string pt, .bool ps, .slice A17 (L17).length c17, .slice R8 0 r8], .int .i64 0]) (by simp [results, Tryz.results22, go_sem, y0, y1, y2, y3, y4, y5]) rfl (by first | exact PRet.yes rfl HOZ.out HBZ.out (by omega) | exact PRet.yes hqq HOZ.out HBZ.out (by omega))
    -- MARKC
  | some x =>
    have HF := Lib.hid hf
    have hh : hasE V s = true := by unfold hasE; rw [hf]; rfl
    have hph := pos_has HOK.out.srt hf
    rw [← posP_has HOK.out.pl hf] at hph
    rw [hh]
    obtain ⟨k, hk⟩ : ∃ k, posP V s = k := ⟨_, rfl⟩
    rw [hk] at hph ⊢
    have HKE := Lib.hid hk
    have hkl := hph.1
    have hkn : (k : Int) < (V.length : Int) := by omega
    obtain ⟨b, off, rfl, hbl, hat⟩ := (HIE.out.below HB3.out) (by omega)
    (have hcv := fun j (u : Value) (hj : (x).cells[j]? = some u) => ((hat).get hph.2 hj); have c0 := hcv 0 _ rfl; have c1 := hcv 1 _ rfl; have c2 := hcv 2 _ rfl; have c3 := hcv 3 _ rfl; have c4 := hcv 4 _ rfl; have c5 := hcv 5 _ rfl; have c6 := hcv 6 _ rfl; have c7 := hcv 7 _ rfl; have c8 := hcv 8 _ rfl; have c9 := hcv 9 _ rfl; have c10 := hcv 10 _ rfl; have c11 := hcv 11 _ rfl; have e12 : edtK.n = 12 := rfl; simp only [e12, Nat.add_zero] at c0 c1 c2 c3 c4 c5 c6 c7 c8 c9 c10 c11; clear hcv e12)
    have HPH := Lib.hid hph.2
    clear hf hk hph hat
    (obtain ⟨p0, p1, p2, p3, p4, p5⟩ := (HM3.out.2.2.2.1).c6)
    have KE := Lib.hid HM3.out.1
    obtain ⟨q0, q1, q2, q3, q4, q5, q6, q7, q8, q9, q10, q11⟩ := HM3.out.1.c12
    obtain ⟨f0, f1, f2, f3, f4, f5, f6, f7, f8, f9, f10, f11⟩ := HM3.out.1.f12
    have HX4 := Lib.hid (show Bs [(w2.heap.size, 44, [.string x.path, .int .i64 x.act, .int .i64 x.ty.base, .bool x.ty.kw, .bool x.ty.ex, .bool x.ty.xe, .int .u64 x.con.sum, .int .i64 x.con.size, .int .i64 x.base, .string x.src, .int .i64 x.srcn, .int .i64 x.fence]), (w.heap.size + 1 + 1, 41, [.int .i64 0, .string ⟨#[]⟩, .string ⟨#[]⟩, .bool false, .slice none 0 0, .slice none 0 0]), (w.heap.size + 1, 37, [.slice A d.length ca, .slice B nb cb]), (w.heap.size, 41, [.int .i64 pn, .string pc, .string pt, .bool ps, .slice (some ⟨b, off, none⟩) V.length ec, .slice R 0 rc])] _ from ⟨HM3.out.1.put12 (.string x.path) (.int .i64 x.act) (.int .i64 x.ty.base) (.bool x.ty.kw) (.bool x.ty.ex) (.bool x.ty.xe) (.int .u64 x.con.sum) (.int .i64 x.con.size) (.int .i64 x.base) (.string x.src) (.int .i64 x.srcn) (.int .i64 x.fence), HM3.out.2.1.far12 (.string x.path) (.int .i64 x.act) (.int .i64 x.ty.base) (.bool x.ty.kw) (.bool x.ty.ex) (.bool x.ty.xe) (.int .u64 x.con.sum) (.int .i64 x.con.size) (.int .i64 x.base) (.string x.src) (.int .i64 x.srcn) (.int .i64 x.fence) (b := w2.heap.size) (by omega), HM3.out.2.2.1.far12 (.string x.path) (.int .i64 x.act) (.int .i64 x.ty.base) (.bool x.ty.kw) (.bool x.ty.ex) (.bool x.ty.xe) (.int .u64 x.con.sum) (.int .i64 x.con.size) (.int .i64 x.base) (.string x.src) (.int .i64 x.srcn) (.int .i64 x.fence) (b := w2.heap.size) (by omega), HM3.out.2.2.2.1.far12 (.string x.path) (.int .i64 x.act) (.int .i64 x.ty.base) (.bool x.ty.kw) (.bool x.ty.ex) (.bool x.ty.xe) (.int .u64 x.con.sum) (.int .i64 x.con.size) (.int .i64 x.base) (.string x.src) (.int .i64 x.srcn) (.int .i64 x.fence) (b := w2.heap.size) (by omega), trivial⟩)
    have HX5 := Lib.hid (below_put12 (.string x.path) (.int .i64 x.act) (.int .i64 x.ty.base) (.bool x.ty.kw) (.bool x.ty.ex) (.bool x.ty.xe) (.int .u64 x.con.sum) (.int .i64 x.con.size) (.int .i64 x.base) (.string x.src) (.int .i64 x.srcn) (.int .i64 x.fence) (b := w2.heap.size) HB3.out (by omega))
    go_upto_region 10 with fail
    (generalize World.setCell (World.setCell (World.setCell (World.setCell (World.setCell (World.setCell (World.setCell (World.setCell (World.setCell (World.setCell (World.setCell (World.setCell _ _ _) _ _) _ _) _ _) _ _) _ _) _ _) _ _) _ _) _ _) _ _) _ _ = w4 at *)
    have HM4 := HX4
    have HB4 := HX5
    have lt4 := HM4.out.1.lt
    clear HX4 HX5 HM3 HB3 KE p0 p1 p2 p3 p4 p5 q0 q1 q2 q3 q4 q5 q6 q7 q8 q9 q10 q11 f0 f1 f2 f3 f4 f5 f6 f7 f8 f9 f10 f11 c0 c1 c2 c3 c4 c5 c6 c7 c8 c9 c10 c11
    (obtain ⟨d0, d1⟩ := (HM4.out.2.2.1).c2)
    generalize hu : lastR d t = u at *
    generalize hlt : liveD d t = lt at *
    go_wp2_with fail
    refine (HLT.out _ (HI.out.below HB4.out)).mono ?_
    rintro e w5 ⟨rfl, hb5⟩
    unfold Rev.val Rev.cells
    have HM6 : Hid (Bs [(w5.heap.size, 74, [.string u.path, .int .i64 u.num, .int .i64 u.chg, .int .i64 u.act, .int .i64 u.ty.base, .bool u.ty.kw, .bool u.ty.ex, .bool u.ty.xe, .int .u64 u.con.sum, .int .i64 u.con.size, .string u.src, .int .i64 u.srcn]), (w2.heap.size, 44, [.string x.path, .int .i64 x.act, .int .i64 x.ty.base, .bool x.ty.kw, .bool x.ty.ex, .bool x.ty.xe, .int .u64 x.con.sum, .int .i64 x.con.size, .int .i64 x.base, .string x.src, .int .i64 x.srcn, .int .i64 x.fence]), (w.heap.size + 1 + 1, 41, [.int .i64 0, .string ⟨#[]⟩, .string ⟨#[]⟩, .bool false, .slice none 0 0, .slice none 0 0]), (w.heap.size + 1, 37, [.slice A d.length ca, .slice B nb cb]), (w.heap.size, 41, [.int .i64 pn, .string pc, .string pt, .bool ps, .slice (some ⟨b, off, none⟩) V.length ec, .slice R 0 rc])] (w5.alloc (.cells [.string u.path, .int .i64 u.num, .int .i64 u.chg, .int .i64 u.act, .int .i64 u.ty.base, .bool u.ty.kw, .bool u.ty.ex, .bool u.ty.xe, .int .u64 u.con.sum, .int .i64 u.con.size, .string u.src, .int .i64 u.srcn].toArray 74))) := Bs.cons (Blk.new w5 74 [.string u.path, .int .i64 u.num, .int .i64 u.chg, .int .i64 u.act, .int .i64 u.ty.base, .bool u.ty.kw, .bool u.ty.ex, .bool u.ty.xe, .int .u64 u.con.sum, .int .i64 u.con.size, .string u.src, .int .i64 u.srcn]) ((HM4.out.below hb5).alloc _)
    have HB6 : Hid (Below w.heap.size w (w5.alloc (.cells [.string u.path, .int .i64 u.num, .int .i64 u.chg, .int .i64 u.act, .int .i64 u.ty.base, .bool u.ty.kw, .bool u.ty.ex, .bool u.ty.xe, .int .u64 u.con.sum, .int .i64 u.con.size, .string u.src, .int .i64 u.srcn].toArray 74))) := (HB4.out.trans (hb5.mono HB4.out.size)).alloc (HB4.out.trans (hb5.mono HB4.out.size)).size _
    have hz5 := hb5.size
    clear hb5 HM4 HB4 d0 d1
    go_upto_region 11 with fail
    generalize hw6 : World.alloc w5 (.cells #[.string u.path, .int .i64 u.num, .int .i64 u.chg, .int .i64 u.act, .int .i64 u.ty.base, .bool u.ty.kw, .bool u.ty.ex, .bool u.ty.xe, .int .u64 u.con.sum, .int .i64 u.con.size, .string u.src, .int .i64 u.srcn] 74) = w6 at *
    clear hw6
    have HLTE := Lib.hid hlt
    have HUE := Lib.hid hu
    clear hlt hu
    have lt6 := HM6.out.1.lt
    cases lt
    case true =>
      have hbad : movBad d V s t = true := by
        unfold movBad; rw [HLTE.out]; rfl
      have hqq : q = (zeroP, 183) := by rw [← HQ.out, HQ1.out, if_pos hbad]
      (obtain ⟨z0, z1, z2, z3, z4, z5⟩ := (HM6.out.2.2.1).c6; have f0 := (HM6.out.2.2.1).fz 0; have f1 := (HM6.out.2.2.1).fz 1; have f2 := (HM6.out.2.2.1).fz 2; have f3 := (HM6.out.2.2.1).fz 3; have f4 := (HM6.out.2.2.1).fz 4; have f5 := (HM6.out.2.2.1).fz 5; go_wp2_with fail; have KZ := Lib.hid (zero_put (HM6.out.2.2.1) (.int .i64 0) (.string ⟨#[]⟩) (.string ⟨#[]⟩) (.bool false) (.slice none 0 0) (.slice none 0 0)); have HBZ := Lib.hid (below_put6 (HB6.out) (b := w.heap.size + 1 + 1) (by omega) (.int .i64 0) (.string ⟨#[]⟩) (.string ⟨#[]⟩) (.bool false) (.slice none 0 0) (.slice none 0 0)); generalize World.setCell (World.setCell (World.setCell (World.setCell (World.setCell (World.setCell _ _ _) _ _) _ _) _ _) _ _) _ _ = wz at *; obtain ⟨y0, y1, y2, y3, y4, y5⟩ := KZ.out.c6; exact bodyPost_ret (v := .tuple #[.agg #[.int .i64 0, .string ⟨#[]⟩, .string ⟨#[]⟩, .bool false, .slice none 0 0, .slice none 0 0], .int .i64 _]) (by simp [results, Tryz.results22, go_sem, y0, y1, y2, y3, y4, y5]) rfl (PRet.no (hqq) HBZ.out))
    cases hst : (s.toList == t.toList)
    case true =>
      have hbad : movBad d V s t = true := by
        unfold movBad; rw [← path_tl, hst]; simp
      have hqq : q = (zeroP, 183) := by rw [← HQ.out, HQ1.out, if_pos hbad]
      (obtain ⟨z0, z1, z2, z3, z4, z5⟩ := (HM6.out.2.2.1).c6; have f0 := (HM6.out.2.2.1).fz 0; have f1 := (HM6.out.2.2.1).fz 1; have f2 := (HM6.out.2.2.1).fz 2; have f3 := (HM6.out.2.2.1).fz 3; have f4 := (HM6.out.2.2.1).fz 4; have f5 := (HM6.out.2.2.1).fz 5; go_wp2_with fail; have KZ := Lib.hid (zero_put (HM6.out.2.2.1) (.int .i64 0) (.string ⟨#[]⟩) (.string ⟨#[]⟩) (.bool false) (.slice none 0 0) (.slice none 0 0)); have HBZ := Lib.hid (below_put6 (HB6.out) (b := w.heap.size + 1 + 1) (by omega) (.int .i64 0) (.string ⟨#[]⟩) (.string ⟨#[]⟩) (.bool false) (.slice none 0 0) (.slice none 0 0)); generalize World.setCell (World.setCell (World.setCell (World.setCell (World.setCell (World.setCell _ _ _) _ _) _ _) _ _) _ _) _ _ = wz at *; obtain ⟨y0, y1, y2, y3, y4, y5⟩ := KZ.out.c6; exact bodyPost_ret (v := .tuple #[.agg #[.int .i64 0, .string ⟨#[]⟩, .string ⟨#[]⟩, .bool false, .slice none 0 0, .slice none 0 0], .int .i64 _]) (by simp [results, Tryz.results22, go_sem, y0, y1, y2, y3, y4, y5]) rfl (PRet.no (hqq) HBZ.out))
    have hne : (s == t) = false := by rw [← path_tl]; exact hst
    have HNE := Lib.hid hne
    clear hne
    (obtain ⟨p0, p1, p2, p3, p4, p5⟩ := (HM6.out.2.2.2.2.1).c6)
    (obtain ⟨d0, d1⟩ := (HM6.out.2.2.2.1).c2)
    obtain ⟨q0, q1, q2, q3, q4, q5, q6, q7, q8, q9, q10, q11⟩ := HM6.out.2.1.c12
    go_wp2_with fail
    refine (HMV.out (some x) _ (HI.out.below HB6.out)).mono ?_
    rintro e w7 ⟨rfl, hb7⟩
    have HM7 := Lib.hid (HM6.out.below hb7)
    have HB7 := Lib.hid (HB6.out.trans (hb7.mono HB6.out.size))
    have hz7 := hb7.size
    clear hb7 HM6 HB6 p0 p1 p2 p3 p4 p5 q0 q1 q2 q3 q4 q5 q6 q7 q8 q9 q10 q11 d0 d1 hst
    cases hmv : movB d s (some x)
    case false =>
      have hbad : movBad d V s t = true := by
        unfold movBad; rw [HF.out]; unfold movB at hmv; cases h3 : (x.act == 3) <;> cases h5 : (x.act == 5) <;> simp_all
      have hqq : q = (zeroP, 183) := by rw [← HQ.out, HQ1.out, if_pos hbad]
      (obtain ⟨z0, z1, z2, z3, z4, z5⟩ := (HM7.out.2.2.1).c6; have f0 := (HM7.out.2.2.1).fz 0; have f1 := (HM7.out.2.2.1).fz 1; have f2 := (HM7.out.2.2.1).fz 2; have f3 := (HM7.out.2.2.1).fz 3; have f4 := (HM7.out.2.2.1).fz 4; have f5 := (HM7.out.2.2.1).fz 5; go_wp2_with fail; have KZ := Lib.hid (zero_put (HM7.out.2.2.1) (.int .i64 0) (.string ⟨#[]⟩) (.string ⟨#[]⟩) (.bool false) (.slice none 0 0) (.slice none 0 0)); have HBZ := Lib.hid (below_put6 (HB7.out) (b := w.heap.size + 1 + 1) (by omega) (.int .i64 0) (.string ⟨#[]⟩) (.string ⟨#[]⟩) (.bool false) (.slice none 0 0) (.slice none 0 0)); generalize World.setCell (World.setCell (World.setCell (World.setCell (World.setCell (World.setCell _ _ _) _ _) _ _) _ _) _ _) _ _ = wz at *; obtain ⟨y0, y1, y2, y3, y4, y5⟩ := KZ.out.c6; exact bodyPost_ret (v := .tuple #[.agg #[.int .i64 0, .string ⟨#[]⟩, .string ⟨#[]⟩, .bool false, .slice none 0 0, .slice none 0 0], .int .i64 _]) (by simp [results, Tryz.results22, go_sem, y0, y1, y2, y3, y4, y5]) rfl (PRet.no (hqq) HBZ.out))
    have HOKB : Hid (movBad d V s t = false) := by
      show _ = _
      unfold movBad
      rw [HF.out, HLTE.out, HNE.out]
      unfold movB at hmv; simp only [Bool.and_eq_true, bne_iff_ne, ne_eq] at hmv; simp [hmv.1, hmv.2]
    have HMVX := Lib.hid hmv
    clear hmv HMV HLT HLTE
    (obtain ⟨p0, p1, p2, p3, p4, p5⟩ := (HM7.out.2.2.2.2.1).c6)
    go_wp2_with fail
    refine (HCO.out _ (HIE.out.below HB7.out)).mono ?_
    rintro e w8 ⟨A8, c8, R8, r8, rfl, ho8, hb8⟩
    unfold pndV pndC
    dsimp only at ho8 ⊢
    have HO8 := Lib.hid ho8
    have HM8 := Lib.hid (HM7.out.below hb8)
    have HB8 := Lib.hid (HB7.out.trans (hb8.mono HB7.out.size))
    have hz8 := hb8.size
    clear hb8 ho8 HM7 HB7 HCO p0 p1 p2 p3 p4 p5
    go_upto_region 14 with fail
    have HM9 : Hid (Bs [(w8.heap.size, 41, [.int .i64 pn, .string pc, .string pt, .bool ps, .slice A8 V.length c8, .slice R8 0 r8]), (w5.heap.size, 74, [.string u.path, .int .i64 u.num, .int .i64 u.chg, .int .i64 u.act, .int .i64 u.ty.base, .bool u.ty.kw, .bool u.ty.ex, .bool u.ty.xe, .int .u64 u.con.sum, .int .i64 u.con.size, .string u.src, .int .i64 u.srcn]), (w2.heap.size, 44, [.string x.path, .int .i64 x.act, .int .i64 x.ty.base, .bool x.ty.kw, .bool x.ty.ex, .bool x.ty.xe, .int .u64 x.con.sum, .int .i64 x.con.size, .int .i64 x.base, .string x.src, .int .i64 x.srcn, .int .i64 x.fence]), (w.heap.size + 1 + 1, 41, [.int .i64 0, .string ⟨#[]⟩, .string ⟨#[]⟩, .bool false, .slice none 0 0, .slice none 0 0]), (w.heap.size + 1, 37, [.slice A d.length ca, .slice B nb cb]), (w.heap.size, 41, [.int .i64 pn, .string pc, .string pt, .bool ps, .slice (some ⟨b, off, none⟩) V.length ec, .slice R 0 rc])] (w8.alloc (.cells [.int .i64 pn, .string pc, .string pt, .bool ps, .slice A8 V.length c8, .slice R8 0 r8].toArray 41))) := Bs.cons (Blk.new w8 41 [.int .i64 pn, .string pc, .string pt, .bool ps, .slice A8 V.length c8, .slice R8 0 r8]) (HM8.out.alloc _)
    have HB9 := Lib.hid (HB8.out.alloc HB8.out.size (.cells [.int .i64 pn, .string pc, .string pt, .bool ps, .slice A8 V.length c8, .slice R8 0 r8].toArray 41))
    have HO9 := Lib.hid (HO8.out.alloc (.cells [.int .i64 pn, .string pc, .string pt, .bool ps, .slice A8 V.length c8, .slice R8 0 r8].toArray 41))
    have HL8 := Lib.hid HO8.out.lt
    generalize hw9 : World.alloc w8 (.cells #[.int .i64 pn, .string pc, .string pt, .bool ps, .slice A8 V.length c8, .slice R8 0 r8] 41) = w9 at *
    clear hw9 HM8 HB8 HO8
    have lt9 := HM9.out.1.lt
    have hsw : w.heap.size ≤ w7.heap.size := by omega
    obtain ⟨g, hA8, hgb, hgl⟩ : ∃ g, A8 = some ⟨g, 0, none⟩ ∧ w7.heap.size ≤ g ∧ g < w8.heap.size := by
      rcases ownsRow_cases HO9.out with ⟨h1, h2⟩ | ⟨g, cap, h1, h2, h3, _⟩
      · omega
      · injection h1 with h1
        refine ⟨g, h1, h2, ?_⟩
        exact (HL8.out g (by rw [h1]; rfl)).2
    subst hA8
    have HD := delE_any V g c8 k w7.heap.size w9 HO9.out hkl (by omega)
    obtain ⟨L10, hL10⟩ : ∃ L, V.take k ++ V.drop (k + 1) = L := ⟨_, rfl⟩
    have hln : V.length - 1 = L10.length := by
      rw [← hL10, List.length_append, List.length_take, List.length_drop]
      omega
    rw [hL10, hln] at HD
    have HDE : Hid (delE V s = L10) := by
      show _ = _
      rw [← hL10, ← HKE.out, posP_has HOK.out.pl HF.out]
      rfl
    have HDD := Lib.hid HD
    clear HD hL10
    obtain ⟨p0, p1, p2, p3, p4, p5⟩ := HM9.out.1.c6
    go_wp2_with fail
    refine HDD.out.mono ?_
    rintro e w10 ⟨rfl, ho10, hk10, hb10⟩
    have HM10 : Hid (Bs [(w8.heap.size, 41, [.int .i64 pn, .string pc, .string pt, .bool ps, .slice (some ⟨g, 0, none⟩) V.length c8, .slice R8 0 r8]), (w5.heap.size, 74, [.string u.path, .int .i64 u.num, .int .i64 u.chg, .int .i64 u.act, .int .i64 u.ty.base, .bool u.ty.kw, .bool u.ty.ex, .bool u.ty.xe, .int .u64 u.con.sum, .int .i64 u.con.size, .string u.src, .int .i64 u.srcn]), (w2.heap.size, 44, [.string x.path, .int .i64 x.act, .int .i64 x.ty.base, .bool x.ty.kw, .bool x.ty.ex, .bool x.ty.xe, .int .u64 x.con.sum, .int .i64 x.con.size, .int .i64 x.base, .string x.src, .int .i64 x.srcn, .int .i64 x.fence]), (w.heap.size + 1 + 1, 41, [.int .i64 0, .string ⟨#[]⟩, .string ⟨#[]⟩, .bool false, .slice none 0 0, .slice none 0 0]), (w.heap.size + 1, 37, [.slice A d.length ca, .slice B nb cb]), (w.heap.size, 41, [.int .i64 pn, .string pc, .string pt, .bool ps, .slice (some ⟨b, off, none⟩) V.length ec, .slice R 0 rc])] w10) := HM9.out.of (fun x hx => hk10.out _ (by
      simp only [List.mem_cons, List.not_mem_nil, or_false] at hx
      rcases hx with rfl | rfl | rfl | rfl | rfl | rfl <;> dsimp only <;> omega))
    have HB10 := Lib.hid (HB9.out.trans (hb10.mono hsw))
    have HO10 := Lib.hid ho10
    have hz10 := hb10.size
    clear hb10 ho10 hk10 HDD HM9 HB9 HO9 p0 p1 p2 p3 p4 p5
    obtain ⟨p0, p1, p2, p3, p4, p5⟩ := HM10.out.1.c6
    have g4 := HM10.out.1.fz 4
    have HMP := Lib.hid (show Bs [(w8.heap.size, 41, [.int .i64 pn, .string pc, .string pt, .bool ps, .slice (some ⟨g, 0, none⟩) (L10).length c8, .slice R8 0 r8]), (w5.heap.size, 74, [.string u.path, .int .i64 u.num, .int .i64 u.chg, .int .i64 u.act, .int .i64 u.ty.base, .bool u.ty.kw, .bool u.ty.ex, .bool u.ty.xe, .int .u64 u.con.sum, .int .i64 u.con.size, .string u.src, .int .i64 u.srcn]), (w2.heap.size, 44, [.string x.path, .int .i64 x.act, .int .i64 x.ty.base, .bool x.ty.kw, .bool x.ty.ex, .bool x.ty.xe, .int .u64 x.con.sum, .int .i64 x.con.size, .int .i64 x.base, .string x.src, .int .i64 x.srcn, .int .i64 x.fence]), (w.heap.size + 1 + 1, 41, [.int .i64 0, .string ⟨#[]⟩, .string ⟨#[]⟩, .bool false, .slice none 0 0, .slice none 0 0]), (w.heap.size + 1, 37, [.slice A d.length ca, .slice B nb cb]), (w.heap.size, 41, [.int .i64 pn, .string pc, .string pt, .bool ps, .slice (some ⟨b, off, none⟩) V.length ec, .slice R 0 rc])] _ from ⟨HM10.out.1.set 4 (.slice (some ⟨g, 0, none⟩) (L10).length c8), HM10.out.2.1.far (p := ⟨w8.heap.size, 4, none⟩) (by dsimp only; omega) (.slice (some ⟨g, 0, none⟩) (L10).length c8), HM10.out.2.2.1.far (p := ⟨w8.heap.size, 4, none⟩) (by dsimp only; omega) (.slice (some ⟨g, 0, none⟩) (L10).length c8), HM10.out.2.2.2.1.far (p := ⟨w8.heap.size, 4, none⟩) (by dsimp only; omega) (.slice (some ⟨g, 0, none⟩) (L10).length c8), HM10.out.2.2.2.2.1.far (p := ⟨w8.heap.size, 4, none⟩) (by dsimp only; omega) (.slice (some ⟨g, 0, none⟩) (L10).length c8), HM10.out.2.2.2.2.2.1.far (p := ⟨w8.heap.size, 4, none⟩) (by dsimp only; omega) (.slice (some ⟨g, 0, none⟩) (L10).length c8), trivial⟩)
    have HBP := Lib.hid (HB10.out.setCell (p := ⟨w8.heap.size, 4, none⟩) (by dsimp only; omega) (.slice (some ⟨g, 0, none⟩) (L10).length c8))
    have HOP := Lib.hid (own_setC HO10.out (p := ⟨w8.heap.size, 4, none⟩) (by intro e; injection e with e; dsimp only at e; omega) (.slice (some ⟨g, 0, none⟩) (L10).length c8))
    go_upto_region 16 with fail
    (generalize World.setCell _ _ _ = w11 at *)
    have HM11 := HMP
    have HB11 := HBP
    have HO11 := HOP
    have lt11 := HM11.out.1.lt
    clear HMP HBP HOP HM10 HB10 HO10 p0 p1 p2 p3 p4 p5 g4
    have HEP : Hid (EPl L10) := by
      show EPl _
      rw [← HDE.out]
      exact HOK.out.pl.sub (del_sublist V s)
    have HFN : Hid (∀ y ∈ L10, y.path ≠ s) := fun y hy => by
      rw [← HDE.out] at hy
      exact ((mem_del HOK.out.srt HF.out).1 hy).2
    have hl10 : L10.length < 64 := by omega
    by_cases h2 : x.act = 2
    · have h2b : (x.act == 2) = true := by simpa using h2
      have h2c : decide (x.act = 2) = true := by simpa using h2
      have H2 := Lib.hid h2
      clear h2
      obtain ⟨q0, q1, q2, q3, q4, q5, q6, q7, q8, q9, q10, q11⟩ := HM11.out.2.2.1.c12
      (obtain ⟨d0, d1⟩ := (HM11.out.2.2.2.2.1).c2)
      go_wp2_with fail
      refine (HLA.out _ (HI.out.below HB11.out)).mono ?_
      rintro e w12 ⟨rfl, hb12⟩
      generalize hv : lastR d s = v at *
      have HVE := Lib.hid hv
      clear hv
      unfold Rev.val Rev.cells
      have HM13 : Hid (Bs [(w12.heap.size, 74, [.string v.path, .int .i64 v.num, .int .i64 v.chg, .int .i64 v.act, .int .i64 v.ty.base, .bool v.ty.kw, .bool v.ty.ex, .bool v.ty.xe, .int .u64 v.con.sum, .int .i64 v.con.size, .string v.src, .int .i64 v.srcn]), (w8.heap.size, 41, [.int .i64 pn, .string pc, .string pt, .bool ps, .slice (some ⟨g, 0, none⟩) (L10).length c8, .slice R8 0 r8]), (w5.heap.size, 74, [.string u.path, .int .i64 u.num, .int .i64 u.chg, .int .i64 u.act, .int .i64 u.ty.base, .bool u.ty.kw, .bool u.ty.ex, .bool u.ty.xe, .int .u64 u.con.sum, .int .i64 u.con.size, .string u.src, .int .i64 u.srcn]), (w2.heap.size, 44, [.string x.path, .int .i64 x.act, .int .i64 x.ty.base, .bool x.ty.kw, .bool x.ty.ex, .bool x.ty.xe, .int .u64 x.con.sum, .int .i64 x.con.size, .int .i64 x.base, .string x.src, .int .i64 x.srcn, .int .i64 x.fence]), (w.heap.size + 1 + 1, 41, [.int .i64 0, .string ⟨#[]⟩, .string ⟨#[]⟩, .bool false, .slice none 0 0, .slice none 0 0]), (w.heap.size + 1, 37, [.slice A d.length ca, .slice B nb cb]), (w.heap.size, 41, [.int .i64 pn, .string pc, .string pt, .bool ps, .slice (some ⟨b, off, none⟩) V.length ec, .slice R 0 rc])] (w12.alloc (.cells [.string v.path, .int .i64 v.num, .int .i64 v.chg, .int .i64 v.act, .int .i64 v.ty.base, .bool v.ty.kw, .bool v.ty.ex, .bool v.ty.xe, .int .u64 v.con.sum, .int .i64 v.con.size, .string v.src, .int .i64 v.srcn].toArray 74))) := Bs.cons (Blk.new w12 74 [.string v.path, .int .i64 v.num, .int .i64 v.chg, .int .i64 v.act, .int .i64 v.ty.base, .bool v.ty.kw, .bool v.ty.ex, .bool v.ty.xe, .int .u64 v.con.sum, .int .i64 v.con.size, .string v.src, .int .i64 v.srcn]) ((HM11.out.below hb12).alloc _)
      have HB13 : Hid (Below w.heap.size w (w12.alloc (.cells [.string v.path, .int .i64 v.num, .int .i64 v.chg, .int .i64 v.act, .int .i64 v.ty.base, .bool v.ty.kw, .bool v.ty.ex, .bool v.ty.xe, .int .u64 v.con.sum, .int .i64 v.con.size, .string v.src, .int .i64 v.srcn].toArray 74))) := (HB11.out.trans (hb12.mono HB11.out.size)).alloc (HB11.out.trans (hb12.mono HB11.out.size)).size _
      have HO13 : Hid ((w12.alloc (.cells [.string v.path, .int .i64 v.num, .int .i64 v.chg, .int .i64 v.act, .int .i64 v.ty.base, .bool v.ty.kw, .bool v.ty.ex, .bool v.ty.xe, .int .u64 v.con.sum, .int .i64 v.con.size, .string v.src, .int .i64 v.srcn].toArray 74)).ownsRow w7.heap.size 44 12 (.slice (some ⟨g, 0, none⟩) (L10).length c8) (L10).length (edtK.flat (L10))) := (ownsRow_below HO11.out hb12).alloc _
      have hz12 := hb12.size
      clear hb12 HM11 HB11 HO11 d0 d1
      go_upto_region 18 with fail
      generalize hw13 : World.alloc w12 (.cells #[.string v.path, .int .i64 v.num, .int .i64 v.chg, .int .i64 v.act, .int .i64 v.ty.base, .bool v.ty.kw, .bool v.ty.ex, .bool v.ty.xe, .int .u64 v.con.sum, .int .i64 v.con.size, .string v.src, .int .i64 v.srcn] 74) = w13 at *
      clear hw13
      have lt13 := HM13.out.1.lt
      clear q0 q1 q2 q3 q4 q5 q6 q7 q8 q9 q10 q11
      obtain ⟨p0, p1, p2, p3, p4, p5⟩ := HM13.out.2.1.c6
      have g4 := HM13.out.2.1.fz 4
      obtain ⟨y0, y1, y2, y3, y4, y5, y6, y7, y8, y9, y10, y11⟩ := HM13.out.1.c12
      have HW := with_any (L10) ⟨s, 5, v.ty, zeroCon, v.num, ⟨#[]⟩, 0, 0⟩ (some ⟨g, 0, none⟩) c8 w13 (RowK.In.of_row HO13.out) HEP.out HUS.out
      obtain ⟨L14, hL14⟩ : ∃ L, insE (L10) ⟨s, 5, v.ty, zeroCon, v.num, ⟨#[]⟩, 0, 0⟩ = L := ⟨_, rfl⟩
      rw [hL14] at HW
      have HLE14 := Lib.hid hL14
      clear hL14
      unfold Edt.val Edt.cells at HW
      dsimp only [zeroTy, zeroCon] at HW
      have HWW := Lib.hid HW
      clear HW
      go_wp2_with fail
      refine HWW.out.mono ?_
      rintro e w14 ⟨v14, rfl, ho14, hb14⟩
      obtain ⟨A14, c14, rfl⟩ := own_slice ho14
      have HM14 := Lib.hid (HM13.out.below hb14)
      have HB14 := Lib.hid (HB13.out.trans (hb14.mono HB13.out.size))
      have HO14 := Lib.hid ho14
      have hz14 := hb14.size
      clear hb14 ho14 HWW HM13 HB13 HO13 p0 p1 p2 p3 p4 p5 g4 y0 y1 y2 y3 y4 y5 y6 y7 y8 y9 y10 y11
      obtain ⟨p0, p1, p2, p3, p4, p5⟩ := HM14.out.2.1.c6
      have g4 := HM14.out.2.1.fz 4
      have HMP := Lib.hid (show Bs [(w12.heap.size, 74, [.string v.path, .int .i64 v.num, .int .i64 v.chg, .int .i64 v.act, .int .i64 v.ty.base, .bool v.ty.kw, .bool v.ty.ex, .bool v.ty.xe, .int .u64 v.con.sum, .int .i64 v.con.size, .string v.src, .int .i64 v.srcn]), (w8.heap.size, 41, [.int .i64 pn, .string pc, .string pt, .bool ps, .slice A14 (L14).length c14, .slice R8 0 r8]), (w5.heap.size, 74, [.string u.path, .int .i64 u.num, .int .i64 u.chg, .int .i64 u.act, .int .i64 u.ty.base, .bool u.ty.kw, .bool u.ty.ex, .bool u.ty.xe, .int .u64 u.con.sum, .int .i64 u.con.size, .string u.src, .int .i64 u.srcn]), (w2.heap.size, 44, [.string x.path, .int .i64 x.act, .int .i64 x.ty.base, .bool x.ty.kw, .bool x.ty.ex, .bool x.ty.xe, .int .u64 x.con.sum, .int .i64 x.con.size, .int .i64 x.base, .string x.src, .int .i64 x.srcn, .int .i64 x.fence]), (w.heap.size + 1 + 1, 41, [.int .i64 0, .string ⟨#[]⟩, .string ⟨#[]⟩, .bool false, .slice none 0 0, .slice none 0 0]), (w.heap.size + 1, 37, [.slice A d.length ca, .slice B nb cb]), (w.heap.size, 41, [.int .i64 pn, .string pc, .string pt, .bool ps, .slice (some ⟨b, off, none⟩) V.length ec, .slice R 0 rc])] _ from ⟨HM14.out.1.far (p := ⟨w8.heap.size, 4, none⟩) (by dsimp only; omega) (.slice A14 (L14).length c14), HM14.out.2.1.set 4 (.slice A14 (L14).length c14), HM14.out.2.2.1.far (p := ⟨w8.heap.size, 4, none⟩) (by dsimp only; omega) (.slice A14 (L14).length c14), HM14.out.2.2.2.1.far (p := ⟨w8.heap.size, 4, none⟩) (by dsimp only; omega) (.slice A14 (L14).length c14), HM14.out.2.2.2.2.1.far (p := ⟨w8.heap.size, 4, none⟩) (by dsimp only; omega) (.slice A14 (L14).length c14), HM14.out.2.2.2.2.2.1.far (p := ⟨w8.heap.size, 4, none⟩) (by dsimp only; omega) (.slice A14 (L14).length c14), HM14.out.2.2.2.2.2.2.1.far (p := ⟨w8.heap.size, 4, none⟩) (by dsimp only; omega) (.slice A14 (L14).length c14), trivial⟩)
      have HBP := Lib.hid (HB14.out.setCell (p := ⟨w8.heap.size, 4, none⟩) (by dsimp only; omega) (.slice A14 (L14).length c14))
      have HOP := Lib.hid (own_set_below HO14.out (p := ⟨w8.heap.size, 4, none⟩) (by dsimp only; omega) (.slice A14 (L14).length c14))
      go_upto_region 21 with fail
      (generalize World.setCell _ _ _ = w15 at *)
      have HM15 := HMP
      have HB15 := HBP
      have HO15 := HOP
      have lt15 := HM15.out.1.lt
      clear HMP HBP HOP HM14 HB14 HO14 p0 p1 p2 p3 p4 p5 g4
      obtain ⟨f0, f1, f2, f3, f4, f5, f6, f7, f8, f9, f10, f11⟩ := HM15.out.2.2.2.1.f12
      obtain ⟨z0, z1, z2, z3, z4, z5, z6, z7, z8, z9, z10, z11⟩ := HM15.out.2.2.2.1.c12
      obtain ⟨y0, y1, y2, y3, y4, y5, y6, y7, y8, y9, y10, y11⟩ := HM15.out.1.c12
      have HMP := Lib.hid (show Bs [(w12.heap.size, 74, [.string v.path, .int .i64 v.num, .int .i64 v.chg, .int .i64 v.act, .int .i64 v.ty.base, .bool v.ty.kw, .bool v.ty.ex, .bool v.ty.xe, .int .u64 v.con.sum, .int .i64 v.con.size, .string v.src, .int .i64 v.srcn]), (w8.heap.size, 41, [.int .i64 pn, .string pc, .string pt, .bool ps, .slice A14 (L14).length c14, .slice R8 0 r8]), (w5.heap.size, 74, [.string u.path, .int .i64 u.num, .int .i64 u.chg, .int .i64 u.act, .int .i64 u.ty.base, .bool u.ty.kw, .bool u.ty.ex, .bool u.ty.xe, .int .u64 u.con.sum, .int .i64 u.con.size, .string u.src, .int .i64 u.srcn]), (w2.heap.size, 44, [.string ⟨#[]⟩, .int .i64 4, .int .i64 x.ty.base, .bool x.ty.kw, .bool x.ty.ex, .bool x.ty.xe, .int .u64 x.con.sum, .int .i64 x.con.size, .int .i64 0, .string s, .int .i64 v.num, .int .i64 0]), (w.heap.size + 1 + 1, 41, [.int .i64 0, .string ⟨#[]⟩, .string ⟨#[]⟩, .bool false, .slice none 0 0, .slice none 0 0]), (w.heap.size + 1, 37, [.slice A d.length ca, .slice B nb cb]), (w.heap.size, 41, [.int .i64 pn, .string pc, .string pt, .bool ps, .slice (some ⟨b, off, none⟩) V.length ec, .slice R 0 rc])] _ from ⟨HM15.out.1.far12 (.string ⟨#[]⟩) (.int .i64 4) (.int .i64 x.ty.base) (.bool x.ty.kw) (.bool x.ty.ex) (.bool x.ty.xe) (.int .u64 x.con.sum) (.int .i64 x.con.size) (.int .i64 0) (.string s) (.int .i64 v.num) (.int .i64 0) (b := w2.heap.size) (by omega), HM15.out.2.1.far12 (.string ⟨#[]⟩) (.int .i64 4) (.int .i64 x.ty.base) (.bool x.ty.kw) (.bool x.ty.ex) (.bool x.ty.xe) (.int .u64 x.con.sum) (.int .i64 x.con.size) (.int .i64 0) (.string s) (.int .i64 v.num) (.int .i64 0) (b := w2.heap.size) (by omega), HM15.out.2.2.1.far12 (.string ⟨#[]⟩) (.int .i64 4) (.int .i64 x.ty.base) (.bool x.ty.kw) (.bool x.ty.ex) (.bool x.ty.xe) (.int .u64 x.con.sum) (.int .i64 x.con.size) (.int .i64 0) (.string s) (.int .i64 v.num) (.int .i64 0) (b := w2.heap.size) (by omega), HM15.out.2.2.2.1.put12 (.string ⟨#[]⟩) (.int .i64 4) (.int .i64 x.ty.base) (.bool x.ty.kw) (.bool x.ty.ex) (.bool x.ty.xe) (.int .u64 x.con.sum) (.int .i64 x.con.size) (.int .i64 0) (.string s) (.int .i64 v.num) (.int .i64 0), HM15.out.2.2.2.2.1.far12 (.string ⟨#[]⟩) (.int .i64 4) (.int .i64 x.ty.base) (.bool x.ty.kw) (.bool x.ty.ex) (.bool x.ty.xe) (.int .u64 x.con.sum) (.int .i64 x.con.size) (.int .i64 0) (.string s) (.int .i64 v.num) (.int .i64 0) (b := w2.heap.size) (by omega), HM15.out.2.2.2.2.2.1.far12 (.string ⟨#[]⟩) (.int .i64 4) (.int .i64 x.ty.base) (.bool x.ty.kw) (.bool x.ty.ex) (.bool x.ty.xe) (.int .u64 x.con.sum) (.int .i64 x.con.size) (.int .i64 0) (.string s) (.int .i64 v.num) (.int .i64 0) (b := w2.heap.size) (by omega), HM15.out.2.2.2.2.2.2.1.far12 (.string ⟨#[]⟩) (.int .i64 4) (.int .i64 x.ty.base) (.bool x.ty.kw) (.bool x.ty.ex) (.bool x.ty.xe) (.int .u64 x.con.sum) (.int .i64 x.con.size) (.int .i64 0) (.string s) (.int .i64 v.num) (.int .i64 0) (b := w2.heap.size) (by omega), trivial⟩)
      have HBP := Lib.hid (below_put12 (.string ⟨#[]⟩) (.int .i64 4) (.int .i64 x.ty.base) (.bool x.ty.kw) (.bool x.ty.ex) (.bool x.ty.xe) (.int .u64 x.con.sum) (.int .i64 x.con.size) (.int .i64 0) (.string s) (.int .i64 v.num) (.int .i64 0) (b := w2.heap.size) HB15.out (by omega))
      have HOP := Lib.hid (own_put12 (.string ⟨#[]⟩) (.int .i64 4) (.int .i64 x.ty.base) (.bool x.ty.kw) (.bool x.ty.ex) (.bool x.ty.xe) (.int .u64 x.con.sum) (.int .i64 x.con.size) (.int .i64 0) (.string s) (.int .i64 v.num) (.int .i64 0) (b := w2.heap.size) HO15.out (by intro e; have := HO15.out.lt _ e; omega))
      go_upto_region 22 with fail
      (generalize World.setCell (World.setCell (World.setCell (World.setCell (World.setCell (World.setCell (World.setCell (World.setCell (World.setCell (World.setCell (World.setCell (World.setCell _ _ _) _ _) _ _) _ _) _ _) _ _) _ _) _ _) _ _) _ _) _ _) _ _ = w16 at *)
      have HM16 := HMP
      have HB16 := HBP
      have HO16 := HOP
      have lt16 := HM16.out.1.lt
      clear HMP HBP HOP HM15 HB15 HO15 f0 f1 f2 f3 f4 f5 f6 f7 f8 f9 f10 f11 z0 z1 z2 z3 z4 z5 z6 z7 z8 z9 z10 z11 y0 y1 y2 y3 y4 y5 y6 y7 y8 y9 y10 y11
      -- MARKF
      obtain ⟨f0, f1, f2, f3, f4, f5, f6, f7, f8, f9, f10, f11⟩ := HM16.out.2.2.2.1.f12
      obtain ⟨z0, z1, z2, z3, z4, z5, z6, z7, z8, z9, z10, z11⟩ := HM16.out.2.2.2.1.c12
      obtain ⟨y0, y1, y2, y3, y4, y5, y6, y7, y8, y9, y10, y11⟩ := HM16.out.2.2.1.c12
      have HMP := Lib.hid (Bs.drew (show Bs [(w12.heap.size, 74, [.string v.path, .int .i64 v.num, .int .i64 v.chg, .int .i64 v.act, .int .i64 v.ty.base, .bool v.ty.kw, .bool v.ty.ex, .bool v.ty.xe, .int .u64 v.con.sum, .int .i64 v.con.size, .string v.src, .int .i64 v.srcn]), (w8.heap.size, 41, [.int .i64 pn, .string pc, .string pt, .bool ps, .slice A14 (L14).length c14, .slice R8 0 r8]), (w5.heap.size, 74, [.string u.path, .int .i64 u.num, .int .i64 u.chg, .int .i64 u.act, .int .i64 u.ty.base, .bool u.ty.kw, .bool u.ty.ex, .bool u.ty.xe, .int .u64 u.con.sum, .int .i64 u.con.size, .string u.src, .int .i64 u.srcn]), (w2.heap.size, 44, [.string t, .int .i64 4, .int .i64 x.ty.base, .bool x.ty.kw, .bool x.ty.ex, .bool x.ty.xe, .int .u64 x.con.sum, .int .i64 x.con.size, .int .i64 u.num, .string s, .int .i64 v.num, .int .i64 0]), (w.heap.size + 1 + 1, 41, [.int .i64 0, .string ⟨#[]⟩, .string ⟨#[]⟩, .bool false, .slice none 0 0, .slice none 0 0]), (w.heap.size + 1, 37, [.slice A d.length ca, .slice B nb cb]), (w.heap.size, 41, [.int .i64 pn, .string pc, .string pt, .bool ps, .slice (some ⟨b, off, none⟩) V.length ec, .slice R 0 rc])] _ from ⟨(HM16.out.1.far (p := ⟨w2.heap.size, 0, none⟩) (by dsimp only; omega) (.string t)).far (p := ⟨w2.heap.size, 8, none⟩) (by dsimp only; omega) (.int .i64 u.num), (HM16.out.2.1.far (p := ⟨w2.heap.size, 0, none⟩) (by dsimp only; omega) (.string t)).far (p := ⟨w2.heap.size, 8, none⟩) (by dsimp only; omega) (.int .i64 u.num), (HM16.out.2.2.1.far (p := ⟨w2.heap.size, 0, none⟩) (by dsimp only; omega) (.string t)).far (p := ⟨w2.heap.size, 8, none⟩) (by dsimp only; omega) (.int .i64 u.num), (HM16.out.2.2.2.1.set 0 (.string t)).set 8 (.int .i64 u.num), (HM16.out.2.2.2.2.1.far (p := ⟨w2.heap.size, 0, none⟩) (by dsimp only; omega) (.string t)).far (p := ⟨w2.heap.size, 8, none⟩) (by dsimp only; omega) (.int .i64 u.num), (HM16.out.2.2.2.2.2.1.far (p := ⟨w2.heap.size, 0, none⟩) (by dsimp only; omega) (.string t)).far (p := ⟨w2.heap.size, 8, none⟩) (by dsimp only; omega) (.int .i64 u.num), (HM16.out.2.2.2.2.2.2.1.far (p := ⟨w2.heap.size, 0, none⟩) (by dsimp only; omega) (.string t)).far (p := ⟨w2.heap.size, 8, none⟩) (by dsimp only; omega) (.int .i64 u.num), trivial⟩))
      have HBP := Lib.hid (((HB16.out.setCell (p := ⟨w2.heap.size, 0, none⟩) (by dsimp only; omega) (.string t)).setCell (p := ⟨w2.heap.size, 8, none⟩) (by dsimp only; omega) (.int .i64 u.num)).drew)
      have HOP := Lib.hid (World.ownsRow.drew (own_setC (own_setC HO16.out (p := ⟨w2.heap.size, 0, none⟩) (by intro e; have := HO16.out.lt _ e; dsimp only at this; omega) (.string t)) (p := ⟨w2.heap.size, 8, none⟩) (by intro e; have := HO16.out.lt _ e; dsimp only at this; omega) (.int .i64 u.num)))
      -- MARKD
      go_wp2_with fail
      go_region
      -- MARKE
      obtain ⟨w17, hw17⟩ : ∃ x, x = ((w16.setCell ⟨w2.heap.size, 0, none⟩ (.string t)).setCell ⟨w2.heap.size, 8, none⟩ (.int .i64 u.num)).drew := ⟨_, rfl⟩
      have HM17 : Hid (Bs [(w12.heap.size, 74, [.string v.path, .int .i64 v.num, .int .i64 v.chg, .int .i64 v.act, .int .i64 v.ty.base, .bool v.ty.kw, .bool v.ty.ex, .bool v.ty.xe, .int .u64 v.con.sum, .int .i64 v.con.size, .string v.src, .int .i64 v.srcn]), (w8.heap.size, 41, [.int .i64 pn, .string pc, .string pt, .bool ps, .slice A14 (L14).length c14, .slice R8 0 r8]), (w5.heap.size, 74, [.string u.path, .int .i64 u.num, .int .i64 u.chg, .int .i64 u.act, .int .i64 u.ty.base, .bool u.ty.kw, .bool u.ty.ex, .bool u.ty.xe, .int .u64 u.con.sum, .int .i64 u.con.size, .string u.src, .int .i64 u.srcn]), (w2.heap.size, 44, [.string t, .int .i64 4, .int .i64 x.ty.base, .bool x.ty.kw, .bool x.ty.ex, .bool x.ty.xe, .int .u64 x.con.sum, .int .i64 x.con.size, .int .i64 u.num, .string s, .int .i64 v.num, .int .i64 0]), (w.heap.size + 1 + 1, 41, [.int .i64 0, .string ⟨#[]⟩, .string ⟨#[]⟩, .bool false, .slice none 0 0, .slice none 0 0]), (w.heap.size + 1, 37, [.slice A d.length ca, .slice B nb cb]), (w.heap.size, 41, [.int .i64 pn, .string pc, .string pt, .bool ps, .slice (some ⟨b, off, none⟩) V.length ec, .slice R 0 rc])] w17) := by rw [hw17]; exact HMP.out
      have HB17 : Hid (Below w.heap.size w w17) := by rw [hw17]; exact HBP.out
      have HO17 : Hid (w17.ownsRow w13.heap.size 44 12 (.slice A14 (L14).length c14) (L14).length (edtK.flat (L14))) := by rw [hw17]; exact HOP.out
      rw [← hw17]
      clear hw17
      have lt17 := HM17.out.1.lt
      clear HMP HBP HOP HM16 HB16 HO16 f0 f1 f2 f3 f4 f5 f6 f7 f8 f9 f10 f11 z0 z1 z2 z3 z4 z5 z6 z7 z8 z9 z10 z11 y0 y1 y2 y3 y4 y5 y6 y7 y8 y9 y10 y11
      have HEP2 : Hid (EPl L14) := by
        show EPl _
        rw [← HLE14.out]
        exact HEP.out.ins HUS.out HFN.out (by omega)
      obtain ⟨p0, p1, p2, p3, p4, p5⟩ := HM17.out.2.1.c6
      have g4 := HM17.out.2.1.fz 4
      obtain ⟨y0, y1, y2, y3, y4, y5, y6, y7, y8, y9, y10, y11⟩ := HM17.out.2.2.2.1.c12
      have HW := with_any (L14) ⟨t, 4, x.ty, x.con, u.num, s, v.num, 0⟩ A14 c14 w17 (RowK.In.of_row HO17.out) HEP2.out HUT.out
      obtain ⟨L18, hL18⟩ : ∃ L, insE (L14) ⟨t, 4, x.ty, x.con, u.num, s, v.num, 0⟩ = L := ⟨_, rfl⟩
      rw [hL18] at HW
      have HLE18 := Lib.hid hL18
      clear hL18
      unfold Edt.val Edt.cells at HW
      dsimp only [zeroTy, zeroCon] at HW
      have HWW := Lib.hid HW
      clear HW
      go_wp2_with fail
      refine HWW.out.mono ?_
      rintro e w18 ⟨v18, rfl, ho18, hb18⟩
      obtain ⟨A18, c18, rfl⟩ := own_slice ho18
      have HM18 := Lib.hid (HM17.out.below hb18)
      have HB18 := Lib.hid (HB17.out.trans (hb18.mono HB17.out.size))
      have HO18 := Lib.hid ho18
      have hz18 := hb18.size
      clear hb18 ho18 HWW HM17 HB17 HO17 p0 p1 p2 p3 p4 p5 g4 y0 y1 y2 y3 y4 y5 y6 y7 y8 y9 y10 y11
      obtain ⟨p0, p1, p2, p3, p4, p5⟩ := HM18.out.2.1.c6
      have g4 := HM18.out.2.1.fz 4
      have HMP := Lib.hid (show Bs [(w12.heap.size, 74, [.string v.path, .int .i64 v.num, .int .i64 v.chg, .int .i64 v.act, .int .i64 v.ty.base, .bool v.ty.kw, .bool v.ty.ex, .bool v.ty.xe, .int .u64 v.con.sum, .int .i64 v.con.size, .string v.src, .int .i64 v.srcn]), (w8.heap.size, 41, [.int .i64 pn, .string pc, .string pt, .bool ps, .slice A18 (L18).length c18, .slice R8 0 r8]), (w5.heap.size, 74, [.string u.path, .int .i64 u.num, .int .i64 u.chg, .int .i64 u.act, .int .i64 u.ty.base, .bool u.ty.kw, .bool u.ty.ex, .bool u.ty.xe, .int .u64 u.con.sum, .int .i64 u.con.size, .string u.src, .int .i64 u.srcn]), (w2.heap.size, 44, [.string t, .int .i64 4, .int .i64 x.ty.base, .bool x.ty.kw, .bool x.ty.ex, .bool x.ty.xe, .int .u64 x.con.sum, .int .i64 x.con.size, .int .i64 u.num, .string s, .int .i64 v.num, .int .i64 0]), (w.heap.size + 1 + 1, 41, [.int .i64 0, .string ⟨#[]⟩, .string ⟨#[]⟩, .bool false, .slice none 0 0, .slice none 0 0]), (w.heap.size + 1, 37, [.slice A d.length ca, .slice B nb cb]), (w.heap.size, 41, [.int .i64 pn, .string pc, .string pt, .bool ps, .slice (some ⟨b, off, none⟩) V.length ec, .slice R 0 rc])] _ from ⟨HM18.out.1.far (p := ⟨w8.heap.size, 4, none⟩) (by dsimp only; omega) (.slice A18 (L18).length c18), HM18.out.2.1.set 4 (.slice A18 (L18).length c18), HM18.out.2.2.1.far (p := ⟨w8.heap.size, 4, none⟩) (by dsimp only; omega) (.slice A18 (L18).length c18), HM18.out.2.2.2.1.far (p := ⟨w8.heap.size, 4, none⟩) (by dsimp only; omega) (.slice A18 (L18).length c18), HM18.out.2.2.2.2.1.far (p := ⟨w8.heap.size, 4, none⟩) (by dsimp only; omega) (.slice A18 (L18).length c18), HM18.out.2.2.2.2.2.1.far (p := ⟨w8.heap.size, 4, none⟩) (by dsimp only; omega) (.slice A18 (L18).length c18), HM18.out.2.2.2.2.2.2.1.far (p := ⟨w8.heap.size, 4, none⟩) (by dsimp only; omega) (.slice A18 (L18).length c18), trivial⟩)
      have HBP := Lib.hid (HB18.out.setCell (p := ⟨w8.heap.size, 4, none⟩) (by dsimp only; omega) (.slice A18 (L18).length c18))
      have HOP := Lib.hid (own_set_below HO18.out (p := ⟨w8.heap.size, 4, none⟩) (by dsimp only; omega) (.slice A18 (L18).length c18))
      go_upto_region 24 with fail
      (generalize World.setCell _ _ _ = w19 at *)
      have HM19 := HMP
      have HB19 := HBP
      have HO19 := HOP
      have lt19 := HM19.out.1.lt
      clear HMP HBP HOP HM18 HB18 HO18 p0 p1 p2 p3 p4 p5 g4
      have HEQ : Hid (movedL d V s t = L18) := by
        show _ = _
        unfold movedL awayE hereE
        rw [HF.out]
        dsimp only
        rw [if_pos H2.out, HDE.out, HVE.out, HUE.out, HLE14.out]
        exact HLE18.out
      obtain ⟨p0, p1, p2, p3, p4, p5⟩ := HM19.out.2.1.c6
      by_cases hbig : 64 < (L18).length
      · have hbi : (64 : Int) < ((L18).length : Int) := by omega
        have hqq : q = (zeroP, 184) := by rw [← HQ.out, HQ1.out, if_neg (by rw [HOKB.out]; decide), if_pos (by rw [HEQ.out]; exact hbig)]
        (obtain ⟨z0, z1, z2, z3, z4, z5⟩ := (HM19.out.2.2.2.2.1).c6; have f0 := (HM19.out.2.2.2.2.1).fz 0; have f1 := (HM19.out.2.2.2.2.1).fz 1; have f2 := (HM19.out.2.2.2.2.1).fz 2; have f3 := (HM19.out.2.2.2.2.1).fz 3; have f4 := (HM19.out.2.2.2.2.1).fz 4; have f5 := (HM19.out.2.2.2.2.1).fz 5; go_wp2_with fail; have KZ := Lib.hid (zero_put (HM19.out.2.2.2.2.1) (.int .i64 0) (.string ⟨#[]⟩) (.string ⟨#[]⟩) (.bool false) (.slice none 0 0) (.slice none 0 0)); have HBZ := Lib.hid (below_put6 (HB19.out) (b := w.heap.size + 1 + 1) (by omega) (.int .i64 0) (.string ⟨#[]⟩) (.string ⟨#[]⟩) (.bool false) (.slice none 0 0) (.slice none 0 0)); generalize World.setCell (World.setCell (World.setCell (World.setCell (World.setCell (World.setCell _ _ _) _ _) _ _) _ _) _ _) _ _ = wz at *; obtain ⟨y0, y1, y2, y3, y4, y5⟩ := KZ.out.c6; exact bodyPost_ret (v := .tuple #[.agg #[.int .i64 0, .string ⟨#[]⟩, .string ⟨#[]⟩, .bool false, .slice none 0 0, .slice none 0 0], .int .i64 _]) (by simp [results, Tryz.results22, go_sem, y0, y1, y2, y3, y4, y5]) rfl (PRet.no (hqq) HBZ.out))
      · have hbi : ¬ (64 : Int) < ((L18).length : Int) := by omega
        have hqq : q = (⟨pn, pc, pt, ps, L18⟩, 0) := by rw [← HQ.out, HQ1.out, if_neg (by rw [HOKB.out]; decide), if_neg (by rw [HEQ.out]; exact hbig), HEQ.out]
        have KZ := Lib.hid (zero_put (HM19.out.2.2.2.2.1) (.int .i64 pn) (.string pc) (.string pt) (.bool ps) (.slice A18 (L18).length c18) (.slice R8 0 r8))
        have HBZ := Lib.hid (below_put6 HB19.out (b := w.heap.size + 1 + 1) (by omega) (.int .i64 pn) (.string pc) (.string pt) (.bool ps) (.slice A18 (L18).length c18) (.slice R8 0 r8))
        have HOZ := Lib.hid (own_put6 HO19.out (b := w.heap.size + 1 + 1) (by intro e; have := HO19.out.lt _ e; omega) (.int .i64 pn) (.string pc) (.string pt) (.bool ps) (.slice A18 (L18).length c18) (.slice R8 0 r8))
        obtain ⟨z0, z1, z2, z3, z4, z5⟩ := HM19.out.2.2.2.2.1.c6
        have f0 := HM19.out.2.2.2.2.1.fz 0
        have f1 := HM19.out.2.2.2.2.1.fz 1
        have f2 := HM19.out.2.2.2.2.1.fz 2
        have f3 := HM19.out.2.2.2.2.1.fz 3
        have f4 := HM19.out.2.2.2.2.1.fz 4
        have f5 := HM19.out.2.2.2.2.1.fz 5
        go_wp2_with fail
        (generalize World.setCell (World.setCell (World.setCell (World.setCell (World.setCell (World.setCell _ _ _) _ _) _ _) _ _) _ _) _ _ = wz at *)
        obtain ⟨y0, y1, y2, y3, y4, y5⟩ := KZ.out.c6
        exact bodyPost_ret (v := .tuple #[.agg #[.int .i64 pn, .string pc, .string pt, .bool ps, .slice A18 (L18).length c18, .slice R8 0 r8], .int .i64 0]) (by simp [results, Tryz.results22, go_sem, y0, y1, y2, y3, y4, y5]) rfl (by first | exact PRet.yes rfl HOZ.out HBZ.out (by omega) | exact PRet.yes hqq HOZ.out HBZ.out (by omega))
    · have h2b : (x.act == 2) = false := by simpa using h2
      have h2c : decide (x.act = 2) = false := by simpa using h2
      have H2 : Hid (¬ (x.act = 2)) := h2
      clear h2
      -- MARKF
      obtain ⟨f0, f1, f2, f3, f4, f5, f6, f7, f8, f9, f10, f11⟩ := HM11.out.2.2.1.f12
      obtain ⟨z0, z1, z2, z3, z4, z5, z6, z7, z8, z9, z10, z11⟩ := HM11.out.2.2.1.c12
      obtain ⟨y0, y1, y2, y3, y4, y5, y6, y7, y8, y9, y10, y11⟩ := HM11.out.2.1.c12
      have HMP := Lib.hid (Bs.drew (show Bs [(w8.heap.size, 41, [.int .i64 pn, .string pc, .string pt, .bool ps, .slice (some ⟨g, 0, none⟩) (L10).length c8, .slice R8 0 r8]), (w5.heap.size, 74, [.string u.path, .int .i64 u.num, .int .i64 u.chg, .int .i64 u.act, .int .i64 u.ty.base, .bool u.ty.kw, .bool u.ty.ex, .bool u.ty.xe, .int .u64 u.con.sum, .int .i64 u.con.size, .string u.src, .int .i64 u.srcn]), (w2.heap.size, 44, [.string t, .int .i64 x.act, .int .i64 x.ty.base, .bool x.ty.kw, .bool x.ty.ex, .bool x.ty.xe, .int .u64 x.con.sum, .int .i64 x.con.size, .int .i64 u.num, .string x.src, .int .i64 x.srcn, .int .i64 x.fence]), (w.heap.size + 1 + 1, 41, [.int .i64 0, .string ⟨#[]⟩, .string ⟨#[]⟩, .bool false, .slice none 0 0, .slice none 0 0]), (w.heap.size + 1, 37, [.slice A d.length ca, .slice B nb cb]), (w.heap.size, 41, [.int .i64 pn, .string pc, .string pt, .bool ps, .slice (some ⟨b, off, none⟩) V.length ec, .slice R 0 rc])] _ from ⟨(HM11.out.1.far (p := ⟨w2.heap.size, 0, none⟩) (by dsimp only; omega) (.string t)).far (p := ⟨w2.heap.size, 8, none⟩) (by dsimp only; omega) (.int .i64 u.num), (HM11.out.2.1.far (p := ⟨w2.heap.size, 0, none⟩) (by dsimp only; omega) (.string t)).far (p := ⟨w2.heap.size, 8, none⟩) (by dsimp only; omega) (.int .i64 u.num), (HM11.out.2.2.1.set 0 (.string t)).set 8 (.int .i64 u.num), (HM11.out.2.2.2.1.far (p := ⟨w2.heap.size, 0, none⟩) (by dsimp only; omega) (.string t)).far (p := ⟨w2.heap.size, 8, none⟩) (by dsimp only; omega) (.int .i64 u.num), (HM11.out.2.2.2.2.1.far (p := ⟨w2.heap.size, 0, none⟩) (by dsimp only; omega) (.string t)).far (p := ⟨w2.heap.size, 8, none⟩) (by dsimp only; omega) (.int .i64 u.num), (HM11.out.2.2.2.2.2.1.far (p := ⟨w2.heap.size, 0, none⟩) (by dsimp only; omega) (.string t)).far (p := ⟨w2.heap.size, 8, none⟩) (by dsimp only; omega) (.int .i64 u.num), trivial⟩))
      have HBP := Lib.hid (((HB11.out.setCell (p := ⟨w2.heap.size, 0, none⟩) (by dsimp only; omega) (.string t)).setCell (p := ⟨w2.heap.size, 8, none⟩) (by dsimp only; omega) (.int .i64 u.num)).drew)
      have HOP := Lib.hid (World.ownsRow.drew (own_setC (own_setC HO11.out (p := ⟨w2.heap.size, 0, none⟩) (by intro e; have := HO11.out.lt _ e; dsimp only at this; omega) (.string t)) (p := ⟨w2.heap.size, 8, none⟩) (by intro e; have := HO11.out.lt _ e; dsimp only at this; omega) (.int .i64 u.num)))
      -- MARKD
      go_wp2_with fail
      go_region
      -- MARKE
      obtain ⟨w12, hw12⟩ : ∃ x, x = ((w11.setCell ⟨w2.heap.size, 0, none⟩ (.string t)).setCell ⟨w2.heap.size, 8, none⟩ (.int .i64 u.num)).drew := ⟨_, rfl⟩
      have HM12 : Hid (Bs [(w8.heap.size, 41, [.int .i64 pn, .string pc, .string pt, .bool ps, .slice (some ⟨g, 0, none⟩) (L10).length c8, .slice R8 0 r8]), (w5.heap.size, 74, [.string u.path, .int .i64 u.num, .int .i64 u.chg, .int .i64 u.act, .int .i64 u.ty.base, .bool u.ty.kw, .bool u.ty.ex, .bool u.ty.xe, .int .u64 u.con.sum, .int .i64 u.con.size, .string u.src, .int .i64 u.srcn]), (w2.heap.size, 44, [.string t, .int .i64 x.act, .int .i64 x.ty.base, .bool x.ty.kw, .bool x.ty.ex, .bool x.ty.xe, .int .u64 x.con.sum, .int .i64 x.con.size, .int .i64 u.num, .string x.src, .int .i64 x.srcn, .int .i64 x.fence]), (w.heap.size + 1 + 1, 41, [.int .i64 0, .string ⟨#[]⟩, .string ⟨#[]⟩, .bool false, .slice none 0 0, .slice none 0 0]), (w.heap.size + 1, 37, [.slice A d.length ca, .slice B nb cb]), (w.heap.size, 41, [.int .i64 pn, .string pc, .string pt, .bool ps, .slice (some ⟨b, off, none⟩) V.length ec, .slice R 0 rc])] w12) := by rw [hw12]; exact HMP.out
      have HB12 : Hid (Below w.heap.size w w12) := by rw [hw12]; exact HBP.out
      have HO12 : Hid (w12.ownsRow w7.heap.size 44 12 (.slice (some ⟨g, 0, none⟩) (L10).length c8) (L10).length (edtK.flat (L10))) := by rw [hw12]; exact HOP.out
      rw [← hw12]
      clear hw12
      have lt12 := HM12.out.1.lt
      clear HMP HBP HOP HM11 HB11 HO11 f0 f1 f2 f3 f4 f5 f6 f7 f8 f9 f10 f11 z0 z1 z2 z3 z4 z5 z6 z7 z8 z9 z10 z11 y0 y1 y2 y3 y4 y5 y6 y7 y8 y9 y10 y11
      obtain ⟨p0, p1, p2, p3, p4, p5⟩ := HM12.out.1.c6
      have g4 := HM12.out.1.fz 4
      obtain ⟨y0, y1, y2, y3, y4, y5, y6, y7, y8, y9, y10, y11⟩ := HM12.out.2.2.1.c12
      have HW := with_any (L10) ⟨t, x.act, x.ty, x.con, u.num, x.src, x.srcn, x.fence⟩ (some ⟨g, 0, none⟩) c8 w12 (RowK.In.of_row HO12.out) HEP.out HUT.out
      obtain ⟨L13, hL13⟩ : ∃ L, insE (L10) ⟨t, x.act, x.ty, x.con, u.num, x.src, x.srcn, x.fence⟩ = L := ⟨_, rfl⟩
      rw [hL13] at HW
      have HLE13 := Lib.hid hL13
      clear hL13
      unfold Edt.val Edt.cells at HW
      dsimp only [zeroTy, zeroCon] at HW
      have HWW := Lib.hid HW
      clear HW
      go_wp2_with fail
      refine HWW.out.mono ?_
      rintro e w13 ⟨v13, rfl, ho13, hb13⟩
      obtain ⟨A13, c13, rfl⟩ := own_slice ho13
      have HM13 := Lib.hid (HM12.out.below hb13)
      have HB13 := Lib.hid (HB12.out.trans (hb13.mono HB12.out.size))
      have HO13 := Lib.hid ho13
      have hz13 := hb13.size
      clear hb13 ho13 HWW HM12 HB12 HO12 p0 p1 p2 p3 p4 p5 g4 y0 y1 y2 y3 y4 y5 y6 y7 y8 y9 y10 y11
      obtain ⟨p0, p1, p2, p3, p4, p5⟩ := HM13.out.1.c6
      have g4 := HM13.out.1.fz 4
      have HMP := Lib.hid (show Bs [(w8.heap.size, 41, [.int .i64 pn, .string pc, .string pt, .bool ps, .slice A13 (L13).length c13, .slice R8 0 r8]), (w5.heap.size, 74, [.string u.path, .int .i64 u.num, .int .i64 u.chg, .int .i64 u.act, .int .i64 u.ty.base, .bool u.ty.kw, .bool u.ty.ex, .bool u.ty.xe, .int .u64 u.con.sum, .int .i64 u.con.size, .string u.src, .int .i64 u.srcn]), (w2.heap.size, 44, [.string t, .int .i64 x.act, .int .i64 x.ty.base, .bool x.ty.kw, .bool x.ty.ex, .bool x.ty.xe, .int .u64 x.con.sum, .int .i64 x.con.size, .int .i64 u.num, .string x.src, .int .i64 x.srcn, .int .i64 x.fence]), (w.heap.size + 1 + 1, 41, [.int .i64 0, .string ⟨#[]⟩, .string ⟨#[]⟩, .bool false, .slice none 0 0, .slice none 0 0]), (w.heap.size + 1, 37, [.slice A d.length ca, .slice B nb cb]), (w.heap.size, 41, [.int .i64 pn, .string pc, .string pt, .bool ps, .slice (some ⟨b, off, none⟩) V.length ec, .slice R 0 rc])] _ from ⟨HM13.out.1.set 4 (.slice A13 (L13).length c13), HM13.out.2.1.far (p := ⟨w8.heap.size, 4, none⟩) (by dsimp only; omega) (.slice A13 (L13).length c13), HM13.out.2.2.1.far (p := ⟨w8.heap.size, 4, none⟩) (by dsimp only; omega) (.slice A13 (L13).length c13), HM13.out.2.2.2.1.far (p := ⟨w8.heap.size, 4, none⟩) (by dsimp only; omega) (.slice A13 (L13).length c13), HM13.out.2.2.2.2.1.far (p := ⟨w8.heap.size, 4, none⟩) (by dsimp only; omega) (.slice A13 (L13).length c13), HM13.out.2.2.2.2.2.1.far (p := ⟨w8.heap.size, 4, none⟩) (by dsimp only; omega) (.slice A13 (L13).length c13), trivial⟩)
      have HBP := Lib.hid (HB13.out.setCell (p := ⟨w8.heap.size, 4, none⟩) (by dsimp only; omega) (.slice A13 (L13).length c13))
      have HOP := Lib.hid (own_set_below HO13.out (p := ⟨w8.heap.size, 4, none⟩) (by dsimp only; omega) (.slice A13 (L13).length c13))
      go_upto_region 24 with fail
      (generalize World.setCell _ _ _ = w14 at *)
      have HM14 := HMP
      have HB14 := HBP
      have HO14 := HOP
      have lt14 := HM14.out.1.lt
      clear HMP HBP HOP HM13 HB13 HO13 p0 p1 p2 p3 p4 p5 g4
      have HEQ : Hid (movedL d V s t = L13) := by
        show _ = _
        unfold movedL
        rw [HF.out]
        dsimp only
        rw [if_neg H2.out, HDE.out, HUE.out]
        exact HLE13.out
      obtain ⟨p0, p1, p2, p3, p4, p5⟩ := HM14.out.1.c6
      by_cases hbig : 64 < (L13).length
      · have hbi : (64 : Int) < ((L13).length : Int) := by omega
        have hqq : q = (zeroP, 184) := by rw [← HQ.out, HQ1.out, if_neg (by rw [HOKB.out]; decide), if_pos (by rw [HEQ.out]; exact hbig)]
        (obtain ⟨z0, z1, z2, z3, z4, z5⟩ := (HM14.out.2.2.2.1).c6; have f0 := (HM14.out.2.2.2.1).fz 0; have f1 := (HM14.out.2.2.2.1).fz 1; have f2 := (HM14.out.2.2.2.1).fz 2; have f3 := (HM14.out.2.2.2.1).fz 3; have f4 := (HM14.out.2.2.2.1).fz 4; have f5 := (HM14.out.2.2.2.1).fz 5; go_wp2_with fail; have KZ := Lib.hid (zero_put (HM14.out.2.2.2.1) (.int .i64 0) (.string ⟨#[]⟩) (.string ⟨#[]⟩) (.bool false) (.slice none 0 0) (.slice none 0 0)); have HBZ := Lib.hid (below_put6 (HB14.out) (b := w.heap.size + 1 + 1) (by omega) (.int .i64 0) (.string ⟨#[]⟩) (.string ⟨#[]⟩) (.bool false) (.slice none 0 0) (.slice none 0 0)); generalize World.setCell (World.setCell (World.setCell (World.setCell (World.setCell (World.setCell _ _ _) _ _) _ _) _ _) _ _) _ _ = wz at *; obtain ⟨y0, y1, y2, y3, y4, y5⟩ := KZ.out.c6; exact bodyPost_ret (v := .tuple #[.agg #[.int .i64 0, .string ⟨#[]⟩, .string ⟨#[]⟩, .bool false, .slice none 0 0, .slice none 0 0], .int .i64 _]) (by simp [results, Tryz.results22, go_sem, y0, y1, y2, y3, y4, y5]) rfl (PRet.no (hqq) HBZ.out))
      · have hbi : ¬ (64 : Int) < ((L13).length : Int) := by omega
        have hqq : q = (⟨pn, pc, pt, ps, L13⟩, 0) := by rw [← HQ.out, HQ1.out, if_neg (by rw [HOKB.out]; decide), if_neg (by rw [HEQ.out]; exact hbig), HEQ.out]
        have KZ := Lib.hid (zero_put (HM14.out.2.2.2.1) (.int .i64 pn) (.string pc) (.string pt) (.bool ps) (.slice A13 (L13).length c13) (.slice R8 0 r8))
        have HBZ := Lib.hid (below_put6 HB14.out (b := w.heap.size + 1 + 1) (by omega) (.int .i64 pn) (.string pc) (.string pt) (.bool ps) (.slice A13 (L13).length c13) (.slice R8 0 r8))
        have HOZ := Lib.hid (own_put6 HO14.out (b := w.heap.size + 1 + 1) (by intro e; have := HO14.out.lt _ e; omega) (.int .i64 pn) (.string pc) (.string pt) (.bool ps) (.slice A13 (L13).length c13) (.slice R8 0 r8))
        obtain ⟨z0, z1, z2, z3, z4, z5⟩ := HM14.out.2.2.2.1.c6
        have f0 := HM14.out.2.2.2.1.fz 0
        have f1 := HM14.out.2.2.2.1.fz 1
        have f2 := HM14.out.2.2.2.1.fz 2
        have f3 := HM14.out.2.2.2.1.fz 3
        have f4 := HM14.out.2.2.2.1.fz 4
        have f5 := HM14.out.2.2.2.1.fz 5
        go_wp2_with fail
        (generalize World.setCell (World.setCell (World.setCell (World.setCell (World.setCell (World.setCell _ _ _) _ _) _ _) _ _) _ _) _ _ = wz at *)
        obtain ⟨y0, y1, y2, y3, y4, y5⟩ := KZ.out.c6
        exact bodyPost_ret (v := .tuple #[.agg #[.int .i64 pn, .string pc, .string pt, .bool ps, .slice A13 (L13).length c13, .slice R8 0 r8], .int .i64 0]) (by simp [results, Tryz.results22, go_sem, y0, y1, y2, y3, y4, y5]) rfl (by first | exact PRet.yes rfl HOZ.out HBZ.out (by omega) | exact PRet.yes hqq HOZ.out HBZ.out (by omega))
end Go.Proofs.YtocffknoeknabaaGreatDoor
