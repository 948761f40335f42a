/-
  The walk of the reference's Move (printed by mkrmove.py).
-/
import Derived.Test.YtocffknoeknabaaGreatDoorClW
import Derived.Test.YtocffknoeknabaaGreatDoorClH
namespace Go.Proofs.YtocffknoeknabaaGreatDoor
open Go.RowKit

theorem in_lit (w : World) (X : List Edt) (cs : List Value) (T : TypeId) (h : edtK.flat X = cs) : edtK.In (some ⟨w.heap.size, 0, none⟩) X (w.alloc (.cells cs.toArray T)) := fun _ => ⟨w.heap.size, 0, rfl, by simp, fun j u hu => by
  have hh : (w.alloc (.cells cs.toArray T)).heap[w.heap.size]? = some (.cells cs.toArray T (0, 0)) := heap_alloc_new w _
  rw [Nat.zero_add, cell_at hh, ← h]
  simpa using hu⟩
theorem far6 {x : World} {b b' : Nat} {T : TypeId} {cs : List Value} (h : Blk b' T cs x) (hne : b' ≠ b) (u0 u1 u2 u3 u4 u5 : Value) : Blk b' T cs ((((((x.setCell ⟨b, 0, none⟩ u0).setCell ⟨b, 1, none⟩ u1).setCell ⟨b, 2, none⟩ u2).setCell ⟨b, 3, none⟩ u3).setCell ⟨b, 4, none⟩ u4).setCell ⟨b, 5, none⟩ u5) :=
  (((((h.far hne u0).far hne u1).far hne u2).far hne u3).far hne u4).far hne u5
theorem moved_srt {E : List Edt} (h : SrtE E) {x y : Edt} (hx : ∀ z ∈ E, z.path ≠ x.path) (hy : ∀ z ∈ E, z.path ≠ y.path) (hn : x.path ≠ y.path) : SrtE (insE (insE E x) y) :=
  ins_srt (ins_srt h hx) (fun z hz => by rcases mem_ins.1 hz with rfl | hz <;> first | exact hn | exact hy z hz)
set_option maxRecDepth 100000 in
set_option maxHeartbeats 12800000 in
theorem rmove_any (d : List Rev) (p : Pnd) (s t : ByteArray) (A B E R : Option Addr) (ca nb cb ec rc : Nat) (w : World) (h : revK.In A d w) (hE : edtK.In E p.edits w) (hok : EOk p.edits) (hn : d.length ≤ 512) (_ha : Asc d) (hs : s.size < 4294967281) (ht : t.size < 4294967281) (hg : G0 w) :
    Calls Tryz.prog 71 #[pndV p E ec R rc, .agg #[.slice A d.length ca, .slice B nb cb], .string s, .string t] w (PRet (moveP d p s t) w) := by
  have HI := Lib.hid h
  have HIE := Lib.hid hE
  have HOK := Lib.hid hok
  have hlen := hok.len
  have HG := Lib.hid hg
  obtain ⟨q, hq⟩ : ∃ q, moveP d p s t = q := ⟨_, rfl⟩
  rw [hq]
  have HQ := Lib.hid hq
  have HUS := Lib.hid (fun w h => usable18_any s w hs h)
  have HUT := Lib.hid (fun w h => usable18_any t w ht h)
  have HFT := Lib.hid (fun w h => find_any p t E R ec rc w h hok.srt (by omega))
  have HFS := Lib.hid (fun w h => find_any p s E R ec rc w h hok.srt (by omega))
  have HLS := Lib.hid (fun w h => rlive_any d s A B ca nb cb w h (by omega))
  have HLT := Lib.hid (fun w h => rlive_any d t A B ca nb cb w h (by omega))
  have HLA := Lib.hid (fun w h => rlast_any d s A B ca nb cb w h (by omega))
  have HWO := Lib.hid (fun k E w h hk => rwout_any p k E R ec rc w h hk (by omega))
  have HWI := Lib.hid (fun (L X S : List Edt) (g : Nat) E ec R rc w h1 h2 h3 h4 h5 h6 h7 h8 => rwith_any { p with edits := L } X S E R (some ⟨g, 0, none⟩) ec rc X.length w h1 h2 h3 h4 h5 h6 h7 h8)
  clear h hE hok hq hg hs ht _ha
  obtain ⟨pn, pc, pt, ps, V⟩ := p
  unfold pndV pndC at *
  dsimp only at *
  rw [lastN_is] at HLS HLT
  generalize hv : lastR d s = v at *
  generalize hu : lastR d t = u at *
  generalize hls : liveD d s = ls at *
  generalize hlt : liveD d t = lt at *
  have HVE := Lib.hid hv
  have HUE := Lib.hid hu
  have HLSE := Lib.hid hls
  have HLTE := Lib.hid hlt
  clear hv hu hls hlt
  go_enter Tryz.func71, Tryz.ntmps71
  go_upto_region 1 with fail
  generalize hw1 : World.alloc _ (.cells #[.int .i64 0, .string ⟨#[]⟩, .string ⟨#[]⟩, .bool false, .slice none 0 0, .slice none 0 0] 41) = w1
  have HM1 : Hid (Bs [(w.heap.size + 1 + 1, 41, [.int .i64 0, .string ⟨#[]⟩, .string ⟨#[]⟩, .bool false, .slice none 0 0, .slice none 0 0]), (w.heap.size + 1, 37, [.slice A d.length ca, .slice B nb cb]), (w.heap.size, 41, [.int .i64 pn, .string pc, .string pt, .bool ps, .slice E V.length ec, .slice R 0 rc])] w1) := by
    show Bs _ _
    rw [← hw1]
    exact ⟨Blk.new2 _ _ _ _ _, (Blk.new1 _ _ _ _).alloc _, ((Blk.new _ _ _).alloc _).alloc _, trivial⟩
  have HB1 : Hid (Below w.heap.size w w1) := by
    show Below _ _ _
    rw [← hw1]
    (repeat (first | (with_reducible exact Below.refl _ _) | (with_reducible assumption) | (with_reducible refine Below.setCell ?_ ?_ _; rotate_left; focus (first | exact Nat.le_refl _ | (dsimp only; omega))) | (with_reducible refine Below.drew ?_) | (with_reducible refine below_drewN ?_ _) | (with_reducible refine Below.alloc ?_ ?_ _; rotate_left; focus (first | exact Nat.le_refl _ | (simp; done) | (simp; omega)))))
  clear hw1
  have lt1 := HM1.out.1.lt
  go_wp2_with fail
  refine (HUS.out _ (HG.out.below HB1.out)).mono ?_
  rintro e w2 ⟨rfl, hb2⟩
  have HM2 := Lib.hid (HM1.out.below hb2)
  have HB2 := Lib.hid (HB1.out.trans (hb2.mono HB1.out.size))
  have hz2 := hb2.size
  clear hb2 HM1 HB1
  cases hus : useB s
  case false =>
    have hqq : q = (zeroP, 180) := by rw [← HQ.out]; unfold moveP; rw [if_pos (.inl hus)]
    (obtain ⟨z0, z1, z2, z3, z4, z5⟩ := (HM2.out.1).c6; have f0 := (HM2.out.1).fz 0; have f1 := (HM2.out.1).fz 1; have f2 := (HM2.out.1).fz 2; have f3 := (HM2.out.1).fz 3; have f4 := (HM2.out.1).fz 4; have f5 := (HM2.out.1).fz 5; go_wp2_with fail; have KZ := Lib.hid (zero_put (HM2.out.1) (.int .i64 0) (.string ⟨#[]⟩) (.string ⟨#[]⟩) (.bool false) (.slice none 0 0) (.slice none 0 0)); have HBZ := Lib.hid (below_put6 (HB2.out) (b := w.heap.size + 1 + 1) (by omega) (.int .i64 0) (.string ⟨#[]⟩) (.string ⟨#[]⟩) (.bool false) (.slice none 0 0) (.slice none 0 0)); generalize World.setCell (World.setCell (World.setCell (World.setCell (World.setCell (World.setCell _ _ _) _ _) _ _) _ _) _ _) _ _ = wz at *; obtain ⟨y0, y1, y2, y3, y4, y5⟩ := KZ.out.c6; first | exact bodyPost_ret (v := .tuple #[.agg #[.int .i64 0, .string ⟨#[]⟩, .string ⟨#[]⟩, .bool false, .slice none 0 0, .slice none 0 0], .int .i64 _]) (by simp [results, Tryz.results71, go_sem, y0, y1, y2, y3, y4, y5]) rfl (PRet.no (hqq) HBZ.out) | exact bodyPost_ret (v := .tuple #[.agg #[.int .i64 0, .string ⟨#[]⟩, .string ⟨#[]⟩, .bool false, .slice none 0 0, .slice none 0 0], .int .i64 _]) (by simp [results, Tryz.results71, go_sem, y0, y1, y2, y3, y4, y5]) rfl (PRet.no rfl HBZ.out))
  have HUSE := Lib.hid hus
  clear hus
  go_wp2_with fail
  refine (HUT.out _ (HG.out.below HB2.out)).mono ?_
  rintro e w3 ⟨rfl, hb3⟩
  have HM3 := Lib.hid (HM2.out.below hb3)
  have HB3 := Lib.hid (HB2.out.trans (hb3.mono HB2.out.size))
  have hz3 := hb3.size
  clear hb3 HM2 HB2
  cases hut : useB t
  case false =>
    have hqq : q = (zeroP, 180) := by rw [← HQ.out]; unfold moveP; rw [if_pos (.inr hut)]
    (obtain ⟨z0, z1, z2, z3, z4, z5⟩ := (HM3.out.1).c6; have f0 := (HM3.out.1).fz 0; have f1 := (HM3.out.1).fz 1; have f2 := (HM3.out.1).fz 2; have f3 := (HM3.out.1).fz 3; have f4 := (HM3.out.1).fz 4; have f5 := (HM3.out.1).fz 5; go_wp2_with fail; have KZ := Lib.hid (zero_put (HM3.out.1) (.int .i64 0) (.string ⟨#[]⟩) (.string ⟨#[]⟩) (.bool false) (.slice none 0 0) (.slice none 0 0)); have HBZ := Lib.hid (below_put6 (HB3.out) (b := w.heap.size + 1 + 1) (by omega) (.int .i64 0) (.string ⟨#[]⟩) (.string ⟨#[]⟩) (.bool false) (.slice none 0 0) (.slice none 0 0)); generalize World.setCell (World.setCell (World.setCell (World.setCell (World.setCell (World.setCell _ _ _) _ _) _ _) _ _) _ _) _ _ = wz at *; obtain ⟨y0, y1, y2, y3, y4, y5⟩ := KZ.out.c6; first | exact bodyPost_ret (v := .tuple #[.agg #[.int .i64 0, .string ⟨#[]⟩, .string ⟨#[]⟩, .bool false, .slice none 0 0, .slice none 0 0], .int .i64 _]) (by simp [results, Tryz.results71, go_sem, y0, y1, y2, y3, y4, y5]) rfl (PRet.no (hqq) HBZ.out) | exact bodyPost_ret (v := .tuple #[.agg #[.int .i64 0, .string ⟨#[]⟩, .string ⟨#[]⟩, .bool false, .slice none 0 0, .slice none 0 0], .int .i64 _]) (by simp [results, Tryz.results71, go_sem, y0, y1, y2, y3, y4, y5]) rfl (PRet.no rfl HBZ.out))
  have HUTE := Lib.hid hut
  clear hut
  (obtain ⟨p0, p1, p2, p3, p4, p5⟩ := (HM3.out.2.2.1).c6)
  go_wp2_with fail
  refine (HFT.out _ (HIE.out.below HB3.out)).mono ?_
  rintro e w4 ⟨rfl, hb4⟩
  have HM4 := Lib.hid (HM3.out.below hb4)
  have HB4 := Lib.hid (HB3.out.trans (hb4.mono HB3.out.size))
  have hz4 := hb4.size
  clear hb4 HM3 HB3 p0 p1 p2 p3 p4 p5
  have HFG := Lib.hid (find_sign (V := V) t)
  generalize findI V t = fi at *
  cases hh : hasE V t
  case true =>
    have hfi : (0 : Int) ≤ fi := by have := HFG.out; rw [hh] at this; simpa using this
    have hqq : q = (zeroP, 181) := by rw [← HQ.out]; unfold moveP; rw [if_neg (by rw [HUSE.out, HUTE.out]; simp), if_pos hh]
    (obtain ⟨z0, z1, z2, z3, z4, z5⟩ := (HM4.out.1).c6; have f0 := (HM4.out.1).fz 0; have f1 := (HM4.out.1).fz 1; have f2 := (HM4.out.1).fz 2; have f3 := (HM4.out.1).fz 3; have f4 := (HM4.out.1).fz 4; have f5 := (HM4.out.1).fz 5; go_wp2_with fail; have KZ := Lib.hid (zero_put (HM4.out.1) (.int .i64 0) (.string ⟨#[]⟩) (.string ⟨#[]⟩) (.bool false) (.slice none 0 0) (.slice none 0 0)); have HBZ := Lib.hid (below_put6 (HB4.out) (b := w.heap.size + 1 + 1) (by omega) (.int .i64 0) (.string ⟨#[]⟩) (.string ⟨#[]⟩) (.bool false) (.slice none 0 0) (.slice none 0 0)); generalize World.setCell (World.setCell (World.setCell (World.setCell (World.setCell (World.setCell _ _ _) _ _) _ _) _ _) _ _) _ _ = wz at *; obtain ⟨y0, y1, y2, y3, y4, y5⟩ := KZ.out.c6; first | exact bodyPost_ret (v := .tuple #[.agg #[.int .i64 0, .string ⟨#[]⟩, .string ⟨#[]⟩, .bool false, .slice none 0 0, .slice none 0 0], .int .i64 _]) (by simp [results, Tryz.results71, go_sem, y0, y1, y2, y3, y4, y5]) rfl (PRet.no (hqq) HBZ.out) | exact bodyPost_ret (v := .tuple #[.agg #[.int .i64 0, .string ⟨#[]⟩, .string ⟨#[]⟩, .bool false, .slice none 0 0, .slice none 0 0], .int .i64 _]) (by simp [results, Tryz.results71, go_sem, y0, y1, y2, y3, y4, y5]) rfl (PRet.no rfl HBZ.out))
  have hfi : ¬ (0 : Int) ≤ fi := by have := HFG.out; rw [hh] at this; simpa using this
  have HHT := Lib.hid hh
  clear hh HFG
  have HQ1 : Hid (moveP d ⟨pn, pc, pt, ps, V⟩ s t = if movBad d V s t = true then (zeroP, 183) else if 64 < (movedL d V s t).length then (zeroP, 184) else (⟨pn, pc, pt, ps, movedL d V s t⟩, 0)) := by
    show _ = _
    unfold moveP
    rw [if_neg (by rw [HUSE.out, HUTE.out]; simp), if_neg (by rw [HHT.out]; simp)]
  -- MARKA
  (obtain ⟨d0, d1⟩ := (HM4.out.2.1).c2)
  go_wp2_with fail
  refine (HLS.out _ (HI.out.below HB4.out)).mono ?_
  rintro e w5 ⟨rfl, hb5⟩
  have HM5 := Lib.hid (HM4.out.below hb5)
  have HB5 := Lib.hid (HB4.out.trans (hb5.mono HB4.out.size))
  have hz5 := hb5.size
  clear hb5 HM4 HB4 d0 d1 HFT
  (obtain ⟨d0, d1⟩ := (HM5.out.2.1).c2)
  go_wp2_with fail
  refine (HLT.out _ (HI.out.below HB5.out)).mono ?_
  rintro e w6 ⟨rfl, hb6⟩
  have HM6 := Lib.hid (HM5.out.below hb6)
  have HB6 := Lib.hid (HB5.out.trans (hb6.mono HB5.out.size))
  have hz6 := hb6.size
  clear hb6 HM5 HB5 d0 d1
  (obtain ⟨d0, d1⟩ := (HM6.out.2.1).c2)
  go_wp2_with fail
  refine (HLA.out _ (HI.out.below HB6.out)).mono ?_
  rintro e w7 ⟨rfl, hb7⟩
  unfold Rev.val Rev.cells
  have HM8 : Hid (Bs [(w7.heap.size, 74, [.string v.path, .int .i64 v.num, .int .i64 v.chg, .int .i64 v.act, .int .i64 v.ty.base, .bool v.ty.kw, .bool v.ty.ex, .bool v.ty.xe, .int .u64 v.con.sum, .int .i64 v.con.size, .string v.src, .int .i64 v.srcn]), (w.heap.size + 1 + 1, 41, [.int .i64 0, .string ⟨#[]⟩, .string ⟨#[]⟩, .bool false, .slice none 0 0, .slice none 0 0]), (w.heap.size + 1, 37, [.slice A d.length ca, .slice B nb cb]), (w.heap.size, 41, [.int .i64 pn, .string pc, .string pt, .bool ps, .slice E V.length ec, .slice R 0 rc])] (w7.alloc (.cells [.string v.path, .int .i64 v.num, .int .i64 v.chg, .int .i64 v.act, .int .i64 v.ty.base, .bool v.ty.kw, .bool v.ty.ex, .bool v.ty.xe, .int .u64 v.con.sum, .int .i64 v.con.size, .string v.src, .int .i64 v.srcn].toArray 74))) := Bs.cons (Blk.new w7 74 [.string v.path, .int .i64 v.num, .int .i64 v.chg, .int .i64 v.act, .int .i64 v.ty.base, .bool v.ty.kw, .bool v.ty.ex, .bool v.ty.xe, .int .u64 v.con.sum, .int .i64 v.con.size, .string v.src, .int .i64 v.srcn]) ((HM6.out.below hb7).alloc _)
  have HB8 : Hid (Below w.heap.size w (w7.alloc (.cells [.string v.path, .int .i64 v.num, .int .i64 v.chg, .int .i64 v.act, .int .i64 v.ty.base, .bool v.ty.kw, .bool v.ty.ex, .bool v.ty.xe, .int .u64 v.con.sum, .int .i64 v.con.size, .string v.src, .int .i64 v.srcn].toArray 74))) := (HB6.out.trans (hb7.mono HB6.out.size)).alloc (HB6.out.trans (hb7.mono HB6.out.size)).size _
  have hz7 := hb7.size
  clear hb7 HM6 HB6 d0 d1
  go_upto_region 8 with fail
  generalize hw8 : World.alloc w7 (.cells #[.string v.path, .int .i64 v.num, .int .i64 v.chg, .int .i64 v.act, .int .i64 v.ty.base, .bool v.ty.kw, .bool v.ty.ex, .bool v.ty.xe, .int .u64 v.con.sum, .int .i64 v.con.size, .string v.src, .int .i64 v.srcn] 74) = w8 at *
  clear hw8
  have lt8 := HM8.out.1.lt
  (obtain ⟨p0, p1, p2, p3, p4, p5⟩ := (HM8.out.2.2.2.1).c6)
  go_wp2_with fail
  refine (HFS.out _ (HIE.out.below HB8.out)).mono ?_
  rintro e w9 ⟨rfl, hb9⟩
  have HM9 := Lib.hid (HM8.out.below hb9)
  have HB9 := Lib.hid (HB8.out.trans (hb9.mono HB8.out.size))
  have hz9 := hb9.size
  clear hb9 HM8 HB8 p0 p1 p2 p3 p4 p5
  -- MARKB
  obtain ⟨y0, y1, y2, y3, y4, y5, y6, y7, y8, y9, y10, y11⟩ := HM9.out.1.c12
  have HM10 : Hid (Bs [(w9.heap.size, 44, [.string t, .int .i64 4, .int .i64 v.ty.base, .bool v.ty.kw, .bool v.ty.ex, .bool v.ty.xe, .int .u64 v.con.sum, .int .i64 v.con.size, .int .i64 u.num, .string s, .int .i64 v.num, .int .i64 0]), (w7.heap.size, 74, [.string v.path, .int .i64 v.num, .int .i64 v.chg, .int .i64 v.act, .int .i64 v.ty.base, .bool v.ty.kw, .bool v.ty.ex, .bool v.ty.xe, .int .u64 v.con.sum, .int .i64 v.con.size, .string v.src, .int .i64 v.srcn]), (w.heap.size + 1 + 1, 41, [.int .i64 0, .string ⟨#[]⟩, .string ⟨#[]⟩, .bool false, .slice none 0 0, .slice none 0 0]), (w.heap.size + 1, 37, [.slice A d.length ca, .slice B nb cb]), (w.heap.size, 41, [.int .i64 pn, .string pc, .string pt, .bool ps, .slice E V.length ec, .slice R 0 rc])] (w9.alloc (.cells [.string t, .int .i64 4, .int .i64 v.ty.base, .bool v.ty.kw, .bool v.ty.ex, .bool v.ty.xe, .int .u64 v.con.sum, .int .i64 v.con.size, .int .i64 u.num, .string s, .int .i64 v.num, .int .i64 0].toArray 44))) := Bs.cons (Blk.new w9 44 [.string t, .int .i64 4, .int .i64 v.ty.base, .bool v.ty.kw, .bool v.ty.ex, .bool v.ty.xe, .int .u64 v.con.sum, .int .i64 v.con.size, .int .i64 u.num, .string s, .int .i64 v.num, .int .i64 0]) (HM9.out.alloc _)
  have HB10 : Hid (Below w.heap.size w (w9.alloc (.cells [.string t, .int .i64 4, .int .i64 v.ty.base, .bool v.ty.kw, .bool v.ty.ex, .bool v.ty.xe, .int .u64 v.con.sum, .int .i64 v.con.size, .int .i64 u.num, .string s, .int .i64 v.num, .int .i64 0].toArray 44))) := HB9.out.alloc HB9.out.size _
  go_upto_region 10 with fail
  generalize hw10 : World.alloc w9 (.cells #[.string t, .int .i64 4, .int .i64 v.ty.base, .bool v.ty.kw, .bool v.ty.ex, .bool v.ty.xe, .int .u64 v.con.sum, .int .i64 v.con.size, .int .i64 u.num, .string s, .int .i64 v.num, .int .i64 0] 44) = w10 at *
  clear hw10 HM9 HB9 y0 y1 y2 y3 y4 y5 y6 y7 y8 y9 y10 y11
  have lt10 := HM10.out.1.lt
  have hy10 := HM10.out.2.1.lt
  obtain ⟨y0, y1, y2, y3, y4, y5, y6, y7, y8, y9, y10, y11⟩ := HM10.out.2.1.c12
  have HM11 : Hid (Bs [(w10.heap.size, 44, [.string s, .int .i64 5, .int .i64 v.ty.base, .bool v.ty.kw, .bool v.ty.ex, .bool v.ty.xe, .int .u64 0, .int .i64 0, .int .i64 v.num, .string ⟨#[]⟩, .int .i64 0, .int .i64 0]), (w9.heap.size, 44, [.string t, .int .i64 4, .int .i64 v.ty.base, .bool v.ty.kw, .bool v.ty.ex, .bool v.ty.xe, .int .u64 v.con.sum, .int .i64 v.con.size, .int .i64 u.num, .string s, .int .i64 v.num, .int .i64 0]), (w7.heap.size, 74, [.string v.path, .int .i64 v.num, .int .i64 v.chg, .int .i64 v.act, .int .i64 v.ty.base, .bool v.ty.kw, .bool v.ty.ex, .bool v.ty.xe, .int .u64 v.con.sum, .int .i64 v.con.size, .string v.src, .int .i64 v.srcn]), (w.heap.size + 1 + 1, 41, [.int .i64 0, .string ⟨#[]⟩, .string ⟨#[]⟩, .bool false, .slice none 0 0, .slice none 0 0]), (w.heap.size + 1, 37, [.slice A d.length ca, .slice B nb cb]), (w.heap.size, 41, [.int .i64 pn, .string pc, .string pt, .bool ps, .slice E V.length ec, .slice R 0 rc])] (w10.alloc (.cells [.string s, .int .i64 5, .int .i64 v.ty.base, .bool v.ty.kw, .bool v.ty.ex, .bool v.ty.xe, .int .u64 0, .int .i64 0, .int .i64 v.num, .string ⟨#[]⟩, .int .i64 0, .int .i64 0].toArray 44))) := Bs.cons (Blk.new w10 44 [.string s, .int .i64 5, .int .i64 v.ty.base, .bool v.ty.kw, .bool v.ty.ex, .bool v.ty.xe, .int .u64 0, .int .i64 0, .int .i64 v.num, .string ⟨#[]⟩, .int .i64 0, .int .i64 0]) (HM10.out.alloc _)
  have HB11 : Hid (Below w.heap.size w (w10.alloc (.cells [.string s, .int .i64 5, .int .i64 v.ty.base, .bool v.ty.kw, .bool v.ty.ex, .bool v.ty.xe, .int .u64 0, .int .i64 0, .int .i64 v.num, .string ⟨#[]⟩, .int .i64 0, .int .i64 0].toArray 44))) := HB10.out.alloc HB10.out.size _
  go_upto_region 11 with fail
  generalize hw11 : World.alloc w10 (.cells #[.string s, .int .i64 5, .int .i64 v.ty.base, .bool v.ty.kw, .bool v.ty.ex, .bool v.ty.xe, .int .u64 0, .int .i64 0, .int .i64 v.num, .string ⟨#[]⟩, .int .i64 0, .int .i64 0] 44) = w11 at *
  clear hw11 HM10 HB10 y0 y1 y2 y3 y4 y5 y6 y7 y8 y9 y10 y11
  have lt11 := HM11.out.1.lt
  have hy11 := HM11.out.2.1.lt
  have HM12 : Hid (Bs [(w11.heap.size, 44, [.string ⟨#[]⟩, .int .i64 0, .int .i64 0, .bool false, .bool false, .bool false, .int .u64 0, .int .i64 0, .int .i64 0, .string ⟨#[]⟩, .int .i64 0, .int .i64 0]), (w10.heap.size, 44, [.string s, .int .i64 5, .int .i64 v.ty.base, .bool v.ty.kw, .bool v.ty.ex, .bool v.ty.xe, .int .u64 0, .int .i64 0, .int .i64 v.num, .string ⟨#[]⟩, .int .i64 0, .int .i64 0]), (w9.heap.size, 44, [.string t, .int .i64 4, .int .i64 v.ty.base, .bool v.ty.kw, .bool v.ty.ex, .bool v.ty.xe, .int .u64 v.con.sum, .int .i64 v.con.size, .int .i64 u.num, .string s, .int .i64 v.num, .int .i64 0]), (w7.heap.size, 74, [.string v.path, .int .i64 v.num, .int .i64 v.chg, .int .i64 v.act, .int .i64 v.ty.base, .bool v.ty.kw, .bool v.ty.ex, .bool v.ty.xe, .int .u64 v.con.sum, .int .i64 v.con.size, .string v.src, .int .i64 v.srcn]), (w.heap.size + 1 + 1, 41, [.int .i64 0, .string ⟨#[]⟩, .string ⟨#[]⟩, .bool false, .slice none 0 0, .slice none 0 0]), (w.heap.size + 1, 37, [.slice A d.length ca, .slice B nb cb]), (w.heap.size, 41, [.int .i64 pn, .string pc, .string pt, .bool ps, .slice E V.length ec, .slice R 0 rc])] (w11.alloc (.cells [.string ⟨#[]⟩, .int .i64 0, .int .i64 0, .bool false, .bool false, .bool false, .int .u64 0, .int .i64 0, .int .i64 0, .string ⟨#[]⟩, .int .i64 0, .int .i64 0].toArray 44))) := Bs.cons (Blk.new w11 44 [.string ⟨#[]⟩, .int .i64 0, .int .i64 0, .bool false, .bool false, .bool false, .int .u64 0, .int .i64 0, .int .i64 0, .string ⟨#[]⟩, .int .i64 0, .int .i64 0]) (HM11.out.alloc _)
  have HB12 : Hid (Below w.heap.size w (w11.alloc (.cells [.string ⟨#[]⟩, .int .i64 0, .int .i64 0, .bool false, .bool false, .bool false, .int .u64 0, .int .i64 0, .int .i64 0, .string ⟨#[]⟩, .int .i64 0, .int .i64 0].toArray 44))) := HB11.out.alloc HB11.out.size _
  go_upto_region 12 with fail
  generalize hw12 : World.alloc w11 (.cells #[.string ⟨#[]⟩, .int .i64 0, .int .i64 0, .bool false, .bool false, .bool false, .int .u64 0, .int .i64 0, .int .i64 0, .string ⟨#[]⟩, .int .i64 0, .int .i64 0] 44) = w12 at *
  clear hw12 HM11 HB11 
  have lt12 := HM12.out.1.lt
  have hy12 := HM12.out.2.1.lt
  obtain ⟨y0, y1, y2, y3, y4, y5, y6, y7, y8, y9, y10, y11⟩ := HM12.out.1.c12
  -- MARKC
  cases hf : fndE V s with
  | none =>
    have HF := Lib.hid hf
    have hfi : findI V s = -1 := by unfold findI; rw [hf]
    rw [hfi]
    clear hfi hf
    cases lt
    case true =>
      have hbad : movBad d V s t = true := by
        unfold movBad; rw [HLTE.out]; rfl
      have hqq : q = (zeroP, 183) := by rw [← HQ.out, HQ1.out, if_pos hbad]
      (obtain ⟨z0, z1, z2, z3, z4, z5⟩ := (HM12.out.2.2.2.2.1).c6; have f0 := (HM12.out.2.2.2.2.1).fz 0; have f1 := (HM12.out.2.2.2.2.1).fz 1; have f2 := (HM12.out.2.2.2.2.1).fz 2; have f3 := (HM12.out.2.2.2.2.1).fz 3; have f4 := (HM12.out.2.2.2.2.1).fz 4; have f5 := (HM12.out.2.2.2.2.1).fz 5; go_wp2_with fail; have KZ := Lib.hid (zero_put (HM12.out.2.2.2.2.1) (.int .i64 0) (.string ⟨#[]⟩) (.string ⟨#[]⟩) (.bool false) (.slice none 0 0) (.slice none 0 0)); have HBZ := Lib.hid (below_put6 (HB12.out) (b := w.heap.size + 1 + 1) (by omega) (.int .i64 0) (.string ⟨#[]⟩) (.string ⟨#[]⟩) (.bool false) (.slice none 0 0) (.slice none 0 0)); generalize World.setCell (World.setCell (World.setCell (World.setCell (World.setCell (World.setCell _ _ _) _ _) _ _) _ _) _ _) _ _ = wz at *; obtain ⟨y0, y1, y2, y3, y4, y5⟩ := KZ.out.c6; first | exact bodyPost_ret (v := .tuple #[.agg #[.int .i64 0, .string ⟨#[]⟩, .string ⟨#[]⟩, .bool false, .slice none 0 0, .slice none 0 0], .int .i64 _]) (by simp [results, Tryz.results71, go_sem, y0, y1, y2, y3, y4, y5]) rfl (PRet.no (hqq) HBZ.out) | exact bodyPost_ret (v := .tuple #[.agg #[.int .i64 0, .string ⟨#[]⟩, .string ⟨#[]⟩, .bool false, .slice none 0 0, .slice none 0 0], .int .i64 _]) (by simp [results, Tryz.results71, go_sem, y0, y1, y2, y3, y4, y5]) rfl (PRet.no rfl HBZ.out))
    cases hst : (s.toList == t.toList)
    case true =>
      have hbad : movBad d V s t = true := by
        unfold movBad; rw [← path_tl, hst]; simp
      have hqq : q = (zeroP, 183) := by rw [← HQ.out, HQ1.out, if_pos hbad]
      (obtain ⟨z0, z1, z2, z3, z4, z5⟩ := (HM12.out.2.2.2.2.1).c6; have f0 := (HM12.out.2.2.2.2.1).fz 0; have f1 := (HM12.out.2.2.2.2.1).fz 1; have f2 := (HM12.out.2.2.2.2.1).fz 2; have f3 := (HM12.out.2.2.2.2.1).fz 3; have f4 := (HM12.out.2.2.2.2.1).fz 4; have f5 := (HM12.out.2.2.2.2.1).fz 5; go_wp2_with fail; have KZ := Lib.hid (zero_put (HM12.out.2.2.2.2.1) (.int .i64 0) (.string ⟨#[]⟩) (.string ⟨#[]⟩) (.bool false) (.slice none 0 0) (.slice none 0 0)); have HBZ := Lib.hid (below_put6 (HB12.out) (b := w.heap.size + 1 + 1) (by omega) (.int .i64 0) (.string ⟨#[]⟩) (.string ⟨#[]⟩) (.bool false) (.slice none 0 0) (.slice none 0 0)); generalize World.setCell (World.setCell (World.setCell (World.setCell (World.setCell (World.setCell _ _ _) _ _) _ _) _ _) _ _) _ _ = wz at *; obtain ⟨y0, y1, y2, y3, y4, y5⟩ := KZ.out.c6; first | exact bodyPost_ret (v := .tuple #[.agg #[.int .i64 0, .string ⟨#[]⟩, .string ⟨#[]⟩, .bool false, .slice none 0 0, .slice none 0 0], .int .i64 _]) (by simp [results, Tryz.results71, go_sem, y0, y1, y2, y3, y4, y5]) rfl (PRet.no (hqq) HBZ.out) | exact bodyPost_ret (v := .tuple #[.agg #[.int .i64 0, .string ⟨#[]⟩, .string ⟨#[]⟩, .bool false, .slice none 0 0, .slice none 0 0], .int .i64 _]) (by simp [results, Tryz.results71, go_sem, y0, y1, y2, y3, y4, y5]) rfl (PRet.no rfl HBZ.out))
    have hne : (s == t) = false := by rw [← path_tl]; exact hst
    have HNE := Lib.hid hne
    clear hne
    cases ls
    case false =>
      have hbad : movBad d V s t = true := by
        unfold movBad; rw [HF.out, HLSE.out]; simp
      have hqq : q = (zeroP, 183) := by rw [← HQ.out, HQ1.out, if_pos hbad]
      (obtain ⟨z0, z1, z2, z3, z4, z5⟩ := (HM12.out.2.2.2.2.1).c6; have f0 := (HM12.out.2.2.2.2.1).fz 0; have f1 := (HM12.out.2.2.2.2.1).fz 1; have f2 := (HM12.out.2.2.2.2.1).fz 2; have f3 := (HM12.out.2.2.2.2.1).fz 3; have f4 := (HM12.out.2.2.2.2.1).fz 4; have f5 := (HM12.out.2.2.2.2.1).fz 5; go_wp2_with fail; have KZ := Lib.hid (zero_put (HM12.out.2.2.2.2.1) (.int .i64 0) (.string ⟨#[]⟩) (.string ⟨#[]⟩) (.bool false) (.slice none 0 0) (.slice none 0 0)); have HBZ := Lib.hid (below_put6 (HB12.out) (b := w.heap.size + 1 + 1) (by omega) (.int .i64 0) (.string ⟨#[]⟩) (.string ⟨#[]⟩) (.bool false) (.slice none 0 0) (.slice none 0 0)); generalize World.setCell (World.setCell (World.setCell (World.setCell (World.setCell (World.setCell _ _ _) _ _) _ _) _ _) _ _) _ _ = wz at *; obtain ⟨y0, y1, y2, y3, y4, y5⟩ := KZ.out.c6; first | exact bodyPost_ret (v := .tuple #[.agg #[.int .i64 0, .string ⟨#[]⟩, .string ⟨#[]⟩, .bool false, .slice none 0 0, .slice none 0 0], .int .i64 _]) (by simp [results, Tryz.results71, go_sem, y0, y1, y2, y3, y4, y5]) rfl (PRet.no (hqq) HBZ.out) | exact bodyPost_ret (v := .tuple #[.agg #[.int .i64 0, .string ⟨#[]⟩, .string ⟨#[]⟩, .bool false, .slice none 0 0, .slice none 0 0], .int .i64 _]) (by simp [results, Tryz.results71, go_sem, y0, y1, y2, y3, y4, y5]) rfl (PRet.no rfl HBZ.out))
    have HOKB : Hid (movBad d V s t = false) := by
      show _ = _
      unfold movBad
      rw [HF.out, HLTE.out, HNE.out, HLSE.out]
      rfl
    (obtain ⟨p0, p1, p2, p3, p4, p5⟩ := (HM12.out.2.2.2.2.2.2.1).c6)
    -- MARKD
    have HM13 : Hid (Bs [(w12.heap.size, 41, [.int .i64 0, .string ⟨#[]⟩, .string ⟨#[]⟩, .bool false, .slice none 0 0, .slice none 0 0]), (w11.heap.size, 44, [.string ⟨#[]⟩, .int .i64 0, .int .i64 0, .bool false, .bool false, .bool false, .int .u64 0, .int .i64 0, .int .i64 0, .string ⟨#[]⟩, .int .i64 0, .int .i64 0]), (w10.heap.size, 44, [.string s, .int .i64 5, .int .i64 v.ty.base, .bool v.ty.kw, .bool v.ty.ex, .bool v.ty.xe, .int .u64 0, .int .i64 0, .int .i64 v.num, .string ⟨#[]⟩, .int .i64 0, .int .i64 0]), (w9.heap.size, 44, [.string t, .int .i64 4, .int .i64 v.ty.base, .bool v.ty.kw, .bool v.ty.ex, .bool v.ty.xe, .int .u64 v.con.sum, .int .i64 v.con.size, .int .i64 u.num, .string s, .int .i64 v.num, .int .i64 0]), (w7.heap.size, 74, [.string v.path, .int .i64 v.num, .int .i64 v.chg, .int .i64 v.act, .int .i64 v.ty.base, .bool v.ty.kw, .bool v.ty.ex, .bool v.ty.xe, .int .u64 v.con.sum, .int .i64 v.con.size, .string v.src, .int .i64 v.srcn]), (w.heap.size + 1 + 1, 41, [.int .i64 0, .string ⟨#[]⟩, .string ⟨#[]⟩, .bool false, .slice none 0 0, .slice none 0 0]), (w.heap.size + 1, 37, [.slice A d.length ca, .slice B nb cb]), (w.heap.size, 41, [.int .i64 pn, .string pc, .string pt, .bool ps, .slice E V.length ec, .slice R 0 rc])] (w12.alloc (.cells [.int .i64 0, .string ⟨#[]⟩, .string ⟨#[]⟩, .bool false, .slice none 0 0, .slice none 0 0].toArray 41))) := Bs.cons (Blk.new w12 41 [.int .i64 0, .string ⟨#[]⟩, .string ⟨#[]⟩, .bool false, .slice none 0 0, .slice none 0 0]) (HM12.out.alloc _)
    have HB13 : Hid (Below w.heap.size w (w12.alloc (.cells [.int .i64 0, .string ⟨#[]⟩, .string ⟨#[]⟩, .bool false, .slice none 0 0, .slice none 0 0].toArray 41))) := HB12.out.alloc HB12.out.size _
    go_upto_region 26 with fail
    -- MARKE
    generalize hw13 : World.alloc w12 (.cells #[.int .i64 0, .string ⟨#[]⟩, .string ⟨#[]⟩, .bool false, .slice none 0 0, .slice none 0 0] 41) = w13 at *
    clear hw13 HM12 HB12 y0 y1 y2 y3 y4 y5 y6 y7 y8 y9 y10 y11 p0 p1 p2 p3 p4 p5
    have lt13 := HM13.out.1.lt
    (obtain ⟨p0, p1, p2, p3, p4, p5⟩ := (HM13.out.2.2.2.2.2.2.2.1).c6)
    obtain ⟨a0, a1, a2, a3, a4, a5, a6, a7, a8, a9, a10, a11⟩ := HM13.out.2.2.1.c12
    obtain ⟨y0, y1, y2, y3, y4, y5, y6, y7, y8, y9, y10, y11⟩ := HM13.out.2.2.2.1.c12
    have hfl : edtK.flat [⟨s, 5, v.ty, zeroCon, v.num, ⟨#[]⟩, 0, 0⟩, ⟨t, 4, v.ty, v.con, u.num, s, v.num, 0⟩] = [.string s, .int .i64 5, .int .i64 v.ty.base, .bool v.ty.kw, .bool v.ty.ex, .bool v.ty.xe, .int .u64 0, .int .i64 0, .int .i64 v.num, .string ⟨#[]⟩, .int .i64 0, .int .i64 0, .string t, .int .i64 4, .int .i64 v.ty.base, .bool v.ty.kw, .bool v.ty.ex, .bool v.ty.xe, .int .u64 v.con.sum, .int .i64 v.con.size, .int .i64 u.num, .string s, .int .i64 v.num, .int .i64 0] := rfl
    have hbx : Below w13.heap.size w13 (w13.alloc (.cells [.string s, .int .i64 5, .int .i64 v.ty.base, .bool v.ty.kw, .bool v.ty.ex, .bool v.ty.xe, .int .u64 0, .int .i64 0, .int .i64 v.num, .string ⟨#[]⟩, .int .i64 0, .int .i64 0, .string t, .int .i64 4, .int .i64 v.ty.base, .bool v.ty.kw, .bool v.ty.ex, .bool v.ty.xe, .int .u64 v.con.sum, .int .i64 v.con.size, .int .i64 u.num, .string s, .int .i64 v.num, .int .i64 0].toArray 44)) := (Below.refl _ _).alloc (Nat.le_refl _) _
    have HM14 : Hid (Bs [(w12.heap.size, 41, [.int .i64 0, .string ⟨#[]⟩, .string ⟨#[]⟩, .bool false, .slice none 0 0, .slice none 0 0]), (w11.heap.size, 44, [.string ⟨#[]⟩, .int .i64 0, .int .i64 0, .bool false, .bool false, .bool false, .int .u64 0, .int .i64 0, .int .i64 0, .string ⟨#[]⟩, .int .i64 0, .int .i64 0]), (w10.heap.size, 44, [.string s, .int .i64 5, .int .i64 v.ty.base, .bool v.ty.kw, .bool v.ty.ex, .bool v.ty.xe, .int .u64 0, .int .i64 0, .int .i64 v.num, .string ⟨#[]⟩, .int .i64 0, .int .i64 0]), (w9.heap.size, 44, [.string t, .int .i64 4, .int .i64 v.ty.base, .bool v.ty.kw, .bool v.ty.ex, .bool v.ty.xe, .int .u64 v.con.sum, .int .i64 v.con.size, .int .i64 u.num, .string s, .int .i64 v.num, .int .i64 0]), (w7.heap.size, 74, [.string v.path, .int .i64 v.num, .int .i64 v.chg, .int .i64 v.act, .int .i64 v.ty.base, .bool v.ty.kw, .bool v.ty.ex, .bool v.ty.xe, .int .u64 v.con.sum, .int .i64 v.con.size, .string v.src, .int .i64 v.srcn]), (w.heap.size + 1 + 1, 41, [.int .i64 0, .string ⟨#[]⟩, .string ⟨#[]⟩, .bool false, .slice none 0 0, .slice none 0 0]), (w.heap.size + 1, 37, [.slice A d.length ca, .slice B nb cb]), (w.heap.size, 41, [.int .i64 pn, .string pc, .string pt, .bool ps, .slice E V.length ec, .slice R 0 rc])] (w13.alloc (.cells [.string s, .int .i64 5, .int .i64 v.ty.base, .bool v.ty.kw, .bool v.ty.ex, .bool v.ty.xe, .int .u64 0, .int .i64 0, .int .i64 v.num, .string ⟨#[]⟩, .int .i64 0, .int .i64 0, .string t, .int .i64 4, .int .i64 v.ty.base, .bool v.ty.kw, .bool v.ty.ex, .bool v.ty.xe, .int .u64 v.con.sum, .int .i64 v.con.size, .int .i64 u.num, .string s, .int .i64 v.num, .int .i64 0].toArray 44))) := HM13.out.alloc _
    have HB14 : Hid (Below w.heap.size w (w13.alloc (.cells [.string s, .int .i64 5, .int .i64 v.ty.base, .bool v.ty.kw, .bool v.ty.ex, .bool v.ty.xe, .int .u64 0, .int .i64 0, .int .i64 v.num, .string ⟨#[]⟩, .int .i64 0, .int .i64 0, .string t, .int .i64 4, .int .i64 v.ty.base, .bool v.ty.kw, .bool v.ty.ex, .bool v.ty.xe, .int .u64 v.con.sum, .int .i64 v.con.size, .int .i64 u.num, .string s, .int .i64 v.num, .int .i64 0].toArray 44))) := HB13.out.trans (hbx.mono HB13.out.size)
    have HFN := Lib.hid (fnd_none HF.out)
    have HTN := Lib.hid (has_none HHT.out)
    have HSN : Hid (s ≠ t) := fun e => by have := HNE.out; rw [e, ba_self] at this; exact absurd this (by decide)
    have HL14 := HWI.out V [⟨s, 5, v.ty, zeroCon, v.num, ⟨#[]⟩, 0, 0⟩, ⟨t, 4, v.ty, v.con, u.num, s, v.num, 0⟩] (insE (insE V ⟨s, 5, v.ty, zeroCon, v.num, ⟨#[]⟩, 0, 0⟩) ⟨t, 4, v.ty, v.con, u.num, s, v.num, 0⟩) w13.heap.size E ec R rc (w13.alloc (.cells [.string s, .int .i64 5, .int .i64 v.ty.base, .bool v.ty.kw, .bool v.ty.ex, .bool v.ty.xe, .int .u64 0, .int .i64 0, .int .i64 v.num, .string ⟨#[]⟩, .int .i64 0, .int .i64 0, .string t, .int .i64 4, .int .i64 v.ty.base, .bool v.ty.kw, .bool v.ty.ex, .bool v.ty.xe, .int .u64 v.con.sum, .int .i64 v.con.size, .int .i64 u.num, .string s, .int .i64 v.num, .int .i64 0].toArray 44)) (HIE.out.below HB14.out) (in_lit w13 _ _ 44 hfl) (by simp; omega) (fun z hz => by
      rcases List.mem_append.1 hz with hz | hz
      · exact HOK.out.use z hz
      · simp only [List.mem_cons, List.not_mem_nil, or_false] at hz
        rcases hz with rfl | rfl
        · exact HUSE.out
        · exact HUTE.out) (moved_srt HOK.out.srt HFN.out HTN.out HSN.out) (ins_perm2 _ _ _) (by simp) (HG.out.below HB14.out)
    obtain ⟨L, hL⟩ : ∃ L, insE (insE V ⟨s, 5, v.ty, zeroCon, v.num, ⟨#[]⟩, 0, 0⟩) ⟨t, 4, v.ty, v.con, u.num, s, v.num, 0⟩ = L := ⟨_, rfl⟩
    rw [hL] at HL14
    have HLL := Lib.hid hL
    have HWW := Lib.hid HL14
    clear hL HL14 hbx hfl
    -- MARKF
    go_wp2_with fail
    -- MARKG
    refine HWW.out.mono ?_
    rintro e w15 ⟨Eb, eb, Rb, rb, rfl, hib, hfb, hbb⟩
    unfold pndV pndC
    dsimp only at hib ⊢
    have HM15 := Lib.hid (HM14.out.below hbb)
    have HB15 := Lib.hid (HB14.out.trans (hbb.mono HB14.out.size))
    have HI15 := Lib.hid hib
    have hwA : w13.heap.size ≤ (w13.alloc (.cells [.string s, .int .i64 5, .int .i64 v.ty.base, .bool v.ty.kw, .bool v.ty.ex, .bool v.ty.xe, .int .u64 0, .int .i64 0, .int .i64 v.num, .string ⟨#[]⟩, .int .i64 0, .int .i64 0, .string t, .int .i64 4, .int .i64 v.ty.base, .bool v.ty.kw, .bool v.ty.ex, .bool v.ty.xe, .int .u64 v.con.sum, .int .i64 v.con.size, .int .i64 u.num, .string s, .int .i64 v.num, .int .i64 0].toArray 44)).heap.size := by simp
    have HFB : Hid (∀ b off, Eb = some ⟨b, off, none⟩ → w13.heap.size ≤ b) := fun b off e => Nat.le_trans hwA (hfb b off e)
    have hz15 := hbb.size
    clear hfb hbb hib HM13 HB13 HM14 HB14 HWW p0 p1 p2 p3 p4 p5 a0 a1 a2 a3 a4 a5 a6 a7 a8 a9 a10 a11 y0 y1 y2 y3 y4 y5 y6 y7 y8 y9 y10 y11
    have lt15 := HM15.out.1.lt
    obtain ⟨z0, z1, z2, z3, z4, z5⟩ := HM15.out.1.c6
    have f0 := HM15.out.1.fz 0
    have f1 := HM15.out.1.fz 1
    have f2 := HM15.out.1.fz 2
    have f3 := HM15.out.1.fz 3
    have f4 := HM15.out.1.fz 4
    have f5 := HM15.out.1.fz 5
    have HMP := Lib.hid (show Bs [(w12.heap.size, 41, [.int .i64 pn, .string pc, .string pt, .bool ps, .slice Eb L.length eb, .slice Rb 0 rb]), (w11.heap.size, 44, [.string ⟨#[]⟩, .int .i64 0, .int .i64 0, .bool false, .bool false, .bool false, .int .u64 0, .int .i64 0, .int .i64 0, .string ⟨#[]⟩, .int .i64 0, .int .i64 0]), (w10.heap.size, 44, [.string s, .int .i64 5, .int .i64 v.ty.base, .bool v.ty.kw, .bool v.ty.ex, .bool v.ty.xe, .int .u64 0, .int .i64 0, .int .i64 v.num, .string ⟨#[]⟩, .int .i64 0, .int .i64 0]), (w9.heap.size, 44, [.string t, .int .i64 4, .int .i64 v.ty.base, .bool v.ty.kw, .bool v.ty.ex, .bool v.ty.xe, .int .u64 v.con.sum, .int .i64 v.con.size, .int .i64 u.num, .string s, .int .i64 v.num, .int .i64 0]), (w7.heap.size, 74, [.string v.path, .int .i64 v.num, .int .i64 v.chg, .int .i64 v.act, .int .i64 v.ty.base, .bool v.ty.kw, .bool v.ty.ex, .bool v.ty.xe, .int .u64 v.con.sum, .int .i64 v.con.size, .string v.src, .int .i64 v.srcn]), (w.heap.size + 1 + 1, 41, [.int .i64 0, .string ⟨#[]⟩, .string ⟨#[]⟩, .bool false, .slice none 0 0, .slice none 0 0]), (w.heap.size + 1, 37, [.slice A d.length ca, .slice B nb cb]), (w.heap.size, 41, [.int .i64 pn, .string pc, .string pt, .bool ps, .slice E V.length ec, .slice R 0 rc])] _ from ⟨zero_put HM15.out.1 (.int .i64 pn) (.string pc) (.string pt) (.bool ps) (.slice Eb L.length eb) (.slice Rb 0 rb), far6 HM15.out.2.1 (b := w12.heap.size) (by omega) (.int .i64 pn) (.string pc) (.string pt) (.bool ps) (.slice Eb L.length eb) (.slice Rb 0 rb), far6 HM15.out.2.2.1 (b := w12.heap.size) (by omega) (.int .i64 pn) (.string pc) (.string pt) (.bool ps) (.slice Eb L.length eb) (.slice Rb 0 rb), far6 HM15.out.2.2.2.1 (b := w12.heap.size) (by omega) (.int .i64 pn) (.string pc) (.string pt) (.bool ps) (.slice Eb L.length eb) (.slice Rb 0 rb), far6 HM15.out.2.2.2.2.1 (b := w12.heap.size) (by omega) (.int .i64 pn) (.string pc) (.string pt) (.bool ps) (.slice Eb L.length eb) (.slice Rb 0 rb), far6 HM15.out.2.2.2.2.2.1 (b := w12.heap.size) (by omega) (.int .i64 pn) (.string pc) (.string pt) (.bool ps) (.slice Eb L.length eb) (.slice Rb 0 rb), far6 HM15.out.2.2.2.2.2.2.1 (b := w12.heap.size) (by omega) (.int .i64 pn) (.string pc) (.string pt) (.bool ps) (.slice Eb L.length eb) (.slice Rb 0 rb), far6 HM15.out.2.2.2.2.2.2.2.1 (b := w12.heap.size) (by omega) (.int .i64 pn) (.string pc) (.string pt) (.bool ps) (.slice Eb L.length eb) (.slice Rb 0 rb), trivial⟩)
    have HBP := Lib.hid (below_put6 HB15.out (b := w12.heap.size) (by omega) (.int .i64 pn) (.string pc) (.string pt) (.bool ps) (.slice Eb L.length eb) (.slice Rb 0 rb))
    have HIP := Lib.hid (in_putF HI15.out (b := w12.heap.size) (fun b off e => by have := HFB.out b off e; omega) (.int .i64 pn) (.string pc) (.string pt) (.bool ps) (.slice Eb L.length eb) (.slice Rb 0 rb))
    -- MARKH
    go_upto_region 33 with fail
    -- MARKI
    (generalize World.setCell (World.setCell (World.setCell (World.setCell (World.setCell (World.setCell _ _ _) _ _) _ _) _ _) _ _) _ _ = w16 at *)
    have HM16 := HMP
    have HB16 := HBP
    have HI16 := HIP
    have lt16 := HM16.out.1.lt
    clear HMP HBP HIP HM15 HB15 HI15 z0 z1 z2 z3 z4 z5 f0 f1 f2 f3 f4 f5
    have HEQ : Hid (movedL d V s t = L) := by
      show _ = _
      rw [← HLL.out]
      unfold movedL awayE hereE
      rw [HF.out]
      dsimp only
      rw [HVE.out, HUE.out]
    -- MARKTA
    have HLN : Hid (L.length = V.length + 2) := by
      show _ = _
      rw [← HLL.out]
      rw [ins_len, ins_len]
    -- MARKTB
    obtain ⟨p0, p1, p2, p3, p4, p5⟩ := HM16.out.1.c6
    by_cases hbig : 64 < V.length + 2
    · have hbi : (64 : Int) < (V.length : Int) + 1 + 1 := by omega
      have hqq : q = (zeroP, 184) := by rw [← HQ.out, HQ1.out, if_neg (by rw [HOKB.out]; decide), if_pos (by rw [HEQ.out, HLN.out]; exact hbig)]
      -- MARKT
      (obtain ⟨z0, z1, z2, z3, z4, z5⟩ := (HM16.out.2.2.2.2.2.1).c6; have f0 := (HM16.out.2.2.2.2.2.1).fz 0; have f1 := (HM16.out.2.2.2.2.2.1).fz 1; have f2 := (HM16.out.2.2.2.2.2.1).fz 2; have f3 := (HM16.out.2.2.2.2.2.1).fz 3; have f4 := (HM16.out.2.2.2.2.2.1).fz 4; have f5 := (HM16.out.2.2.2.2.2.1).fz 5; go_wp2_with fail; have KZ := Lib.hid (zero_put (HM16.out.2.2.2.2.2.1) (.int .i64 0) (.string ⟨#[]⟩) (.string ⟨#[]⟩) (.bool false) (.slice none 0 0) (.slice none 0 0)); have HBZ := Lib.hid (below_put6 (HB16.out) (b := w.heap.size + 1 + 1) (by omega) (.int .i64 0) (.string ⟨#[]⟩) (.string ⟨#[]⟩) (.bool false) (.slice none 0 0) (.slice none 0 0)); generalize World.setCell (World.setCell (World.setCell (World.setCell (World.setCell (World.setCell _ _ _) _ _) _ _) _ _) _ _) _ _ = wz at *; obtain ⟨y0, y1, y2, y3, y4, y5⟩ := KZ.out.c6; first | exact bodyPost_ret (v := .tuple #[.agg #[.int .i64 0, .string ⟨#[]⟩, .string ⟨#[]⟩, .bool false, .slice none 0 0, .slice none 0 0], .int .i64 _]) (by simp [results, Tryz.results71, go_sem, y0, y1, y2, y3, y4, y5]) rfl (PRet.no (hqq) HBZ.out) | exact bodyPost_ret (v := .tuple #[.agg #[.int .i64 0, .string ⟨#[]⟩, .string ⟨#[]⟩, .bool false, .slice none 0 0, .slice none 0 0], .int .i64 _]) (by simp [results, Tryz.results71, go_sem, y0, y1, y2, y3, y4, y5]) rfl (PRet.no rfl HBZ.out))
    · have hbi : ¬ (64 : Int) < (V.length : Int) + 1 + 1 := by omega
      have hqq : q = (⟨pn, pc, pt, ps, L⟩, 0) := by rw [← HQ.out, HQ1.out, if_neg (by rw [HOKB.out]; decide), if_neg (by rw [HEQ.out, HLN.out]; exact hbig), HEQ.out]
      have HQQ := Lib.hid hqq
      clear hqq
      -- MARKTC
      have KZ := Lib.hid (zero_put HM16.out.2.2.2.2.2.1 (.int .i64 pn) (.string pc) (.string pt) (.bool ps) (.slice Eb L.length eb) (.slice Rb 0 rb))
      have HBZ := Lib.hid (below_put6 HB16.out (b := w.heap.size + 1 + 1) (by omega) (.int .i64 pn) (.string pc) (.string pt) (.bool ps) (.slice Eb L.length eb) (.slice Rb 0 rb))
      have HIZ := Lib.hid (in_putF HI16.out (b := w.heap.size + 1 + 1) (fun b off e => by have := HFB.out b off e; omega) (.int .i64 pn) (.string pc) (.string pt) (.bool ps) (.slice Eb L.length eb) (.slice Rb 0 rb))
      obtain ⟨z0, z1, z2, z3, z4, z5⟩ := HM16.out.2.2.2.2.2.1.c6
      have f0 := HM16.out.2.2.2.2.2.1.fz 0
      have f1 := HM16.out.2.2.2.2.2.1.fz 1
      have f2 := HM16.out.2.2.2.2.2.1.fz 2
      have f3 := HM16.out.2.2.2.2.2.1.fz 3
      have f4 := HM16.out.2.2.2.2.2.1.fz 4
      have f5 := HM16.out.2.2.2.2.2.1.fz 5
      go_wp2_with fail
      (generalize World.setCell (World.setCell (World.setCell (World.setCell (World.setCell (World.setCell _ _ _) _ _) _ _) _ _) _ _) _ _ = wz at *)
      obtain ⟨x0, x1, x2, x3, x4, x5⟩ := KZ.out.c6
      refine bodyPost_ret (v := .tuple #[.agg #[.int .i64 pn, .string pc, .string pt, .bool ps, .slice Eb L.length eb, .slice Rb 0 rb], .int .i64 0]) (by simp [results, Tryz.results71, go_sem, x0, x1, x2, x3, x4, x5]) rfl ?_
      rw [HQQ.out]
      exact ⟨Eb, eb, Rb, rb, rfl, HIZ.out, (fun b off e => by have := HFB.out b off e; omega), HBZ.out⟩
  | some x =>
    have HF := Lib.hid hf
    have hfi : findI V s = (posE V s : Int) := by unfold findI; rw [hf]
    have hph := pos_has HOK.out.srt hf
    rw [hfi]
    obtain ⟨k, hk⟩ : ∃ k, posE V s = k := ⟨_, rfl⟩
    rw [hk] at hph ⊢
    have HKE := Lib.hid hk
    have hkl := hph.1
    have hkn : (k : Int) < (V.length : Int) := by omega
    have hk0 : (0 : Int) ≤ (k : Int) := by omega
    have hk00 : ¬ (k : Int) < 0 := by omega
    have HPA := Lib.hid (HOK.out.act x (fnd_some hf).1)
    have HPU := Lib.hid (HOK.out.use x (fnd_some hf).1)
    obtain ⟨b, off, rfl, hbl, hat⟩ := (HIE.out.below HB12.out) (by omega)
    (have hcv := fun j (u : Value) (hj : (x).cells[j]? = some u) => ((hat).get hph.2 hj); have c0 := hcv 0 _ rfl; have c1 := hcv 1 _ rfl; have c2 := hcv 2 _ rfl; have c3 := hcv 3 _ rfl; have c4 := hcv 4 _ rfl; have c5 := hcv 5 _ rfl; have c6 := hcv 6 _ rfl; have c7 := hcv 7 _ rfl; have c8 := hcv 8 _ rfl; have c9 := hcv 9 _ rfl; have c10 := hcv 10 _ rfl; have c11 := hcv 11 _ rfl; have e12 : edtK.n = 12 := rfl; simp only [e12, Nat.add_zero] at c0 c1 c2 c3 c4 c5 c6 c7 c8 c9 c10 c11; clear hcv e12)
    clear hf hfi hk hph hat
    (obtain ⟨p0, p1, p2, p3, p4, p5⟩ := (HM12.out.2.2.2.2.2.2.1).c6)
    obtain ⟨f0, f1, f2, f3, f4, f5, f6, f7, f8, f9, f10, f11⟩ := HM12.out.1.f12
    have HMP := Lib.hid (show Bs [(w11.heap.size, 44, [.string x.path, .int .i64 x.act, .int .i64 x.ty.base, .bool x.ty.kw, .bool x.ty.ex, .bool x.ty.xe, .int .u64 x.con.sum, .int .i64 x.con.size, .int .i64 x.base, .string x.src, .int .i64 x.srcn, .int .i64 x.fence]), (w10.heap.size, 44, [.string s, .int .i64 5, .int .i64 v.ty.base, .bool v.ty.kw, .bool v.ty.ex, .bool v.ty.xe, .int .u64 0, .int .i64 0, .int .i64 v.num, .string ⟨#[]⟩, .int .i64 0, .int .i64 0]), (w9.heap.size, 44, [.string t, .int .i64 4, .int .i64 v.ty.base, .bool v.ty.kw, .bool v.ty.ex, .bool v.ty.xe, .int .u64 v.con.sum, .int .i64 v.con.size, .int .i64 u.num, .string s, .int .i64 v.num, .int .i64 0]), (w7.heap.size, 74, [.string v.path, .int .i64 v.num, .int .i64 v.chg, .int .i64 v.act, .int .i64 v.ty.base, .bool v.ty.kw, .bool v.ty.ex, .bool v.ty.xe, .int .u64 v.con.sum, .int .i64 v.con.size, .string v.src, .int .i64 v.srcn]), (w.heap.size + 1 + 1, 41, [.int .i64 0, .string ⟨#[]⟩, .string ⟨#[]⟩, .bool false, .slice none 0 0, .slice none 0 0]), (w.heap.size + 1, 37, [.slice A d.length ca, .slice B nb cb]), (w.heap.size, 41, [.int .i64 pn, .string pc, .string pt, .bool ps, .slice (some ⟨b, off, none⟩) V.length ec, .slice R 0 rc])] _ from ⟨HM12.out.1.put12 (.string x.path) (.int .i64 x.act) (.int .i64 x.ty.base) (.bool x.ty.kw) (.bool x.ty.ex) (.bool x.ty.xe) (.int .u64 x.con.sum) (.int .i64 x.con.size) (.int .i64 x.base) (.string x.src) (.int .i64 x.srcn) (.int .i64 x.fence), HM12.out.2.1.far12 (.string x.path) (.int .i64 x.act) (.int .i64 x.ty.base) (.bool x.ty.kw) (.bool x.ty.ex) (.bool x.ty.xe) (.int .u64 x.con.sum) (.int .i64 x.con.size) (.int .i64 x.base) (.string x.src) (.int .i64 x.srcn) (.int .i64 x.fence) (b := w11.heap.size) (by omega), HM12.out.2.2.1.far12 (.string x.path) (.int .i64 x.act) (.int .i64 x.ty.base) (.bool x.ty.kw) (.bool x.ty.ex) (.bool x.ty.xe) (.int .u64 x.con.sum) (.int .i64 x.con.size) (.int .i64 x.base) (.string x.src) (.int .i64 x.srcn) (.int .i64 x.fence) (b := w11.heap.size) (by omega), HM12.out.2.2.2.1.far12 (.string x.path) (.int .i64 x.act) (.int .i64 x.ty.base) (.bool x.ty.kw) (.bool x.ty.ex) (.bool x.ty.xe) (.int .u64 x.con.sum) (.int .i64 x.con.size) (.int .i64 x.base) (.string x.src) (.int .i64 x.srcn) (.int .i64 x.fence) (b := w11.heap.size) (by omega), HM12.out.2.2.2.2.1.far12 (.string x.path) (.int .i64 x.act) (.int .i64 x.ty.base) (.bool x.ty.kw) (.bool x.ty.ex) (.bool x.ty.xe) (.int .u64 x.con.sum) (.int .i64 x.con.size) (.int .i64 x.base) (.string x.src) (.int .i64 x.srcn) (.int .i64 x.fence) (b := w11.heap.size) (by omega), HM12.out.2.2.2.2.2.1.far12 (.string x.path) (.int .i64 x.act) (.int .i64 x.ty.base) (.bool x.ty.kw) (.bool x.ty.ex) (.bool x.ty.xe) (.int .u64 x.con.sum) (.int .i64 x.con.size) (.int .i64 x.base) (.string x.src) (.int .i64 x.srcn) (.int .i64 x.fence) (b := w11.heap.size) (by omega), HM12.out.2.2.2.2.2.2.1.far12 (.string x.path) (.int .i64 x.act) (.int .i64 x.ty.base) (.bool x.ty.kw) (.bool x.ty.ex) (.bool x.ty.xe) (.int .u64 x.con.sum) (.int .i64 x.con.size) (.int .i64 x.base) (.string x.src) (.int .i64 x.srcn) (.int .i64 x.fence) (b := w11.heap.size) (by omega), trivial⟩)
    have HBP := Lib.hid (below_put12 (.string x.path) (.int .i64 x.act) (.int .i64 x.ty.base) (.bool x.ty.kw) (.bool x.ty.ex) (.bool x.ty.xe) (.int .u64 x.con.sum) (.int .i64 x.con.size) (.int .i64 x.base) (.string x.src) (.int .i64 x.srcn) (.int .i64 x.fence) (b := w11.heap.size) HB12.out (by omega))
    -- MARKJ
    go_upto_region 14 with fail
    -- MARKK
    (generalize World.setCell (World.setCell (World.setCell (World.setCell (World.setCell (World.setCell (World.setCell (World.setCell (World.setCell (World.setCell (World.setCell (World.setCell _ _ _) _ _) _ _) _ _) _ _) _ _) _ _) _ _) _ _) _ _) _ _) _ _ = w13 at *)
    have HM13 := HMP
    have HB13 := HBP
    have lt13 := HM13.out.1.lt
    clear HMP HBP HM12 HB12 p0 p1 p2 p3 p4 p5 y0 y1 y2 y3 y4 y5 y6 y7 y8 y9 y10 y11 f0 f1 f2 f3 f4 f5 f6 f7 f8 f9 f10 f11 c0 c1 c2 c3 c4 c5 c6 c7 c8 c9 c10 c11 hbl
    (obtain ⟨p0, p1, p2, p3, p4, p5⟩ := (HM13.out.2.2.2.2.2.2.1).c6)
    go_wp2_with fail
    clear p0 p1 p2 p3 p4 p5
    obtain ⟨wo, hwo⟩ : ∃ y, y = w13 := ⟨_, rfl⟩
    go_loopw [83] (fun i wx => i = .int .i64 0 ∧ wx = wo) (fun _ _ => 0)
    case atStart => exact ⟨rfl, hwo.symm⟩
    case round =>
      obtain ⟨rfl, hwx⟩ := hrel
      have hww := (hwx.trans hwo).symm
      subst hww
      clear hwx hwo
      obtain ⟨y0, y1, y2, y3, y4, y5, y6, y7, y8, y9, y10, y11⟩ := HM13.out.1.c12
      cases lt
      case true =>
        have hbad : movBad d V s t = true := by
          unfold movBad; rw [HLTE.out]; rfl
        have hqq : q = (zeroP, 183) := by rw [← HQ.out, HQ1.out, if_pos hbad]
        (obtain ⟨z0, z1, z2, z3, z4, z5⟩ := (HM13.out.2.2.2.2.1).c6; have f0 := (HM13.out.2.2.2.2.1).fz 0; have f1 := (HM13.out.2.2.2.2.1).fz 1; have f2 := (HM13.out.2.2.2.2.1).fz 2; have f3 := (HM13.out.2.2.2.2.1).fz 3; have f4 := (HM13.out.2.2.2.2.1).fz 4; have f5 := (HM13.out.2.2.2.2.1).fz 5; go_wp2_with fail; have KZ := Lib.hid (zero_put (HM13.out.2.2.2.2.1) (.int .i64 0) (.string ⟨#[]⟩) (.string ⟨#[]⟩) (.bool false) (.slice none 0 0) (.slice none 0 0)); have HBZ := Lib.hid (below_put6 (HB13.out) (b := w.heap.size + 1 + 1) (by omega) (.int .i64 0) (.string ⟨#[]⟩) (.string ⟨#[]⟩) (.bool false) (.slice none 0 0) (.slice none 0 0)); generalize World.setCell (World.setCell (World.setCell (World.setCell (World.setCell (World.setCell _ _ _) _ _) _ _) _ _) _ _) _ _ = wz at *; obtain ⟨y0, y1, y2, y3, y4, y5⟩ := KZ.out.c6; first | exact bodyPost_ret (v := .tuple #[.agg #[.int .i64 0, .string ⟨#[]⟩, .string ⟨#[]⟩, .bool false, .slice none 0 0, .slice none 0 0], .int .i64 _]) (by simp [results, Tryz.results71, go_sem, y0, y1, y2, y3, y4, y5]) rfl (PRet.no (hqq) HBZ.out) | exact bodyPost_ret (v := .tuple #[.agg #[.int .i64 0, .string ⟨#[]⟩, .string ⟨#[]⟩, .bool false, .slice none 0 0, .slice none 0 0], .int .i64 _]) (by simp [results, Tryz.results71, go_sem, y0, y1, y2, y3, y4, y5]) rfl (PRet.no rfl HBZ.out))
      cases hst : (s.toList == t.toList)
      case true =>
        have hbad : movBad d V s t = true := by
          unfold movBad; rw [← path_tl, hst]; simp
        have hqq : q = (zeroP, 183) := by rw [← HQ.out, HQ1.out, if_pos hbad]
        (obtain ⟨z0, z1, z2, z3, z4, z5⟩ := (HM13.out.2.2.2.2.1).c6; have f0 := (HM13.out.2.2.2.2.1).fz 0; have f1 := (HM13.out.2.2.2.2.1).fz 1; have f2 := (HM13.out.2.2.2.2.1).fz 2; have f3 := (HM13.out.2.2.2.2.1).fz 3; have f4 := (HM13.out.2.2.2.2.1).fz 4; have f5 := (HM13.out.2.2.2.2.1).fz 5; go_wp2_with fail; have KZ := Lib.hid (zero_put (HM13.out.2.2.2.2.1) (.int .i64 0) (.string ⟨#[]⟩) (.string ⟨#[]⟩) (.bool false) (.slice none 0 0) (.slice none 0 0)); have HBZ := Lib.hid (below_put6 (HB13.out) (b := w.heap.size + 1 + 1) (by omega) (.int .i64 0) (.string ⟨#[]⟩) (.string ⟨#[]⟩) (.bool false) (.slice none 0 0) (.slice none 0 0)); generalize World.setCell (World.setCell (World.setCell (World.setCell (World.setCell (World.setCell _ _ _) _ _) _ _) _ _) _ _) _ _ = wz at *; obtain ⟨y0, y1, y2, y3, y4, y5⟩ := KZ.out.c6; first | exact bodyPost_ret (v := .tuple #[.agg #[.int .i64 0, .string ⟨#[]⟩, .string ⟨#[]⟩, .bool false, .slice none 0 0, .slice none 0 0], .int .i64 _]) (by simp [results, Tryz.results71, go_sem, y0, y1, y2, y3, y4, y5]) rfl (PRet.no (hqq) HBZ.out) | exact bodyPost_ret (v := .tuple #[.agg #[.int .i64 0, .string ⟨#[]⟩, .string ⟨#[]⟩, .bool false, .slice none 0 0, .slice none 0 0], .int .i64 _]) (by simp [results, Tryz.results71, go_sem, y0, y1, y2, y3, y4, y5]) rfl (PRet.no rfl HBZ.out))
      have hne : (s == t) = false := by rw [← path_tl]; exact hst
      have HNE := Lib.hid hne
      clear hne
      by_cases hx3 : x.act = 3
      · have x3a : (x.act == 3) = true := by simpa using hx3
        have x3b : decide (x.act = 3) = true := by simpa using hx3
        have HX3 := Lib.hid hx3
        clear hx3
        have hbad : movBad d V s t = true := by
          unfold movBad; rw [HF.out]; simp [HX3.out]
        have hqq : q = (zeroP, 183) := by rw [← HQ.out, HQ1.out, if_pos hbad]
        (obtain ⟨z0, z1, z2, z3, z4, z5⟩ := (HM13.out.2.2.2.2.1).c6; have f0 := (HM13.out.2.2.2.2.1).fz 0; have f1 := (HM13.out.2.2.2.2.1).fz 1; have f2 := (HM13.out.2.2.2.2.1).fz 2; have f3 := (HM13.out.2.2.2.2.1).fz 3; have f4 := (HM13.out.2.2.2.2.1).fz 4; have f5 := (HM13.out.2.2.2.2.1).fz 5; go_wp2_with fail; have KZ := Lib.hid (zero_put (HM13.out.2.2.2.2.1) (.int .i64 0) (.string ⟨#[]⟩) (.string ⟨#[]⟩) (.bool false) (.slice none 0 0) (.slice none 0 0)); have HBZ := Lib.hid (below_put6 (HB13.out) (b := w.heap.size + 1 + 1) (by omega) (.int .i64 0) (.string ⟨#[]⟩) (.string ⟨#[]⟩) (.bool false) (.slice none 0 0) (.slice none 0 0)); generalize World.setCell (World.setCell (World.setCell (World.setCell (World.setCell (World.setCell _ _ _) _ _) _ _) _ _) _ _) _ _ = wz at *; obtain ⟨y0, y1, y2, y3, y4, y5⟩ := KZ.out.c6; first | exact bodyPost_ret (v := .tuple #[.agg #[.int .i64 0, .string ⟨#[]⟩, .string ⟨#[]⟩, .bool false, .slice none 0 0, .slice none 0 0], .int .i64 _]) (by simp [results, Tryz.results71, go_sem, y0, y1, y2, y3, y4, y5]) rfl (PRet.no (hqq) HBZ.out) | exact bodyPost_ret (v := .tuple #[.agg #[.int .i64 0, .string ⟨#[]⟩, .string ⟨#[]⟩, .bool false, .slice none 0 0, .slice none 0 0], .int .i64 _]) (by simp [results, Tryz.results71, go_sem, y0, y1, y2, y3, y4, y5]) rfl (PRet.no rfl HBZ.out))
      have x3a : (x.act == 3) = false := by simpa using hx3
      have x3b : decide (x.act = 3) = false := by simpa using hx3
      by_cases hx5 : x.act = 5
      · have x5a : (x.act == 5) = true := by simpa using hx5
        have x5b : decide (x.act = 5) = true := by simpa using hx5
        have HX5 := Lib.hid hx5
        clear hx5
        have hbad : movBad d V s t = true := by
          unfold movBad; rw [HF.out]; simp [HX5.out]
        have hqq : q = (zeroP, 183) := by rw [← HQ.out, HQ1.out, if_pos hbad]
        (obtain ⟨z0, z1, z2, z3, z4, z5⟩ := (HM13.out.2.2.2.2.1).c6; have f0 := (HM13.out.2.2.2.2.1).fz 0; have f1 := (HM13.out.2.2.2.2.1).fz 1; have f2 := (HM13.out.2.2.2.2.1).fz 2; have f3 := (HM13.out.2.2.2.2.1).fz 3; have f4 := (HM13.out.2.2.2.2.1).fz 4; have f5 := (HM13.out.2.2.2.2.1).fz 5; go_wp2_with fail; have KZ := Lib.hid (zero_put (HM13.out.2.2.2.2.1) (.int .i64 0) (.string ⟨#[]⟩) (.string ⟨#[]⟩) (.bool false) (.slice none 0 0) (.slice none 0 0)); have HBZ := Lib.hid (below_put6 (HB13.out) (b := w.heap.size + 1 + 1) (by omega) (.int .i64 0) (.string ⟨#[]⟩) (.string ⟨#[]⟩) (.bool false) (.slice none 0 0) (.slice none 0 0)); generalize World.setCell (World.setCell (World.setCell (World.setCell (World.setCell (World.setCell _ _ _) _ _) _ _) _ _) _ _) _ _ = wz at *; obtain ⟨y0, y1, y2, y3, y4, y5⟩ := KZ.out.c6; first | exact bodyPost_ret (v := .tuple #[.agg #[.int .i64 0, .string ⟨#[]⟩, .string ⟨#[]⟩, .bool false, .slice none 0 0, .slice none 0 0], .int .i64 _]) (by simp [results, Tryz.results71, go_sem, y0, y1, y2, y3, y4, y5]) rfl (PRet.no (hqq) HBZ.out) | exact bodyPost_ret (v := .tuple #[.agg #[.int .i64 0, .string ⟨#[]⟩, .string ⟨#[]⟩, .bool false, .slice none 0 0, .slice none 0 0], .int .i64 _]) (by simp [results, Tryz.results71, go_sem, y0, y1, y2, y3, y4, y5]) rfl (PRet.no rfl HBZ.out))
      have x5a : (x.act == 5) = false := by simpa using hx5
      have x5b : decide (x.act = 5) = false := by simpa using hx5
      have HOKB : Hid (movBad d V s t = false) := by
        show _ = _
        unfold movBad
        rw [HF.out, HLTE.out, HNE.out]
        dsimp only
        rw [x3a, x5a]
        rfl
      (obtain ⟨p0, p1, p2, p3, p4, p5⟩ := (HM13.out.2.2.2.2.2.2.1).c6)
      have HM14 : Hid (Bs [(w13.heap.size, 41, [.int .i64 0, .string ⟨#[]⟩, .string ⟨#[]⟩, .bool false, .slice none 0 0, .slice none 0 0]), (w11.heap.size, 44, [.string x.path, .int .i64 x.act, .int .i64 x.ty.base, .bool x.ty.kw, .bool x.ty.ex, .bool x.ty.xe, .int .u64 x.con.sum, .int .i64 x.con.size, .int .i64 x.base, .string x.src, .int .i64 x.srcn, .int .i64 x.fence]), (w10.heap.size, 44, [.string s, .int .i64 5, .int .i64 v.ty.base, .bool v.ty.kw, .bool v.ty.ex, .bool v.ty.xe, .int .u64 0, .int .i64 0, .int .i64 v.num, .string ⟨#[]⟩, .int .i64 0, .int .i64 0]), (w9.heap.size, 44, [.string t, .int .i64 4, .int .i64 v.ty.base, .bool v.ty.kw, .bool v.ty.ex, .bool v.ty.xe, .int .u64 v.con.sum, .int .i64 v.con.size, .int .i64 u.num, .string s, .int .i64 v.num, .int .i64 0]), (w7.heap.size, 74, [.string v.path, .int .i64 v.num, .int .i64 v.chg, .int .i64 v.act, .int .i64 v.ty.base, .bool v.ty.kw, .bool v.ty.ex, .bool v.ty.xe, .int .u64 v.con.sum, .int .i64 v.con.size, .string v.src, .int .i64 v.srcn]), (w.heap.size + 1 + 1, 41, [.int .i64 0, .string ⟨#[]⟩, .string ⟨#[]⟩, .bool false, .slice none 0 0, .slice none 0 0]), (w.heap.size + 1, 37, [.slice A d.length ca, .slice B nb cb]), (w.heap.size, 41, [.int .i64 pn, .string pc, .string pt, .bool ps, .slice (some ⟨b, off, none⟩) V.length ec, .slice R 0 rc])] (w13.alloc (.cells [.int .i64 0, .string ⟨#[]⟩, .string ⟨#[]⟩, .bool false, .slice none 0 0, .slice none 0 0].toArray 41))) := Bs.cons (Blk.new w13 41 [.int .i64 0, .string ⟨#[]⟩, .string ⟨#[]⟩, .bool false, .slice none 0 0, .slice none 0 0]) (HM13.out.alloc _)
      have HB14 : Hid (Below w.heap.size w (w13.alloc (.cells [.int .i64 0, .string ⟨#[]⟩, .string ⟨#[]⟩, .bool false, .slice none 0 0, .slice none 0 0].toArray 41))) := HB13.out.alloc HB13.out.size _
      -- MARKL
      go_upto_region 26 with fail
      -- MARKM
      generalize hw14 : World.alloc w13 (.cells #[.int .i64 0, .string ⟨#[]⟩, .string ⟨#[]⟩, .bool false, .slice none 0 0, .slice none 0 0] 41) = w14 at *
      clear hw14 HM13 HB13 y0 y1 y2 y3 y4 y5 y6 y7 y8 y9 y10 y11 p0 p1 p2 p3 p4 p5 hst
      have lt14 := HM14.out.1.lt
      have HDL := Lib.hid (delE_len HOK.out.srt HF.out)
      have HDE : Hid (V.take k ++ V.drop (k + 1) = delE V s) := by
        show _ = _
        unfold delE
        rw [HKE.out]
      have HDM := Lib.hid (fun y => (mem_del (y := y) HOK.out.srt HF.out).1)
      have HSN : Hid (s ≠ t) := fun e => by have := HNE.out; rw [e, ba_self] at this; exact absurd this (by decide)
      have HXN : Hid (∀ y ∈ delE V s, y.path ≠ s) := fun y hy => (HDM.out y hy).2
      have HTN : Hid (∀ y ∈ delE V s, y.path ≠ t) := fun y hy => has_none HHT.out y (HDM.out y hy).1
      have HDU : Hid (∀ y ∈ delE V s, useB y.path = true) := fun y hy => HOK.out.use y (HDM.out y hy).1
      have HDS := Lib.hid (del_srt HOK.out.srt s)
      have hdl : (delE V s).length ≤ 64 := by have := HDL.out; omega
      obtain ⟨y0, y1, y2, y3, y4, y5, y6, y7, y8, y9, y10, y11⟩ := HM14.out.2.1.c12
      by_cases hx2 : x.act = 2
      · have x2n1 : ¬ x.act = 1 := by omega
        have x2n4 : ¬ x.act = 4 := by omega
        have x1a : (x.act == 1) = false := by simpa using x2n1
        have x1b : decide (x.act = 1) = false := by simpa using x2n1
        have x4a : (x.act == 4) = false := by simpa using x2n4
        have x4b : decide (x.act = 4) = false := by simpa using x2n4
        have HX2 := Lib.hid hx2
        clear hx2
        obtain ⟨z0, z1, z2, z3, z4, z5, z6, z7, z8, z9, z10, z11⟩ := HM14.out.2.2.2.1.c12
        obtain ⟨f0, f1, f2, f3, f4, f5, f6, f7, f8, f9, f10, f11⟩ := HM14.out.2.2.2.1.f12
        have HMP := Lib.hid (Bs.drew (show Bs [(w13.heap.size, 41, [.int .i64 0, .string ⟨#[]⟩, .string ⟨#[]⟩, .bool false, .slice none 0 0, .slice none 0 0]), (w11.heap.size, 44, [.string x.path, .int .i64 x.act, .int .i64 x.ty.base, .bool x.ty.kw, .bool x.ty.ex, .bool x.ty.xe, .int .u64 x.con.sum, .int .i64 x.con.size, .int .i64 x.base, .string x.src, .int .i64 x.srcn, .int .i64 x.fence]), (w10.heap.size, 44, [.string s, .int .i64 5, .int .i64 v.ty.base, .bool v.ty.kw, .bool v.ty.ex, .bool v.ty.xe, .int .u64 0, .int .i64 0, .int .i64 v.num, .string ⟨#[]⟩, .int .i64 0, .int .i64 0]), (w9.heap.size, 44, [.string t, .int .i64 4, .int .i64 x.ty.base, .bool x.ty.kw, .bool x.ty.ex, .bool x.ty.xe, .int .u64 x.con.sum, .int .i64 x.con.size, .int .i64 u.num, .string s, .int .i64 v.num, .int .i64 0]), (w7.heap.size, 74, [.string v.path, .int .i64 v.num, .int .i64 v.chg, .int .i64 v.act, .int .i64 v.ty.base, .bool v.ty.kw, .bool v.ty.ex, .bool v.ty.xe, .int .u64 v.con.sum, .int .i64 v.con.size, .string v.src, .int .i64 v.srcn]), (w.heap.size + 1 + 1, 41, [.int .i64 0, .string ⟨#[]⟩, .string ⟨#[]⟩, .bool false, .slice none 0 0, .slice none 0 0]), (w.heap.size + 1, 37, [.slice A d.length ca, .slice B nb cb]), (w.heap.size, 41, [.int .i64 pn, .string pc, .string pt, .bool ps, .slice (some ⟨b, off, none⟩) V.length ec, .slice R 0 rc])] _ from ⟨((((((HM14.out.1.far (p := ⟨w9.heap.size, 2, none⟩) (by dsimp only; omega) (.int .i64 x.ty.base)).far (p := ⟨w9.heap.size, 3, none⟩) (by dsimp only; omega) (.bool x.ty.kw)).far (p := ⟨w9.heap.size, 4, none⟩) (by dsimp only; omega) (.bool x.ty.ex)).far (p := ⟨w9.heap.size, 5, none⟩) (by dsimp only; omega) (.bool x.ty.xe)).far (p := ⟨w9.heap.size, 6, none⟩) (by dsimp only; omega) (.int .u64 x.con.sum)).far (p := ⟨w9.heap.size, 7, none⟩) (by dsimp only; omega) (.int .i64 x.con.size)), ((((((HM14.out.2.1.far (p := ⟨w9.heap.size, 2, none⟩) (by dsimp only; omega) (.int .i64 x.ty.base)).far (p := ⟨w9.heap.size, 3, none⟩) (by dsimp only; omega) (.bool x.ty.kw)).far (p := ⟨w9.heap.size, 4, none⟩) (by dsimp only; omega) (.bool x.ty.ex)).far (p := ⟨w9.heap.size, 5, none⟩) (by dsimp only; omega) (.bool x.ty.xe)).far (p := ⟨w9.heap.size, 6, none⟩) (by dsimp only; omega) (.int .u64 x.con.sum)).far (p := ⟨w9.heap.size, 7, none⟩) (by dsimp only; omega) (.int .i64 x.con.size)), ((((((HM14.out.2.2.1.far (p := ⟨w9.heap.size, 2, none⟩) (by dsimp only; omega) (.int .i64 x.ty.base)).far (p := ⟨w9.heap.size, 3, none⟩) (by dsimp only; omega) (.bool x.ty.kw)).far (p := ⟨w9.heap.size, 4, none⟩) (by dsimp only; omega) (.bool x.ty.ex)).far (p := ⟨w9.heap.size, 5, none⟩) (by dsimp only; omega) (.bool x.ty.xe)).far (p := ⟨w9.heap.size, 6, none⟩) (by dsimp only; omega) (.int .u64 x.con.sum)).far (p := ⟨w9.heap.size, 7, none⟩) (by dsimp only; omega) (.int .i64 x.con.size)), ((((((HM14.out.2.2.2.1.set 2 (.int .i64 x.ty.base)).set 3 (.bool x.ty.kw)).set 4 (.bool x.ty.ex)).set 5 (.bool x.ty.xe)).set 6 (.int .u64 x.con.sum)).set 7 (.int .i64 x.con.size)), ((((((HM14.out.2.2.2.2.1.far (p := ⟨w9.heap.size, 2, none⟩) (by dsimp only; omega) (.int .i64 x.ty.base)).far (p := ⟨w9.heap.size, 3, none⟩) (by dsimp only; omega) (.bool x.ty.kw)).far (p := ⟨w9.heap.size, 4, none⟩) (by dsimp only; omega) (.bool x.ty.ex)).far (p := ⟨w9.heap.size, 5, none⟩) (by dsimp only; omega) (.bool x.ty.xe)).far (p := ⟨w9.heap.size, 6, none⟩) (by dsimp only; omega) (.int .u64 x.con.sum)).far (p := ⟨w9.heap.size, 7, none⟩) (by dsimp only; omega) (.int .i64 x.con.size)), ((((((HM14.out.2.2.2.2.2.1.far (p := ⟨w9.heap.size, 2, none⟩) (by dsimp only; omega) (.int .i64 x.ty.base)).far (p := ⟨w9.heap.size, 3, none⟩) (by dsimp only; omega) (.bool x.ty.kw)).far (p := ⟨w9.heap.size, 4, none⟩) (by dsimp only; omega) (.bool x.ty.ex)).far (p := ⟨w9.heap.size, 5, none⟩) (by dsimp only; omega) (.bool x.ty.xe)).far (p := ⟨w9.heap.size, 6, none⟩) (by dsimp only; omega) (.int .u64 x.con.sum)).far (p := ⟨w9.heap.size, 7, none⟩) (by dsimp only; omega) (.int .i64 x.con.size)), ((((((HM14.out.2.2.2.2.2.2.1.far (p := ⟨w9.heap.size, 2, none⟩) (by dsimp only; omega) (.int .i64 x.ty.base)).far (p := ⟨w9.heap.size, 3, none⟩) (by dsimp only; omega) (.bool x.ty.kw)).far (p := ⟨w9.heap.size, 4, none⟩) (by dsimp only; omega) (.bool x.ty.ex)).far (p := ⟨w9.heap.size, 5, none⟩) (by dsimp only; omega) (.bool x.ty.xe)).far (p := ⟨w9.heap.size, 6, none⟩) (by dsimp only; omega) (.int .u64 x.con.sum)).far (p := ⟨w9.heap.size, 7, none⟩) (by dsimp only; omega) (.int .i64 x.con.size)), ((((((HM14.out.2.2.2.2.2.2.2.1.far (p := ⟨w9.heap.size, 2, none⟩) (by dsimp only; omega) (.int .i64 x.ty.base)).far (p := ⟨w9.heap.size, 3, none⟩) (by dsimp only; omega) (.bool x.ty.kw)).far (p := ⟨w9.heap.size, 4, none⟩) (by dsimp only; omega) (.bool x.ty.ex)).far (p := ⟨w9.heap.size, 5, none⟩) (by dsimp only; omega) (.bool x.ty.xe)).far (p := ⟨w9.heap.size, 6, none⟩) (by dsimp only; omega) (.int .u64 x.con.sum)).far (p := ⟨w9.heap.size, 7, none⟩) (by dsimp only; omega) (.int .i64 x.con.size)), trivial⟩))
        have HBP := Lib.hid ((((((((HB14.out.setCell (p := ⟨w9.heap.size, 2, none⟩) (by dsimp only; omega) (.int .i64 x.ty.base)).setCell (p := ⟨w9.heap.size, 3, none⟩) (by dsimp only; omega) (.bool x.ty.kw)).setCell (p := ⟨w9.heap.size, 4, none⟩) (by dsimp only; omega) (.bool x.ty.ex)).setCell (p := ⟨w9.heap.size, 5, none⟩) (by dsimp only; omega) (.bool x.ty.xe)).setCell (p := ⟨w9.heap.size, 6, none⟩) (by dsimp only; omega) (.int .u64 x.con.sum)).setCell (p := ⟨w9.heap.size, 7, none⟩) (by dsimp only; omega) (.int .i64 x.con.size))).drew)
        have hgn : w9.heap.size ≠ w11.heap.size := by omega
        have hgm : w11.heap.size ≠ w9.heap.size := by omega
        -- MARKN
        go_wp2_with fail
        -- MARKNA
        go_region
        -- MARKO
        obtain ⟨w15, hw15⟩ : ∃ zz, zz = (((((((w14.setCell ⟨w9.heap.size, 2, none⟩ (.int .i64 x.ty.base)).setCell ⟨w9.heap.size, 3, none⟩ (.bool x.ty.kw)).setCell ⟨w9.heap.size, 4, none⟩ (.bool x.ty.ex)).setCell ⟨w9.heap.size, 5, none⟩ (.bool x.ty.xe)).setCell ⟨w9.heap.size, 6, none⟩ (.int .u64 x.con.sum)).setCell ⟨w9.heap.size, 7, none⟩ (.int .i64 x.con.size))).drew := ⟨_, rfl⟩
        have HM15 : Hid (Bs [(w13.heap.size, 41, [.int .i64 0, .string ⟨#[]⟩, .string ⟨#[]⟩, .bool false, .slice none 0 0, .slice none 0 0]), (w11.heap.size, 44, [.string x.path, .int .i64 x.act, .int .i64 x.ty.base, .bool x.ty.kw, .bool x.ty.ex, .bool x.ty.xe, .int .u64 x.con.sum, .int .i64 x.con.size, .int .i64 x.base, .string x.src, .int .i64 x.srcn, .int .i64 x.fence]), (w10.heap.size, 44, [.string s, .int .i64 5, .int .i64 v.ty.base, .bool v.ty.kw, .bool v.ty.ex, .bool v.ty.xe, .int .u64 0, .int .i64 0, .int .i64 v.num, .string ⟨#[]⟩, .int .i64 0, .int .i64 0]), (w9.heap.size, 44, [.string t, .int .i64 4, .int .i64 x.ty.base, .bool x.ty.kw, .bool x.ty.ex, .bool x.ty.xe, .int .u64 x.con.sum, .int .i64 x.con.size, .int .i64 u.num, .string s, .int .i64 v.num, .int .i64 0]), (w7.heap.size, 74, [.string v.path, .int .i64 v.num, .int .i64 v.chg, .int .i64 v.act, .int .i64 v.ty.base, .bool v.ty.kw, .bool v.ty.ex, .bool v.ty.xe, .int .u64 v.con.sum, .int .i64 v.con.size, .string v.src, .int .i64 v.srcn]), (w.heap.size + 1 + 1, 41, [.int .i64 0, .string ⟨#[]⟩, .string ⟨#[]⟩, .bool false, .slice none 0 0, .slice none 0 0]), (w.heap.size + 1, 37, [.slice A d.length ca, .slice B nb cb]), (w.heap.size, 41, [.int .i64 pn, .string pc, .string pt, .bool ps, .slice (some ⟨b, off, none⟩) V.length ec, .slice R 0 rc])] w15) := by rw [hw15]; exact HMP.out
        -- MARKOB
        have HB15 : Hid (Below w.heap.size w w15) := by rw [hw15]; exact HBP.out
        -- MARKOC
        rw [← hw15]
        -- MARKOD
        clear hw15
        have lt15 := HM15.out.1.lt
        clear HMP HBP HM14 HB14 f0 f1 f2 f3 f4 f5 f6 f7 f8 f9 f10 f11 z0 z1 z2 z3 z4 z5 z6 z7 z8 z9 z10 z11 y0 y1 y2 y3 y4 y5 y6 y7 y8 y9 y10 y11
        obtain ⟨y0, y1, y2, y3, y4, y5, y6, y7, y8, y9, y10, y11⟩ := HM15.out.2.1.c12
        -- MARKOE
        go_wp2_with fail
        have hS : Bs [(w10.heap.size, 44, [.string s, .int .i64 5, .int .i64 v.ty.base, .bool v.ty.kw, .bool v.ty.ex, .bool v.ty.xe, .int .u64 0, .int .i64 0, .int .i64 v.num, .string ⟨#[]⟩, .int .i64 0, .int .i64 0]), (w9.heap.size, 44, [.string t, .int .i64 4, .int .i64 x.ty.base, .bool x.ty.kw, .bool x.ty.ex, .bool x.ty.xe, .int .u64 x.con.sum, .int .i64 x.con.size, .int .i64 u.num, .string s, .int .i64 v.num, .int .i64 0]), (w.heap.size, 41, [.int .i64 pn, .string pc, .string pt, .bool ps, .slice (some ⟨b, off, none⟩) V.length ec, .slice R 0 rc])] w15.drew := Bs.drew (show Bs [(w10.heap.size, 44, [.string s, .int .i64 5, .int .i64 v.ty.base, .bool v.ty.kw, .bool v.ty.ex, .bool v.ty.xe, .int .u64 0, .int .i64 0, .int .i64 v.num, .string ⟨#[]⟩, .int .i64 0, .int .i64 0]), (w9.heap.size, 44, [.string t, .int .i64 4, .int .i64 x.ty.base, .bool x.ty.kw, .bool x.ty.ex, .bool x.ty.xe, .int .u64 x.con.sum, .int .i64 x.con.size, .int .i64 u.num, .string s, .int .i64 v.num, .int .i64 0]), (w.heap.size, 41, [.int .i64 pn, .string pc, .string pt, .bool ps, .slice (some ⟨b, off, none⟩) V.length ec, .slice R 0 rc])] w15 from ⟨HM15.out.2.2.1, HM15.out.2.2.2.1, HM15.out.2.2.2.2.2.2.2.1, trivial⟩)
        have HMD := Lib.hid (HM15.out.drew)
        have HBD := Lib.hid (HB15.out.drew)
        have hzd : w15.heap.size ≤ w15.drew.heap.size := Nat.le_refl _
        -- MARKP
        (refine wp_region_mixf (S := Bs [(w10.heap.size, 44, [.string s, .int .i64 5, .int .i64 v.ty.base, .bool v.ty.kw, .bool v.ty.ex, .bool v.ty.xe, .int .u64 0, .int .i64 0, .int .i64 v.num, .string ⟨#[]⟩, .int .i64 0, .int .i64 0]), (w9.heap.size, 44, [.string t, .int .i64 4, .int .i64 x.ty.base, .bool x.ty.kw, .bool x.ty.ex, .bool x.ty.xe, .int .u64 x.con.sum, .int .i64 x.con.size, .int .i64 u.num, .string s, .int .i64 v.num, .int .i64 0]), (w.heap.size, 41, [.int .i64 pn, .string pc, .string pt, .bool ps, .slice (some ⟨b, off, none⟩) V.length ec, .slice R 0 rc])]) [] [([], 7)] [] 6 5 [([0, 1, 3, 4], 2)] (by kernel_rfl) (by kernel_rfl) (by intro c a d v w h; cases d <;> exact h) hS ?_; have hN : Nonempty (Held (Bs [(w10.heap.size, 44, [.string s, .int .i64 5, .int .i64 v.ty.base, .bool v.ty.kw, .bool v.ty.ex, .bool v.ty.xe, .int .u64 0, .int .i64 0, .int .i64 v.num, .string ⟨#[]⟩, .int .i64 0, .int .i64 0]), (w9.heap.size, 44, [.string t, .int .i64 4, .int .i64 x.ty.base, .bool x.ty.kw, .bool x.ty.ex, .bool x.ty.xe, .int .u64 x.con.sum, .int .i64 x.con.size, .int .i64 u.num, .string s, .int .i64 v.num, .int .i64 0]), (w.heap.size, 41, [.int .i64 pn, .string pc, .string pt, .bool ps, .slice (some ⟨b, off, none⟩) V.length ec, .slice R 0 rc])])) := ⟨⟨_, hS⟩⟩)
        obtain ⟨a0, a1, a2, a3, a4, a5, a6, a7, a8, a9, a10, a11⟩ := fun_and12 (fun y : Held (Bs [(w10.heap.size, 44, [.string s, .int .i64 5, .int .i64 v.ty.base, .bool v.ty.kw, .bool v.ty.ex, .bool v.ty.xe, .int .u64 0, .int .i64 0, .int .i64 v.num, .string ⟨#[]⟩, .int .i64 0, .int .i64 0]), (w9.heap.size, 44, [.string t, .int .i64 4, .int .i64 x.ty.base, .bool x.ty.kw, .bool x.ty.ex, .bool x.ty.xe, .int .u64 x.con.sum, .int .i64 x.con.size, .int .i64 u.num, .string s, .int .i64 v.num, .int .i64 0]), (w.heap.size, 41, [.int .i64 pn, .string pc, .string pt, .bool ps, .slice (some ⟨b, off, none⟩) V.length ec, .slice R 0 rc])]) => y.ok.1.c12)
        obtain ⟨b0, b1, b2, b3, b4, b5, b6, b7, b8, b9, b10, b11⟩ := fun_and12 (fun y : Held (Bs [(w10.heap.size, 44, [.string s, .int .i64 5, .int .i64 v.ty.base, .bool v.ty.kw, .bool v.ty.ex, .bool v.ty.xe, .int .u64 0, .int .i64 0, .int .i64 v.num, .string ⟨#[]⟩, .int .i64 0, .int .i64 0]), (w9.heap.size, 44, [.string t, .int .i64 4, .int .i64 x.ty.base, .bool x.ty.kw, .bool x.ty.ex, .bool x.ty.xe, .int .u64 x.con.sum, .int .i64 x.con.size, .int .i64 u.num, .string s, .int .i64 v.num, .int .i64 0]), (w.heap.size, 41, [.int .i64 pn, .string pc, .string pt, .bool ps, .slice (some ⟨b, off, none⟩) V.length ec, .slice R 0 rc])]) => y.ok.2.1.c12)
        obtain ⟨p0, p1, p2, p3, p4, p5⟩ := fun_and6 (fun y : Held (Bs [(w10.heap.size, 44, [.string s, .int .i64 5, .int .i64 v.ty.base, .bool v.ty.kw, .bool v.ty.ex, .bool v.ty.xe, .int .u64 0, .int .i64 0, .int .i64 v.num, .string ⟨#[]⟩, .int .i64 0, .int .i64 0]), (w9.heap.size, 44, [.string t, .int .i64 4, .int .i64 x.ty.base, .bool x.ty.kw, .bool x.ty.ex, .bool x.ty.xe, .int .u64 x.con.sum, .int .i64 x.con.size, .int .i64 u.num, .string s, .int .i64 v.num, .int .i64 0]), (w.heap.size, 41, [.int .i64 pn, .string pc, .string pt, .bool ps, .slice (some ⟨b, off, none⟩) V.length ec, .slice R 0 rc])]) => y.ok.2.2.1.c6)
        (unfold wpMixF wpRd; (repeat (first | simp only [List.filterMap_cons] | simp only [List.filterMap_nil] | simp only [List.getElem?_toArray] | simp only [List.getElem?_cons_zero] | simp only [List.getElem?_cons_succ])); (try dsimp only); change wpQuiet _ _ _ _ (_ :: _ :: _ :: _ :: []) _; (repeat (go_big_quiet_step (fail))); refine wpQuiet_nil ?_; (try dsimp only))
        -- MARKQ
        clear p0 p1 p2 p3 p4 p5 a0 a1 a2 a3 a4 a5 a6 a7 a8 a9 a10 a11 b0 b1 b2 b3 b4 b5 b6 b7 b8 b9 b10 b11
        generalize hwd : w15.drew = w16 at *
        clear hwd HM15 HB15 y0 y1 y2 y3 y4 y5 y6 y7 y8 y9 y10 y11
        have ltd := HMD.out.1.lt
        have HWK := HWO.out k (some ⟨b, off, none⟩) w16 (HIE.out.below HBD.out) hkl
        rw [HDE.out] at HWK
        have HWW := Lib.hid HWK
        clear HWK
        refine ⟨?_, ?_⟩
        ·
          (unfold wpAct; (repeat (first | simp only [List.getElem?_toArray] | simp only [List.getElem?_cons_zero] | simp only [List.getElem?_cons_succ])); (try dsimp only))
          go_wp2_with fail
          refine HWW.out.mono ?_
          rintro e wa ⟨Ea, ea, Ra, ra, rfl, hia, hfa, hba⟩
          unfold pndV pndC
          dsimp only at hia ⊢
          have HMa := Lib.hid (HMD.out.below hba)
          have HBa := Lib.hid (HBD.out.trans (hba.mono HBD.out.size))
          have HIa := Lib.hid hia
          have hza := hba.size
          have hSa := hS.below hba
          clear hia hfa hba HWW HMD HBD hS
          go_wp2_with fail
          refine ⟨hSa, ?_⟩
          (unfold wpMixF wpRd; (repeat (first | simp only [List.filterMap_cons] | simp only [List.filterMap_nil] | simp only [List.getElem?_toArray] | simp only [List.getElem?_cons_zero] | simp only [List.getElem?_cons_succ])); (try dsimp only); change wpQuiet _ _ _ _ ([]) _; (repeat (go_big_quiet_step (fail))); refine wpQuiet_nil ?_; (try dsimp only))
          (unfold wpAct; (repeat (first | simp only [List.getElem?_toArray] | simp only [List.getElem?_cons_zero] | simp only [List.getElem?_cons_succ])); (try dsimp only))
          go_wp2_with fail
          have hfl : edtK.flat [⟨s, 5, v.ty, zeroCon, v.num, ⟨#[]⟩, 0, 0⟩, ⟨t, 4, x.ty, x.con, u.num, s, v.num, 0⟩] = [.string s, .int .i64 5, .int .i64 v.ty.base, .bool v.ty.kw, .bool v.ty.ex, .bool v.ty.xe, .int .u64 0, .int .i64 0, .int .i64 v.num, .string ⟨#[]⟩, .int .i64 0, .int .i64 0, .string t, .int .i64 4, .int .i64 x.ty.base, .bool x.ty.kw, .bool x.ty.ex, .bool x.ty.xe, .int .u64 x.con.sum, .int .i64 x.con.size, .int .i64 u.num, .string s, .int .i64 v.num, .int .i64 0] := rfl
          have hbx : Below wa.heap.size wa (wa.alloc (.cells [.string s, .int .i64 5, .int .i64 v.ty.base, .bool v.ty.kw, .bool v.ty.ex, .bool v.ty.xe, .int .u64 0, .int .i64 0, .int .i64 v.num, .string ⟨#[]⟩, .int .i64 0, .int .i64 0, .string t, .int .i64 4, .int .i64 x.ty.base, .bool x.ty.kw, .bool x.ty.ex, .bool x.ty.xe, .int .u64 x.con.sum, .int .i64 x.con.size, .int .i64 u.num, .string s, .int .i64 v.num, .int .i64 0].toArray 44)) := (Below.refl _ _).alloc (Nat.le_refl _) _
          have HMb := Lib.hid (HMa.out.below hbx)
          have HBb := Lib.hid (HBa.out.trans (hbx.mono HBa.out.size))
          have HIb := Lib.hid (HIa.out.below hbx)
          have HFb := Lib.hid (in_lit wa _ _ 44 hfl)
          have hSb := hSa.below hbx
          have hzb := hbx.size
          clear hfl hbx HMa HBa HIa hSa
          refine ⟨hSb, ?_⟩
          generalize hwb : World.alloc wa (.cells #[.string s, .int .i64 5, .int .i64 v.ty.base, .bool v.ty.kw, .bool v.ty.ex, .bool v.ty.xe, .int .u64 0, .int .i64 0, .int .i64 v.num, .string ⟨#[]⟩, .int .i64 0, .int .i64 0, .string t, .int .i64 4, .int .i64 x.ty.base, .bool x.ty.kw, .bool x.ty.ex, .bool x.ty.xe, .int .u64 x.con.sum, .int .i64 x.con.size, .int .i64 u.num, .string s, .int .i64 v.num, .int .i64 0] 44) = wb at *
          clear hwb
          (unfold wpMix wpRd; (repeat (first | simp only [List.filterMap_cons] | simp only [List.filterMap_nil] | simp only [List.getElem?_toArray] | simp only [List.getElem?_cons_zero] | simp only [List.getElem?_cons_succ])); (try dsimp only); change wpQuiet _ _ _ _ ([]) _; (repeat (go_big_quiet_step (fail))); refine wpQuiet_nil ?_; (try dsimp only))
          ((repeat (first | simp only [List.getElem?_toArray] | simp only [List.getElem?_cons_zero] | simp only [List.getElem?_cons_succ])); (try dsimp only))
          have HL := HWI.out (delE V s) [⟨s, 5, v.ty, zeroCon, v.num, ⟨#[]⟩, 0, 0⟩, ⟨t, 4, x.ty, x.con, u.num, s, v.num, 0⟩] (insE (insE (delE V s) ⟨s, 5, v.ty, zeroCon, v.num, ⟨#[]⟩, 0, 0⟩) ⟨t, 4, x.ty, x.con, u.num, s, v.num, 0⟩) wa.heap.size Ea ea Ra ra wb HIb.out HFb.out (by simp; omega) (fun z hz => by
            rcases List.mem_append.1 hz with hz | hz
            · exact HDU.out z hz
            · simp only [List.mem_cons, List.not_mem_nil, or_false] at hz
              rcases hz with rfl | rfl
              · exact HUSE.out
              · exact HUTE.out) (moved_srt HDS.out HXN.out HTN.out HSN.out) (ins_perm2 _ _ _) (by simp) (HG.out.below HBb.out)
          obtain ⟨L, hL⟩ : ∃ L, insE (insE (delE V s) ⟨s, 5, v.ty, zeroCon, v.num, ⟨#[]⟩, 0, 0⟩) ⟨t, 4, x.ty, x.con, u.num, s, v.num, 0⟩ = L := ⟨_, rfl⟩
          rw [hL] at HL
          have HLL := Lib.hid hL
          have HWL := Lib.hid HL
          clear hL HL
          -- MARKR
          go_wp2_with fail
          refine HWL.out.mono ?_
          rintro e wl ⟨Eb, eb, Rb, rb, rfl, hib, hfb, hbb⟩
          unfold pndV pndC
          dsimp only at hib ⊢
          have HMl := Lib.hid (HMb.out.below hbb)
          have HBl := Lib.hid (HBb.out.trans (hbb.mono HBb.out.size))
          have HIl := Lib.hid hib
          have hzl := hbb.size
          have HFB : Hid (∀ b off, Eb = some ⟨b, off, none⟩ → w15.heap.size ≤ b) := fun b off e => by have := hfb b off e; omega
          have hSl : Bs [(w10.heap.size, 44, [.string s, .int .i64 5, .int .i64 v.ty.base, .bool v.ty.kw, .bool v.ty.ex, .bool v.ty.xe, .int .u64 0, .int .i64 0, .int .i64 v.num, .string ⟨#[]⟩, .int .i64 0, .int .i64 0]), (w9.heap.size, 44, [.string t, .int .i64 4, .int .i64 x.ty.base, .bool x.ty.kw, .bool x.ty.ex, .bool x.ty.xe, .int .u64 x.con.sum, .int .i64 x.con.size, .int .i64 u.num, .string s, .int .i64 v.num, .int .i64 0]), (w.heap.size, 41, [.int .i64 pn, .string pc, .string pt, .bool ps, .slice (some ⟨b, off, none⟩) V.length ec, .slice R 0 rc])] wl := ⟨HMl.out.2.2.1, HMl.out.2.2.2.1, HMl.out.2.2.2.2.2.2.2.1, trivial⟩
          clear hfb hbb hib HMb HBb HWL
          have ltl := HMl.out.1.lt
          go_wp2_with fail
          refine ⟨hSl, ?_⟩
          (unfold wpMix wpRd; (repeat (first | simp only [List.filterMap_cons] | simp only [List.filterMap_nil] | simp only [List.getElem?_toArray] | simp only [List.getElem?_cons_zero] | simp only [List.getElem?_cons_succ])); (try dsimp only); change wpQuiet _ _ _ _ ([]) _; (repeat (go_big_quiet_step (fail))); refine wpQuiet_nil ?_; (try dsimp only))
          ((repeat (first | simp only [List.getElem?_toArray] | simp only [List.getElem?_cons_zero] | simp only [List.getElem?_cons_succ])); (try dsimp only))
          obtain ⟨z0, z1, z2, z3, z4, z5⟩ := HMl.out.1.c6
          have f0 := HMl.out.1.fz 0
          have f1 := HMl.out.1.fz 1
          have f2 := HMl.out.1.fz 2
          have f3 := HMl.out.1.fz 3
          have f4 := HMl.out.1.fz 4
          have f5 := HMl.out.1.fz 5
          have HMP := Lib.hid (show Bs [(w13.heap.size, 41, [.int .i64 pn, .string pc, .string pt, .bool ps, .slice Eb L.length eb, .slice Rb 0 rb]), (w11.heap.size, 44, [.string x.path, .int .i64 x.act, .int .i64 x.ty.base, .bool x.ty.kw, .bool x.ty.ex, .bool x.ty.xe, .int .u64 x.con.sum, .int .i64 x.con.size, .int .i64 x.base, .string x.src, .int .i64 x.srcn, .int .i64 x.fence]), (w10.heap.size, 44, [.string s, .int .i64 5, .int .i64 v.ty.base, .bool v.ty.kw, .bool v.ty.ex, .bool v.ty.xe, .int .u64 0, .int .i64 0, .int .i64 v.num, .string ⟨#[]⟩, .int .i64 0, .int .i64 0]), (w9.heap.size, 44, [.string t, .int .i64 4, .int .i64 x.ty.base, .bool x.ty.kw, .bool x.ty.ex, .bool x.ty.xe, .int .u64 x.con.sum, .int .i64 x.con.size, .int .i64 u.num, .string s, .int .i64 v.num, .int .i64 0]), (w7.heap.size, 74, [.string v.path, .int .i64 v.num, .int .i64 v.chg, .int .i64 v.act, .int .i64 v.ty.base, .bool v.ty.kw, .bool v.ty.ex, .bool v.ty.xe, .int .u64 v.con.sum, .int .i64 v.con.size, .string v.src, .int .i64 v.srcn]), (w.heap.size + 1 + 1, 41, [.int .i64 0, .string ⟨#[]⟩, .string ⟨#[]⟩, .bool false, .slice none 0 0, .slice none 0 0]), (w.heap.size + 1, 37, [.slice A d.length ca, .slice B nb cb]), (w.heap.size, 41, [.int .i64 pn, .string pc, .string pt, .bool ps, .slice (some ⟨b, off, none⟩) V.length ec, .slice R 0 rc])] _ from ⟨zero_put HMl.out.1 (.int .i64 pn) (.string pc) (.string pt) (.bool ps) (.slice Eb L.length eb) (.slice Rb 0 rb), far6 HMl.out.2.1 (b := w13.heap.size) (by omega) (.int .i64 pn) (.string pc) (.string pt) (.bool ps) (.slice Eb L.length eb) (.slice Rb 0 rb), far6 HMl.out.2.2.1 (b := w13.heap.size) (by omega) (.int .i64 pn) (.string pc) (.string pt) (.bool ps) (.slice Eb L.length eb) (.slice Rb 0 rb), far6 HMl.out.2.2.2.1 (b := w13.heap.size) (by omega) (.int .i64 pn) (.string pc) (.string pt) (.bool ps) (.slice Eb L.length eb) (.slice Rb 0 rb), far6 HMl.out.2.2.2.2.1 (b := w13.heap.size) (by omega) (.int .i64 pn) (.string pc) (.string pt) (.bool ps) (.slice Eb L.length eb) (.slice Rb 0 rb), far6 HMl.out.2.2.2.2.2.1 (b := w13.heap.size) (by omega) (.int .i64 pn) (.string pc) (.string pt) (.bool ps) (.slice Eb L.length eb) (.slice Rb 0 rb), far6 HMl.out.2.2.2.2.2.2.1 (b := w13.heap.size) (by omega) (.int .i64 pn) (.string pc) (.string pt) (.bool ps) (.slice Eb L.length eb) (.slice Rb 0 rb), far6 HMl.out.2.2.2.2.2.2.2.1 (b := w13.heap.size) (by omega) (.int .i64 pn) (.string pc) (.string pt) (.bool ps) (.slice Eb L.length eb) (.slice Rb 0 rb), trivial⟩)
          have HBP := Lib.hid (below_put6 HBl.out (b := w13.heap.size) (by omega) (.int .i64 pn) (.string pc) (.string pt) (.bool ps) (.slice Eb L.length eb) (.slice Rb 0 rb))
          have HIP := Lib.hid (in_putF HIl.out (b := w13.heap.size) (fun b off e => by have := HFB.out b off e; omega) (.int .i64 pn) (.string pc) (.string pt) (.bool ps) (.slice Eb L.length eb) (.slice Rb 0 rb))
          -- MARKS
          go_wp2_with fail
          -- MARKU
          (generalize World.setCell (World.setCell (World.setCell (World.setCell (World.setCell (World.setCell _ _ _) _ _) _ _) _ _) _ _) _ _ = wn at *)
          have HMn := HMP
          have HBn := HBP
          have HIn := HIP
          have hSn : Bs [(w10.heap.size, 44, [.string s, .int .i64 5, .int .i64 v.ty.base, .bool v.ty.kw, .bool v.ty.ex, .bool v.ty.xe, .int .u64 0, .int .i64 0, .int .i64 v.num, .string ⟨#[]⟩, .int .i64 0, .int .i64 0]), (w9.heap.size, 44, [.string t, .int .i64 4, .int .i64 x.ty.base, .bool x.ty.kw, .bool x.ty.ex, .bool x.ty.xe, .int .u64 x.con.sum, .int .i64 x.con.size, .int .i64 u.num, .string s, .int .i64 v.num, .int .i64 0]), (w.heap.size, 41, [.int .i64 pn, .string pc, .string pt, .bool ps, .slice (some ⟨b, off, none⟩) V.length ec, .slice R 0 rc])] wn := ⟨HMn.out.2.2.1, HMn.out.2.2.2.1, HMn.out.2.2.2.2.2.2.2.1, trivial⟩
          clear HMP HBP HIP HMl HBl HIl hSl z0 z1 z2 z3 z4 z5 f0 f1 f2 f3 f4 f5
          refine ⟨hSn, ?_⟩
          (unfold wpMix wpRd; (repeat (first | simp only [List.filterMap_cons] | simp only [List.filterMap_nil] | simp only [List.getElem?_toArray] | simp only [List.getElem?_cons_zero] | simp only [List.getElem?_cons_succ])); (try dsimp only); change wpQuiet _ _ _ _ ([]) _; (repeat (go_big_quiet_step (fail))); refine wpQuiet_nil ?_; (try dsimp only))
          have ltn := HMn.out.1.lt
          -- MARKV
          have HEQ : Hid (movedL d V s t = L) := by
            show _ = _
            rw [← HLL.out]
            unfold movedL awayE hereE
            rw [HF.out]
            dsimp only
            rw [if_pos HX2.out, HVE.out, HUE.out]
          -- MARKTA
          have HLN : Hid (L.length = V.length + 1) := by
            show _ = _
            rw [← HLL.out]
            rw [ins_len, ins_len]; have := HDL.out; omega
          -- MARKTB
          obtain ⟨p0, p1, p2, p3, p4, p5⟩ := HMn.out.1.c6
          by_cases hbig : 64 < V.length + 1
          · have hbi : (64 : Int) < (V.length : Int) + 1 := by omega
            have hqq : q = (zeroP, 184) := by rw [← HQ.out, HQ1.out, if_neg (by rw [HOKB.out]; decide), if_pos (by rw [HEQ.out, HLN.out]; exact hbig)]
            -- MARKT
            (obtain ⟨z0, z1, z2, z3, z4, z5⟩ := (HMn.out.2.2.2.2.2.1).c6; have f0 := (HMn.out.2.2.2.2.2.1).fz 0; have f1 := (HMn.out.2.2.2.2.2.1).fz 1; have f2 := (HMn.out.2.2.2.2.2.1).fz 2; have f3 := (HMn.out.2.2.2.2.2.1).fz 3; have f4 := (HMn.out.2.2.2.2.2.1).fz 4; have f5 := (HMn.out.2.2.2.2.2.1).fz 5; go_wp2_with fail; have KZ := Lib.hid (zero_put (HMn.out.2.2.2.2.2.1) (.int .i64 0) (.string ⟨#[]⟩) (.string ⟨#[]⟩) (.bool false) (.slice none 0 0) (.slice none 0 0)); have HBZ := Lib.hid (below_put6 (HBn.out) (b := w.heap.size + 1 + 1) (by omega) (.int .i64 0) (.string ⟨#[]⟩) (.string ⟨#[]⟩) (.bool false) (.slice none 0 0) (.slice none 0 0)); generalize World.setCell (World.setCell (World.setCell (World.setCell (World.setCell (World.setCell _ _ _) _ _) _ _) _ _) _ _) _ _ = wz at *; obtain ⟨y0, y1, y2, y3, y4, y5⟩ := KZ.out.c6; first | exact bodyPost_ret (v := .tuple #[.agg #[.int .i64 0, .string ⟨#[]⟩, .string ⟨#[]⟩, .bool false, .slice none 0 0, .slice none 0 0], .int .i64 _]) (by simp [results, Tryz.results71, go_sem, y0, y1, y2, y3, y4, y5]) rfl (PRet.no (hqq) HBZ.out) | exact bodyPost_ret (v := .tuple #[.agg #[.int .i64 0, .string ⟨#[]⟩, .string ⟨#[]⟩, .bool false, .slice none 0 0, .slice none 0 0], .int .i64 _]) (by simp [results, Tryz.results71, go_sem, y0, y1, y2, y3, y4, y5]) rfl (PRet.no rfl HBZ.out))
          · have hbi : ¬ (64 : Int) < (V.length : Int) + 1 := by omega
            have hqq : q = (⟨pn, pc, pt, ps, L⟩, 0) := by rw [← HQ.out, HQ1.out, if_neg (by rw [HOKB.out]; decide), if_neg (by rw [HEQ.out, HLN.out]; exact hbig), HEQ.out]
            have HQQ := Lib.hid hqq
            clear hqq
            -- MARKTC
            have KZ := Lib.hid (zero_put HMn.out.2.2.2.2.2.1 (.int .i64 pn) (.string pc) (.string pt) (.bool ps) (.slice Eb L.length eb) (.slice Rb 0 rb))
            have HBZ := Lib.hid (below_put6 HBn.out (b := w.heap.size + 1 + 1) (by omega) (.int .i64 pn) (.string pc) (.string pt) (.bool ps) (.slice Eb L.length eb) (.slice Rb 0 rb))
            have HIZ := Lib.hid (in_putF HIn.out (b := w.heap.size + 1 + 1) (fun b off e => by have := HFB.out b off e; omega) (.int .i64 pn) (.string pc) (.string pt) (.bool ps) (.slice Eb L.length eb) (.slice Rb 0 rb))
            obtain ⟨z0, z1, z2, z3, z4, z5⟩ := HMn.out.2.2.2.2.2.1.c6
            have f0 := HMn.out.2.2.2.2.2.1.fz 0
            have f1 := HMn.out.2.2.2.2.2.1.fz 1
            have f2 := HMn.out.2.2.2.2.2.1.fz 2
            have f3 := HMn.out.2.2.2.2.2.1.fz 3
            have f4 := HMn.out.2.2.2.2.2.1.fz 4
            have f5 := HMn.out.2.2.2.2.2.1.fz 5
            go_wp2_with fail
            (generalize World.setCell (World.setCell (World.setCell (World.setCell (World.setCell (World.setCell _ _ _) _ _) _ _) _ _) _ _) _ _ = wz at *)
            obtain ⟨x0, x1, x2, x3, x4, x5⟩ := KZ.out.c6
            refine bodyPost_ret (v := .tuple #[.agg #[.int .i64 pn, .string pc, .string pt, .bool ps, .slice Eb L.length eb, .slice Rb 0 rb], .int .i64 0]) (by simp [results, Tryz.results71, go_sem, x0, x1, x2, x3, x4, x5]) rfl ?_
            rw [HQQ.out]
            exact ⟨Eb, eb, Rb, rb, rfl, HIZ.out, (fun b off e => by have := HFB.out b off e; omega), HBZ.out⟩
        ·
          (unfold wpAct; (repeat (first | simp only [List.getElem?_toArray] | simp only [List.getElem?_cons_zero] | simp only [List.getElem?_cons_succ])); (try dsimp only))
          go_wp2_with fail
          have hfl : edtK.flat [⟨s, 5, v.ty, zeroCon, v.num, ⟨#[]⟩, 0, 0⟩, ⟨t, 4, x.ty, x.con, u.num, s, v.num, 0⟩] = [.string s, .int .i64 5, .int .i64 v.ty.base, .bool v.ty.kw, .bool v.ty.ex, .bool v.ty.xe, .int .u64 0, .int .i64 0, .int .i64 v.num, .string ⟨#[]⟩, .int .i64 0, .int .i64 0, .string t, .int .i64 4, .int .i64 x.ty.base, .bool x.ty.kw, .bool x.ty.ex, .bool x.ty.xe, .int .u64 x.con.sum, .int .i64 x.con.size, .int .i64 u.num, .string s, .int .i64 v.num, .int .i64 0] := rfl
          have hbx : Below w16.heap.size w16 (w16.alloc (.cells [.string s, .int .i64 5, .int .i64 v.ty.base, .bool v.ty.kw, .bool v.ty.ex, .bool v.ty.xe, .int .u64 0, .int .i64 0, .int .i64 v.num, .string ⟨#[]⟩, .int .i64 0, .int .i64 0, .string t, .int .i64 4, .int .i64 x.ty.base, .bool x.ty.kw, .bool x.ty.ex, .bool x.ty.xe, .int .u64 x.con.sum, .int .i64 x.con.size, .int .i64 u.num, .string s, .int .i64 v.num, .int .i64 0].toArray 44)) := (Below.refl _ _).alloc (Nat.le_refl _) _
          have HMa := Lib.hid (HMD.out.below hbx)
          have HBa := Lib.hid (HBD.out.trans (hbx.mono HBD.out.size))
          have HFa := Lib.hid (in_lit w16 _ _ 44 hfl)
          have hSa := hS.below hbx
          have hza := hbx.size
          clear hfl hbx HWW hS
          refine ⟨hSa, ?_⟩
          generalize hwa : World.alloc w16 (.cells #[.string s, .int .i64 5, .int .i64 v.ty.base, .bool v.ty.kw, .bool v.ty.ex, .bool v.ty.xe, .int .u64 0, .int .i64 0, .int .i64 v.num, .string ⟨#[]⟩, .int .i64 0, .int .i64 0, .string t, .int .i64 4, .int .i64 x.ty.base, .bool x.ty.kw, .bool x.ty.ex, .bool x.ty.xe, .int .u64 x.con.sum, .int .i64 x.con.size, .int .i64 u.num, .string s, .int .i64 v.num, .int .i64 0] 44) = wa at *
          clear hwa
          have HWK := HWO.out k (some ⟨b, off, none⟩) wa (HIE.out.below HBa.out) hkl
          rw [HDE.out] at HWK
          have HWW := Lib.hid HWK
          clear HWK
          (unfold wpMix wpRd; (repeat (first | simp only [List.filterMap_cons] | simp only [List.filterMap_nil] | simp only [List.getElem?_toArray] | simp only [List.getElem?_cons_zero] | simp only [List.getElem?_cons_succ])); (try dsimp only); change wpQuiet _ _ _ _ ([]) _; (repeat (go_big_quiet_step (fail))); refine wpQuiet_nil ?_; (try dsimp only))
          ((repeat (first | simp only [List.getElem?_toArray] | simp only [List.getElem?_cons_zero] | simp only [List.getElem?_cons_succ])); (try dsimp only))
          go_wp2_with fail
          refine HWW.out.mono ?_
          rintro e wb ⟨Ea, ea, Ra, ra, rfl, hia, hfa, hba⟩
          unfold pndV pndC
          dsimp only at hia ⊢
          have HMb := Lib.hid (HMa.out.below hba)
          have HBb := Lib.hid (HBa.out.trans (hba.mono HBa.out.size))
          have HIb := Lib.hid hia
          have HFb := Lib.hid (HFa.out.below hba)
          have hSb := hSa.below hba
          have hzb := hba.size
          clear hia hfa hba HWW HMa HBa HFa hSa HMD HBD
          go_wp2_with fail
          refine ⟨hSb, ?_⟩
          (unfold wpMix wpRd; (repeat (first | simp only [List.filterMap_cons] | simp only [List.filterMap_nil] | simp only [List.getElem?_toArray] | simp only [List.getElem?_cons_zero] | simp only [List.getElem?_cons_succ])); (try dsimp only); change wpQuiet _ _ _ _ ([]) _; (repeat (go_big_quiet_step (fail))); refine wpQuiet_nil ?_; (try dsimp only))
          ((repeat (first | simp only [List.getElem?_toArray] | simp only [List.getElem?_cons_zero] | simp only [List.getElem?_cons_succ])); (try dsimp only))
          have HL := HWI.out (delE V s) [⟨s, 5, v.ty, zeroCon, v.num, ⟨#[]⟩, 0, 0⟩, ⟨t, 4, x.ty, x.con, u.num, s, v.num, 0⟩] (insE (insE (delE V s) ⟨s, 5, v.ty, zeroCon, v.num, ⟨#[]⟩, 0, 0⟩) ⟨t, 4, x.ty, x.con, u.num, s, v.num, 0⟩) w16.heap.size Ea ea Ra ra wb HIb.out HFb.out (by simp; omega) (fun z hz => by
            rcases List.mem_append.1 hz with hz | hz
            · exact HDU.out z hz
            · simp only [List.mem_cons, List.not_mem_nil, or_false] at hz
              rcases hz with rfl | rfl
              · exact HUSE.out
              · exact HUTE.out) (moved_srt HDS.out HXN.out HTN.out HSN.out) (ins_perm2 _ _ _) (by simp) (HG.out.below HBb.out)
          obtain ⟨L, hL⟩ : ∃ L, insE (insE (delE V s) ⟨s, 5, v.ty, zeroCon, v.num, ⟨#[]⟩, 0, 0⟩) ⟨t, 4, x.ty, x.con, u.num, s, v.num, 0⟩ = L := ⟨_, rfl⟩
          rw [hL] at HL
          have HLL := Lib.hid hL
          have HWL := Lib.hid HL
          clear hL HL
          -- MARKR
          go_wp2_with fail
          refine HWL.out.mono ?_
          rintro e wl ⟨Eb, eb, Rb, rb, rfl, hib, hfb, hbb⟩
          unfold pndV pndC
          dsimp only at hib ⊢
          have HMl := Lib.hid (HMb.out.below hbb)
          have HBl := Lib.hid (HBb.out.trans (hbb.mono HBb.out.size))
          have HIl := Lib.hid hib
          have hzl := hbb.size
          have HFB : Hid (∀ b off, Eb = some ⟨b, off, none⟩ → w15.heap.size ≤ b) := fun b off e => by have := hfb b off e; omega
          have hSl : Bs [(w10.heap.size, 44, [.string s, .int .i64 5, .int .i64 v.ty.base, .bool v.ty.kw, .bool v.ty.ex, .bool v.ty.xe, .int .u64 0, .int .i64 0, .int .i64 v.num, .string ⟨#[]⟩, .int .i64 0, .int .i64 0]), (w9.heap.size, 44, [.string t, .int .i64 4, .int .i64 x.ty.base, .bool x.ty.kw, .bool x.ty.ex, .bool x.ty.xe, .int .u64 x.con.sum, .int .i64 x.con.size, .int .i64 u.num, .string s, .int .i64 v.num, .int .i64 0]), (w.heap.size, 41, [.int .i64 pn, .string pc, .string pt, .bool ps, .slice (some ⟨b, off, none⟩) V.length ec, .slice R 0 rc])] wl := ⟨HMl.out.2.2.1, HMl.out.2.2.2.1, HMl.out.2.2.2.2.2.2.2.1, trivial⟩
          clear hfb hbb hib HMb HBb HWL
          have ltl := HMl.out.1.lt
          go_wp2_with fail
          refine ⟨hSl, ?_⟩
          (unfold wpMix wpRd; (repeat (first | simp only [List.filterMap_cons] | simp only [List.filterMap_nil] | simp only [List.getElem?_toArray] | simp only [List.getElem?_cons_zero] | simp only [List.getElem?_cons_succ])); (try dsimp only); change wpQuiet _ _ _ _ ([]) _; (repeat (go_big_quiet_step (fail))); refine wpQuiet_nil ?_; (try dsimp only))
          ((repeat (first | simp only [List.getElem?_toArray] | simp only [List.getElem?_cons_zero] | simp only [List.getElem?_cons_succ])); (try dsimp only))
          obtain ⟨z0, z1, z2, z3, z4, z5⟩ := HMl.out.1.c6
          have f0 := HMl.out.1.fz 0
          have f1 := HMl.out.1.fz 1
          have f2 := HMl.out.1.fz 2
          have f3 := HMl.out.1.fz 3
          have f4 := HMl.out.1.fz 4
          have f5 := HMl.out.1.fz 5
          have HMP := Lib.hid (show Bs [(w13.heap.size, 41, [.int .i64 pn, .string pc, .string pt, .bool ps, .slice Eb L.length eb, .slice Rb 0 rb]), (w11.heap.size, 44, [.string x.path, .int .i64 x.act, .int .i64 x.ty.base, .bool x.ty.kw, .bool x.ty.ex, .bool x.ty.xe, .int .u64 x.con.sum, .int .i64 x.con.size, .int .i64 x.base, .string x.src, .int .i64 x.srcn, .int .i64 x.fence]), (w10.heap.size, 44, [.string s, .int .i64 5, .int .i64 v.ty.base, .bool v.ty.kw, .bool v.ty.ex, .bool v.ty.xe, .int .u64 0, .int .i64 0, .int .i64 v.num, .string ⟨#[]⟩, .int .i64 0, .int .i64 0]), (w9.heap.size, 44, [.string t, .int .i64 4, .int .i64 x.ty.base, .bool x.ty.kw, .bool x.ty.ex, .bool x.ty.xe, .int .u64 x.con.sum, .int .i64 x.con.size, .int .i64 u.num, .string s, .int .i64 v.num, .int .i64 0]), (w7.heap.size, 74, [.string v.path, .int .i64 v.num, .int .i64 v.chg, .int .i64 v.act, .int .i64 v.ty.base, .bool v.ty.kw, .bool v.ty.ex, .bool v.ty.xe, .int .u64 v.con.sum, .int .i64 v.con.size, .string v.src, .int .i64 v.srcn]), (w.heap.size + 1 + 1, 41, [.int .i64 0, .string ⟨#[]⟩, .string ⟨#[]⟩, .bool false, .slice none 0 0, .slice none 0 0]), (w.heap.size + 1, 37, [.slice A d.length ca, .slice B nb cb]), (w.heap.size, 41, [.int .i64 pn, .string pc, .string pt, .bool ps, .slice (some ⟨b, off, none⟩) V.length ec, .slice R 0 rc])] _ from ⟨zero_put HMl.out.1 (.int .i64 pn) (.string pc) (.string pt) (.bool ps) (.slice Eb L.length eb) (.slice Rb 0 rb), far6 HMl.out.2.1 (b := w13.heap.size) (by omega) (.int .i64 pn) (.string pc) (.string pt) (.bool ps) (.slice Eb L.length eb) (.slice Rb 0 rb), far6 HMl.out.2.2.1 (b := w13.heap.size) (by omega) (.int .i64 pn) (.string pc) (.string pt) (.bool ps) (.slice Eb L.length eb) (.slice Rb 0 rb), far6 HMl.out.2.2.2.1 (b := w13.heap.size) (by omega) (.int .i64 pn) (.string pc) (.string pt) (.bool ps) (.slice Eb L.length eb) (.slice Rb 0 rb), far6 HMl.out.2.2.2.2.1 (b := w13.heap.size) (by omega) (.int .i64 pn) (.string pc) (.string pt) (.bool ps) (.slice Eb L.length eb) (.slice Rb 0 rb), far6 HMl.out.2.2.2.2.2.1 (b := w13.heap.size) (by omega) (.int .i64 pn) (.string pc) (.string pt) (.bool ps) (.slice Eb L.length eb) (.slice Rb 0 rb), far6 HMl.out.2.2.2.2.2.2.1 (b := w13.heap.size) (by omega) (.int .i64 pn) (.string pc) (.string pt) (.bool ps) (.slice Eb L.length eb) (.slice Rb 0 rb), far6 HMl.out.2.2.2.2.2.2.2.1 (b := w13.heap.size) (by omega) (.int .i64 pn) (.string pc) (.string pt) (.bool ps) (.slice Eb L.length eb) (.slice Rb 0 rb), trivial⟩)
          have HBP := Lib.hid (below_put6 HBl.out (b := w13.heap.size) (by omega) (.int .i64 pn) (.string pc) (.string pt) (.bool ps) (.slice Eb L.length eb) (.slice Rb 0 rb))
          have HIP := Lib.hid (in_putF HIl.out (b := w13.heap.size) (fun b off e => by have := HFB.out b off e; omega) (.int .i64 pn) (.string pc) (.string pt) (.bool ps) (.slice Eb L.length eb) (.slice Rb 0 rb))
          -- MARKS
          go_wp2_with fail
          -- MARKU
          (generalize World.setCell (World.setCell (World.setCell (World.setCell (World.setCell (World.setCell _ _ _) _ _) _ _) _ _) _ _) _ _ = wn at *)
          have HMn := HMP
          have HBn := HBP
          have HIn := HIP
          have hSn : Bs [(w10.heap.size, 44, [.string s, .int .i64 5, .int .i64 v.ty.base, .bool v.ty.kw, .bool v.ty.ex, .bool v.ty.xe, .int .u64 0, .int .i64 0, .int .i64 v.num, .string ⟨#[]⟩, .int .i64 0, .int .i64 0]), (w9.heap.size, 44, [.string t, .int .i64 4, .int .i64 x.ty.base, .bool x.ty.kw, .bool x.ty.ex, .bool x.ty.xe, .int .u64 x.con.sum, .int .i64 x.con.size, .int .i64 u.num, .string s, .int .i64 v.num, .int .i64 0]), (w.heap.size, 41, [.int .i64 pn, .string pc, .string pt, .bool ps, .slice (some ⟨b, off, none⟩) V.length ec, .slice R 0 rc])] wn := ⟨HMn.out.2.2.1, HMn.out.2.2.2.1, HMn.out.2.2.2.2.2.2.2.1, trivial⟩
          clear HMP HBP HIP HMl HBl HIl hSl z0 z1 z2 z3 z4 z5 f0 f1 f2 f3 f4 f5
          refine ⟨hSn, ?_⟩
          (unfold wpMix wpRd; (repeat (first | simp only [List.filterMap_cons] | simp only [List.filterMap_nil] | simp only [List.getElem?_toArray] | simp only [List.getElem?_cons_zero] | simp only [List.getElem?_cons_succ])); (try dsimp only); change wpQuiet _ _ _ _ ([]) _; (repeat (go_big_quiet_step (fail))); refine wpQuiet_nil ?_; (try dsimp only))
          have ltn := HMn.out.1.lt
          -- MARKV
          have HEQ : Hid (movedL d V s t = L) := by
            show _ = _
            rw [← HLL.out]
            unfold movedL awayE hereE
            rw [HF.out]
            dsimp only
            rw [if_pos HX2.out, HVE.out, HUE.out]
          -- MARKTA
          have HLN : Hid (L.length = V.length + 1) := by
            show _ = _
            rw [← HLL.out]
            rw [ins_len, ins_len]; have := HDL.out; omega
          -- MARKTB
          obtain ⟨p0, p1, p2, p3, p4, p5⟩ := HMn.out.1.c6
          by_cases hbig : 64 < V.length + 1
          · have hbi : (64 : Int) < (V.length : Int) + 1 := by omega
            have hqq : q = (zeroP, 184) := by rw [← HQ.out, HQ1.out, if_neg (by rw [HOKB.out]; decide), if_pos (by rw [HEQ.out, HLN.out]; exact hbig)]
            -- MARKT
            (obtain ⟨z0, z1, z2, z3, z4, z5⟩ := (HMn.out.2.2.2.2.2.1).c6; have f0 := (HMn.out.2.2.2.2.2.1).fz 0; have f1 := (HMn.out.2.2.2.2.2.1).fz 1; have f2 := (HMn.out.2.2.2.2.2.1).fz 2; have f3 := (HMn.out.2.2.2.2.2.1).fz 3; have f4 := (HMn.out.2.2.2.2.2.1).fz 4; have f5 := (HMn.out.2.2.2.2.2.1).fz 5; go_wp2_with fail; have KZ := Lib.hid (zero_put (HMn.out.2.2.2.2.2.1) (.int .i64 0) (.string ⟨#[]⟩) (.string ⟨#[]⟩) (.bool false) (.slice none 0 0) (.slice none 0 0)); have HBZ := Lib.hid (below_put6 (HBn.out) (b := w.heap.size + 1 + 1) (by omega) (.int .i64 0) (.string ⟨#[]⟩) (.string ⟨#[]⟩) (.bool false) (.slice none 0 0) (.slice none 0 0)); generalize World.setCell (World.setCell (World.setCell (World.setCell (World.setCell (World.setCell _ _ _) _ _) _ _) _ _) _ _) _ _ = wz at *; obtain ⟨y0, y1, y2, y3, y4, y5⟩ := KZ.out.c6; first | exact bodyPost_ret (v := .tuple #[.agg #[.int .i64 0, .string ⟨#[]⟩, .string ⟨#[]⟩, .bool false, .slice none 0 0, .slice none 0 0], .int .i64 _]) (by simp [results, Tryz.results71, go_sem, y0, y1, y2, y3, y4, y5]) rfl (PRet.no (hqq) HBZ.out) | exact bodyPost_ret (v := .tuple #[.agg #[.int .i64 0, .string ⟨#[]⟩, .string ⟨#[]⟩, .bool false, .slice none 0 0, .slice none 0 0], .int .i64 _]) (by simp [results, Tryz.results71, go_sem, y0, y1, y2, y3, y4, y5]) rfl (PRet.no rfl HBZ.out))
          · have hbi : ¬ (64 : Int) < (V.length : Int) + 1 := by omega
            have hqq : q = (⟨pn, pc, pt, ps, L⟩, 0) := by rw [← HQ.out, HQ1.out, if_neg (by rw [HOKB.out]; decide), if_neg (by rw [HEQ.out, HLN.out]; exact hbig), HEQ.out]
            have HQQ := Lib.hid hqq
            clear hqq
            -- MARKTC
            have KZ := Lib.hid (zero_put HMn.out.2.2.2.2.2.1 (.int .i64 pn) (.string pc) (.string pt) (.bool ps) (.slice Eb L.length eb) (.slice Rb 0 rb))
            have HBZ := Lib.hid (below_put6 HBn.out (b := w.heap.size + 1 + 1) (by omega) (.int .i64 pn) (.string pc) (.string pt) (.bool ps) (.slice Eb L.length eb) (.slice Rb 0 rb))
            have HIZ := Lib.hid (in_putF HIn.out (b := w.heap.size + 1 + 1) (fun b off e => by have := HFB.out b off e; omega) (.int .i64 pn) (.string pc) (.string pt) (.bool ps) (.slice Eb L.length eb) (.slice Rb 0 rb))
            obtain ⟨z0, z1, z2, z3, z4, z5⟩ := HMn.out.2.2.2.2.2.1.c6
            have f0 := HMn.out.2.2.2.2.2.1.fz 0
            have f1 := HMn.out.2.2.2.2.2.1.fz 1
            have f2 := HMn.out.2.2.2.2.2.1.fz 2
            have f3 := HMn.out.2.2.2.2.2.1.fz 3
            have f4 := HMn.out.2.2.2.2.2.1.fz 4
            have f5 := HMn.out.2.2.2.2.2.1.fz 5
            go_wp2_with fail
            (generalize World.setCell (World.setCell (World.setCell (World.setCell (World.setCell (World.setCell _ _ _) _ _) _ _) _ _) _ _) _ _ = wz at *)
            obtain ⟨x0, x1, x2, x3, x4, x5⟩ := KZ.out.c6
            refine bodyPost_ret (v := .tuple #[.agg #[.int .i64 pn, .string pc, .string pt, .bool ps, .slice Eb L.length eb, .slice Rb 0 rb], .int .i64 0]) (by simp [results, Tryz.results71, go_sem, x0, x1, x2, x3, x4, x5]) rfl ?_
            rw [HQQ.out]
            exact ⟨Eb, eb, Rb, rb, rfl, HIZ.out, (fun b off e => by have := HFB.out b off e; omega), HBZ.out⟩
      · have HX2 : Hid (¬ (x.act = 2)) := hx2
        have h14 : x.act = 1 ∨ x.act = 4 := by have := HPA.out; omega
        have H14 : Hid (x.act = 1 ∨ x.act = 4) := h14
        clear hx2 h14
        obtain ⟨f0, f1, f2, f3, f4, f5, f6, f7, f8, f9, f10, f11⟩ := HM14.out.2.1.f12
        have HMP := Lib.hid (show Bs [(w13.heap.size, 41, [.int .i64 0, .string ⟨#[]⟩, .string ⟨#[]⟩, .bool false, .slice none 0 0, .slice none 0 0]), (w11.heap.size, 44, [.string t, .int .i64 x.act, .int .i64 x.ty.base, .bool x.ty.kw, .bool x.ty.ex, .bool x.ty.xe, .int .u64 x.con.sum, .int .i64 x.con.size, .int .i64 u.num, .string x.src, .int .i64 x.srcn, .int .i64 x.fence]), (w10.heap.size, 44, [.string s, .int .i64 5, .int .i64 v.ty.base, .bool v.ty.kw, .bool v.ty.ex, .bool v.ty.xe, .int .u64 0, .int .i64 0, .int .i64 v.num, .string ⟨#[]⟩, .int .i64 0, .int .i64 0]), (w9.heap.size, 44, [.string t, .int .i64 4, .int .i64 v.ty.base, .bool v.ty.kw, .bool v.ty.ex, .bool v.ty.xe, .int .u64 v.con.sum, .int .i64 v.con.size, .int .i64 u.num, .string s, .int .i64 v.num, .int .i64 0]), (w7.heap.size, 74, [.string v.path, .int .i64 v.num, .int .i64 v.chg, .int .i64 v.act, .int .i64 v.ty.base, .bool v.ty.kw, .bool v.ty.ex, .bool v.ty.xe, .int .u64 v.con.sum, .int .i64 v.con.size, .string v.src, .int .i64 v.srcn]), (w.heap.size + 1 + 1, 41, [.int .i64 0, .string ⟨#[]⟩, .string ⟨#[]⟩, .bool false, .slice none 0 0, .slice none 0 0]), (w.heap.size + 1, 37, [.slice A d.length ca, .slice B nb cb]), (w.heap.size, 41, [.int .i64 pn, .string pc, .string pt, .bool ps, .slice (some ⟨b, off, none⟩) V.length ec, .slice R 0 rc])] _ from ⟨(HM14.out.1.far (p := ⟨w11.heap.size, 0, none⟩) (by dsimp only; omega) (.string t)).far (p := ⟨w11.heap.size, 8, none⟩) (by dsimp only; omega) (.int .i64 u.num), (HM14.out.2.1.set 0 (.string t)).set 8 (.int .i64 u.num), (HM14.out.2.2.1.far (p := ⟨w11.heap.size, 0, none⟩) (by dsimp only; omega) (.string t)).far (p := ⟨w11.heap.size, 8, none⟩) (by dsimp only; omega) (.int .i64 u.num), (HM14.out.2.2.2.1.far (p := ⟨w11.heap.size, 0, none⟩) (by dsimp only; omega) (.string t)).far (p := ⟨w11.heap.size, 8, none⟩) (by dsimp only; omega) (.int .i64 u.num), (HM14.out.2.2.2.2.1.far (p := ⟨w11.heap.size, 0, none⟩) (by dsimp only; omega) (.string t)).far (p := ⟨w11.heap.size, 8, none⟩) (by dsimp only; omega) (.int .i64 u.num), (HM14.out.2.2.2.2.2.1.far (p := ⟨w11.heap.size, 0, none⟩) (by dsimp only; omega) (.string t)).far (p := ⟨w11.heap.size, 8, none⟩) (by dsimp only; omega) (.int .i64 u.num), (HM14.out.2.2.2.2.2.2.1.far (p := ⟨w11.heap.size, 0, none⟩) (by dsimp only; omega) (.string t)).far (p := ⟨w11.heap.size, 8, none⟩) (by dsimp only; omega) (.int .i64 u.num), (HM14.out.2.2.2.2.2.2.2.1.far (p := ⟨w11.heap.size, 0, none⟩) (by dsimp only; omega) (.string t)).far (p := ⟨w11.heap.size, 8, none⟩) (by dsimp only; omega) (.int .i64 u.num), trivial⟩)
        have HBP := Lib.hid ((HB14.out.setCell (p := ⟨w11.heap.size, 0, none⟩) (by dsimp only; omega) (.string t)).setCell (p := ⟨w11.heap.size, 8, none⟩) (by dsimp only; omega) (.int .i64 u.num))
        have hsw : (((x.act == 1) = true ∧ decide (x.act = 1) = true)) ∨ ((x.act == 1) = false ∧ decide (x.act = 1) = false ∧ (x.act == 4) = true ∧ decide (x.act = 4) = true) := by
          rcases H14.out with h | h
          · exact .inl ⟨by simpa using h, by simpa using h⟩
          · exact .inr ⟨by simp [h], by simp [h], by simpa using h, by simpa using h⟩
        -- MARKW
        rcases hsw with ⟨x1a, x1b⟩ | ⟨x1a, x1b, x4a, x4b⟩
        all_goals
          go_upto_region 32 with fail
          -- MARKX
          (generalize World.setCell (World.setCell _ _ _) _ _ = w15 at *)
          have HM15 := HMP
          have HB15 := HBP
          have lt15 := HM15.out.1.lt
          clear HMP HBP HM14 HB14 f0 f1 f2 f3 f4 f5 f6 f7 f8 f9 f10 f11 y0 y1 y2 y3 y4 y5 y6 y7 y8 y9 y10 y11
          obtain ⟨y0, y1, y2, y3, y4, y5, y6, y7, y8, y9, y10, y11⟩ := HM15.out.2.1.c12
          go_wp2_with fail
          have hS : Bs [(w11.heap.size, 44, [.string t, .int .i64 x.act, .int .i64 x.ty.base, .bool x.ty.kw, .bool x.ty.ex, .bool x.ty.xe, .int .u64 x.con.sum, .int .i64 x.con.size, .int .i64 u.num, .string x.src, .int .i64 x.srcn, .int .i64 x.fence]), (w.heap.size, 41, [.int .i64 pn, .string pc, .string pt, .bool ps, .slice (some ⟨b, off, none⟩) V.length ec, .slice R 0 rc])] w15.drew := Bs.drew (show Bs [(w11.heap.size, 44, [.string t, .int .i64 x.act, .int .i64 x.ty.base, .bool x.ty.kw, .bool x.ty.ex, .bool x.ty.xe, .int .u64 x.con.sum, .int .i64 x.con.size, .int .i64 u.num, .string x.src, .int .i64 x.srcn, .int .i64 x.fence]), (w.heap.size, 41, [.int .i64 pn, .string pc, .string pt, .bool ps, .slice (some ⟨b, off, none⟩) V.length ec, .slice R 0 rc])] w15 from ⟨HM15.out.2.1, HM15.out.2.2.2.2.2.2.2.1, trivial⟩)
          have HMD := Lib.hid (HM15.out.drew)
          have HBD := Lib.hid (HB15.out.drew)
          have hzd : w15.heap.size ≤ w15.drew.heap.size := Nat.le_refl _
          -- MARKP
          (refine wp_region_mixf (S := Bs [(w11.heap.size, 44, [.string t, .int .i64 x.act, .int .i64 x.ty.base, .bool x.ty.kw, .bool x.ty.ex, .bool x.ty.xe, .int .u64 x.con.sum, .int .i64 x.con.size, .int .i64 u.num, .string x.src, .int .i64 x.srcn, .int .i64 x.fence]), (w.heap.size, 41, [.int .i64 pn, .string pc, .string pt, .bool ps, .slice (some ⟨b, off, none⟩) V.length ec, .slice R 0 rc])]) [] [([], 6)] [] 5 4 [([0, 1, 3], 2)] (by kernel_rfl) (by kernel_rfl) (by intro c a d v w h; cases d <;> exact h) hS ?_; have hN : Nonempty (Held (Bs [(w11.heap.size, 44, [.string t, .int .i64 x.act, .int .i64 x.ty.base, .bool x.ty.kw, .bool x.ty.ex, .bool x.ty.xe, .int .u64 x.con.sum, .int .i64 x.con.size, .int .i64 u.num, .string x.src, .int .i64 x.srcn, .int .i64 x.fence]), (w.heap.size, 41, [.int .i64 pn, .string pc, .string pt, .bool ps, .slice (some ⟨b, off, none⟩) V.length ec, .slice R 0 rc])])) := ⟨⟨_, hS⟩⟩)
          obtain ⟨a0, a1, a2, a3, a4, a5, a6, a7, a8, a9, a10, a11⟩ := fun_and12 (fun y : Held (Bs [(w11.heap.size, 44, [.string t, .int .i64 x.act, .int .i64 x.ty.base, .bool x.ty.kw, .bool x.ty.ex, .bool x.ty.xe, .int .u64 x.con.sum, .int .i64 x.con.size, .int .i64 u.num, .string x.src, .int .i64 x.srcn, .int .i64 x.fence]), (w.heap.size, 41, [.int .i64 pn, .string pc, .string pt, .bool ps, .slice (some ⟨b, off, none⟩) V.length ec, .slice R 0 rc])]) => y.ok.1.c12)
          obtain ⟨p0, p1, p2, p3, p4, p5⟩ := fun_and6 (fun y : Held (Bs [(w11.heap.size, 44, [.string t, .int .i64 x.act, .int .i64 x.ty.base, .bool x.ty.kw, .bool x.ty.ex, .bool x.ty.xe, .int .u64 x.con.sum, .int .i64 x.con.size, .int .i64 u.num, .string x.src, .int .i64 x.srcn, .int .i64 x.fence]), (w.heap.size, 41, [.int .i64 pn, .string pc, .string pt, .bool ps, .slice (some ⟨b, off, none⟩) V.length ec, .slice R 0 rc])]) => y.ok.2.1.c6)
          (unfold wpMixF wpRd; (repeat (first | simp only [List.filterMap_cons] | simp only [List.filterMap_nil] | simp only [List.getElem?_toArray] | simp only [List.getElem?_cons_zero] | simp only [List.getElem?_cons_succ])); (try dsimp only); change wpQuiet _ _ _ _ (_ :: _ :: _ :: []) _; (repeat (go_big_quiet_step (fail))); refine wpQuiet_nil ?_; (try dsimp only))
          -- MARKQ
          clear p0 p1 p2 p3 p4 p5 a0 a1 a2 a3 a4 a5 a6 a7 a8 a9 a10 a11
          generalize hwd : w15.drew = w16 at *
          clear hwd HM15 HB15 y0 y1 y2 y3 y4 y5 y6 y7 y8 y9 y10 y11
          have ltd := HMD.out.1.lt
          have HWK := HWO.out k (some ⟨b, off, none⟩) w16 (HIE.out.below HBD.out) hkl
          rw [HDE.out] at HWK
          have HWW := Lib.hid HWK
          clear HWK
          refine ⟨?_, ?_⟩
          ·
            (unfold wpAct; (repeat (first | simp only [List.getElem?_toArray] | simp only [List.getElem?_cons_zero] | simp only [List.getElem?_cons_succ])); (try dsimp only))
            go_wp2_with fail
            refine HWW.out.mono ?_
            rintro e wa ⟨Ea, ea, Ra, ra, rfl, hia, hfa, hba⟩
            unfold pndV pndC
            dsimp only at hia ⊢
            have HMa := Lib.hid (HMD.out.below hba)
            have HBa := Lib.hid (HBD.out.trans (hba.mono HBD.out.size))
            have HIa := Lib.hid hia
            have hza := hba.size
            have hSa := hS.below hba
            clear hia hfa hba HWW HMD HBD hS
            go_wp2_with fail
            refine ⟨hSa, ?_⟩
            (unfold wpMixF wpRd; (repeat (first | simp only [List.filterMap_cons] | simp only [List.filterMap_nil] | simp only [List.getElem?_toArray] | simp only [List.getElem?_cons_zero] | simp only [List.getElem?_cons_succ])); (try dsimp only); change wpQuiet _ _ _ _ ([]) _; (repeat (go_big_quiet_step (fail))); refine wpQuiet_nil ?_; (try dsimp only))
            (unfold wpAct; (repeat (first | simp only [List.getElem?_toArray] | simp only [List.getElem?_cons_zero] | simp only [List.getElem?_cons_succ])); (try dsimp only))
            go_wp2_with fail
            have hfl : edtK.flat [⟨t, x.act, x.ty, x.con, u.num, x.src, x.srcn, x.fence⟩] = [.string t, .int .i64 x.act, .int .i64 x.ty.base, .bool x.ty.kw, .bool x.ty.ex, .bool x.ty.xe, .int .u64 x.con.sum, .int .i64 x.con.size, .int .i64 u.num, .string x.src, .int .i64 x.srcn, .int .i64 x.fence] := rfl
            have hbx : Below wa.heap.size wa (wa.alloc (.cells [.string t, .int .i64 x.act, .int .i64 x.ty.base, .bool x.ty.kw, .bool x.ty.ex, .bool x.ty.xe, .int .u64 x.con.sum, .int .i64 x.con.size, .int .i64 u.num, .string x.src, .int .i64 x.srcn, .int .i64 x.fence].toArray 44)) := (Below.refl _ _).alloc (Nat.le_refl _) _
            have HMb := Lib.hid (HMa.out.below hbx)
            have HBb := Lib.hid (HBa.out.trans (hbx.mono HBa.out.size))
            have HIb := Lib.hid (HIa.out.below hbx)
            have HFb := Lib.hid (in_lit wa _ _ 44 hfl)
            have hSb := hSa.below hbx
            have hzb := hbx.size
            clear hfl hbx HMa HBa HIa hSa
            refine ⟨hSb, ?_⟩
            generalize hwb : World.alloc wa (.cells #[.string t, .int .i64 x.act, .int .i64 x.ty.base, .bool x.ty.kw, .bool x.ty.ex, .bool x.ty.xe, .int .u64 x.con.sum, .int .i64 x.con.size, .int .i64 u.num, .string x.src, .int .i64 x.srcn, .int .i64 x.fence] 44) = wb at *
            clear hwb
            (unfold wpMix wpRd; (repeat (first | simp only [List.filterMap_cons] | simp only [List.filterMap_nil] | simp only [List.getElem?_toArray] | simp only [List.getElem?_cons_zero] | simp only [List.getElem?_cons_succ])); (try dsimp only); change wpQuiet _ _ _ _ ([]) _; (repeat (go_big_quiet_step (fail))); refine wpQuiet_nil ?_; (try dsimp only))
            ((repeat (first | simp only [List.getElem?_toArray] | simp only [List.getElem?_cons_zero] | simp only [List.getElem?_cons_succ])); (try dsimp only))
            have HL := HWI.out (delE V s) [⟨t, x.act, x.ty, x.con, u.num, x.src, x.srcn, x.fence⟩] (insE (delE V s) ⟨t, x.act, x.ty, x.con, u.num, x.src, x.srcn, x.fence⟩) wa.heap.size Ea ea Ra ra wb HIb.out HFb.out (by simp; omega) (fun z hz => by
              rcases List.mem_append.1 hz with hz | hz
              · exact HDU.out z hz
              · rw [List.mem_singleton] at hz
                rw [hz]
                exact HUTE.out) (ins_srt HDS.out HTN.out) (ins_perm _ _) (by simp) (HG.out.below HBb.out)
            obtain ⟨L, hL⟩ : ∃ L, insE (delE V s) ⟨t, x.act, x.ty, x.con, u.num, x.src, x.srcn, x.fence⟩ = L := ⟨_, rfl⟩
            rw [hL] at HL
            have HLL := Lib.hid hL
            have HWL := Lib.hid HL
            clear hL HL
            -- MARKR
            go_wp2_with fail
            refine HWL.out.mono ?_
            rintro e wl ⟨Eb, eb, Rb, rb, rfl, hib, hfb, hbb⟩
            unfold pndV pndC
            dsimp only at hib ⊢
            have HMl := Lib.hid (HMb.out.below hbb)
            have HBl := Lib.hid (HBb.out.trans (hbb.mono HBb.out.size))
            have HIl := Lib.hid hib
            have hzl := hbb.size
            have HFB : Hid (∀ b off, Eb = some ⟨b, off, none⟩ → w15.heap.size ≤ b) := fun b off e => by have := hfb b off e; omega
            have hSl : Bs [(w11.heap.size, 44, [.string t, .int .i64 x.act, .int .i64 x.ty.base, .bool x.ty.kw, .bool x.ty.ex, .bool x.ty.xe, .int .u64 x.con.sum, .int .i64 x.con.size, .int .i64 u.num, .string x.src, .int .i64 x.srcn, .int .i64 x.fence]), (w.heap.size, 41, [.int .i64 pn, .string pc, .string pt, .bool ps, .slice (some ⟨b, off, none⟩) V.length ec, .slice R 0 rc])] wl := ⟨HMl.out.2.1, HMl.out.2.2.2.2.2.2.2.1, trivial⟩
            clear hfb hbb hib HMb HBb HWL
            have ltl := HMl.out.1.lt
            go_wp2_with fail
            refine ⟨hSl, ?_⟩
            (unfold wpMix wpRd; (repeat (first | simp only [List.filterMap_cons] | simp only [List.filterMap_nil] | simp only [List.getElem?_toArray] | simp only [List.getElem?_cons_zero] | simp only [List.getElem?_cons_succ])); (try dsimp only); change wpQuiet _ _ _ _ ([]) _; (repeat (go_big_quiet_step (fail))); refine wpQuiet_nil ?_; (try dsimp only))
            ((repeat (first | simp only [List.getElem?_toArray] | simp only [List.getElem?_cons_zero] | simp only [List.getElem?_cons_succ])); (try dsimp only))
            obtain ⟨z0, z1, z2, z3, z4, z5⟩ := HMl.out.1.c6
            have f0 := HMl.out.1.fz 0
            have f1 := HMl.out.1.fz 1
            have f2 := HMl.out.1.fz 2
            have f3 := HMl.out.1.fz 3
            have f4 := HMl.out.1.fz 4
            have f5 := HMl.out.1.fz 5
            have HMP := Lib.hid (show Bs [(w13.heap.size, 41, [.int .i64 pn, .string pc, .string pt, .bool ps, .slice Eb L.length eb, .slice Rb 0 rb]), (w11.heap.size, 44, [.string t, .int .i64 x.act, .int .i64 x.ty.base, .bool x.ty.kw, .bool x.ty.ex, .bool x.ty.xe, .int .u64 x.con.sum, .int .i64 x.con.size, .int .i64 u.num, .string x.src, .int .i64 x.srcn, .int .i64 x.fence]), (w10.heap.size, 44, [.string s, .int .i64 5, .int .i64 v.ty.base, .bool v.ty.kw, .bool v.ty.ex, .bool v.ty.xe, .int .u64 0, .int .i64 0, .int .i64 v.num, .string ⟨#[]⟩, .int .i64 0, .int .i64 0]), (w9.heap.size, 44, [.string t, .int .i64 4, .int .i64 v.ty.base, .bool v.ty.kw, .bool v.ty.ex, .bool v.ty.xe, .int .u64 v.con.sum, .int .i64 v.con.size, .int .i64 u.num, .string s, .int .i64 v.num, .int .i64 0]), (w7.heap.size, 74, [.string v.path, .int .i64 v.num, .int .i64 v.chg, .int .i64 v.act, .int .i64 v.ty.base, .bool v.ty.kw, .bool v.ty.ex, .bool v.ty.xe, .int .u64 v.con.sum, .int .i64 v.con.size, .string v.src, .int .i64 v.srcn]), (w.heap.size + 1 + 1, 41, [.int .i64 0, .string ⟨#[]⟩, .string ⟨#[]⟩, .bool false, .slice none 0 0, .slice none 0 0]), (w.heap.size + 1, 37, [.slice A d.length ca, .slice B nb cb]), (w.heap.size, 41, [.int .i64 pn, .string pc, .string pt, .bool ps, .slice (some ⟨b, off, none⟩) V.length ec, .slice R 0 rc])] _ from ⟨zero_put HMl.out.1 (.int .i64 pn) (.string pc) (.string pt) (.bool ps) (.slice Eb L.length eb) (.slice Rb 0 rb), far6 HMl.out.2.1 (b := w13.heap.size) (by omega) (.int .i64 pn) (.string pc) (.string pt) (.bool ps) (.slice Eb L.length eb) (.slice Rb 0 rb), far6 HMl.out.2.2.1 (b := w13.heap.size) (by omega) (.int .i64 pn) (.string pc) (.string pt) (.bool ps) (.slice Eb L.length eb) (.slice Rb 0 rb), far6 HMl.out.2.2.2.1 (b := w13.heap.size) (by omega) (.int .i64 pn) (.string pc) (.string pt) (.bool ps) (.slice Eb L.length eb) (.slice Rb 0 rb), far6 HMl.out.2.2.2.2.1 (b := w13.heap.size) (by omega) (.int .i64 pn) (.string pc) (.string pt) (.bool ps) (.slice Eb L.length eb) (.slice Rb 0 rb), far6 HMl.out.2.2.2.2.2.1 (b := w13.heap.size) (by omega) (.int .i64 pn) (.string pc) (.string pt) (.bool ps) (.slice Eb L.length eb) (.slice Rb 0 rb), far6 HMl.out.2.2.2.2.2.2.1 (b := w13.heap.size) (by omega) (.int .i64 pn) (.string pc) (.string pt) (.bool ps) (.slice Eb L.length eb) (.slice Rb 0 rb), far6 HMl.out.2.2.2.2.2.2.2.1 (b := w13.heap.size) (by omega) (.int .i64 pn) (.string pc) (.string pt) (.bool ps) (.slice Eb L.length eb) (.slice Rb 0 rb), trivial⟩)
            have HBP := Lib.hid (below_put6 HBl.out (b := w13.heap.size) (by omega) (.int .i64 pn) (.string pc) (.string pt) (.bool ps) (.slice Eb L.length eb) (.slice Rb 0 rb))
            have HIP := Lib.hid (in_putF HIl.out (b := w13.heap.size) (fun b off e => by have := HFB.out b off e; omega) (.int .i64 pn) (.string pc) (.string pt) (.bool ps) (.slice Eb L.length eb) (.slice Rb 0 rb))
            -- MARKS
            go_wp2_with fail
            -- MARKU
            (generalize World.setCell (World.setCell (World.setCell (World.setCell (World.setCell (World.setCell _ _ _) _ _) _ _) _ _) _ _) _ _ = wn at *)
            have HMn := HMP
            have HBn := HBP
            have HIn := HIP
            have hSn : Bs [(w11.heap.size, 44, [.string t, .int .i64 x.act, .int .i64 x.ty.base, .bool x.ty.kw, .bool x.ty.ex, .bool x.ty.xe, .int .u64 x.con.sum, .int .i64 x.con.size, .int .i64 u.num, .string x.src, .int .i64 x.srcn, .int .i64 x.fence]), (w.heap.size, 41, [.int .i64 pn, .string pc, .string pt, .bool ps, .slice (some ⟨b, off, none⟩) V.length ec, .slice R 0 rc])] wn := ⟨HMn.out.2.1, HMn.out.2.2.2.2.2.2.2.1, trivial⟩
            clear HMP HBP HIP HMl HBl HIl hSl z0 z1 z2 z3 z4 z5 f0 f1 f2 f3 f4 f5
            refine ⟨hSn, ?_⟩
            (unfold wpMix wpRd; (repeat (first | simp only [List.filterMap_cons] | simp only [List.filterMap_nil] | simp only [List.getElem?_toArray] | simp only [List.getElem?_cons_zero] | simp only [List.getElem?_cons_succ])); (try dsimp only); change wpQuiet _ _ _ _ ([]) _; (repeat (go_big_quiet_step (fail))); refine wpQuiet_nil ?_; (try dsimp only))
            have ltn := HMn.out.1.lt
            -- MARKV
            have HEQ : Hid (movedL d V s t = L) := by
              show _ = _
              rw [← HLL.out]
              unfold movedL
              rw [HF.out]
              dsimp only
              rw [if_neg HX2.out, HUE.out]
            -- MARKTA
            have HLN : Hid (L.length = V.length) := by
              show _ = _
              rw [← HLL.out]
              rw [ins_len]; have := HDL.out; omega
            -- MARKTB
            obtain ⟨p0, p1, p2, p3, p4, p5⟩ := HMn.out.1.c6
            by_cases hbig : 64 < V.length
            · have hbi : (64 : Int) < (V.length : Int) := by omega
              have hqq : q = (zeroP, 184) := by rw [← HQ.out, HQ1.out, if_neg (by rw [HOKB.out]; decide), if_pos (by rw [HEQ.out, HLN.out]; exact hbig)]
              -- MARKT
              exfalso; omega
            · have hbi : ¬ (64 : Int) < (V.length : Int) := by omega
              have hqq : q = (⟨pn, pc, pt, ps, L⟩, 0) := by rw [← HQ.out, HQ1.out, if_neg (by rw [HOKB.out]; decide), if_neg (by rw [HEQ.out, HLN.out]; exact hbig), HEQ.out]
              have HQQ := Lib.hid hqq
              clear hqq
              -- MARKTC
              have KZ := Lib.hid (zero_put HMn.out.2.2.2.2.2.1 (.int .i64 pn) (.string pc) (.string pt) (.bool ps) (.slice Eb L.length eb) (.slice Rb 0 rb))
              have HBZ := Lib.hid (below_put6 HBn.out (b := w.heap.size + 1 + 1) (by omega) (.int .i64 pn) (.string pc) (.string pt) (.bool ps) (.slice Eb L.length eb) (.slice Rb 0 rb))
              have HIZ := Lib.hid (in_putF HIn.out (b := w.heap.size + 1 + 1) (fun b off e => by have := HFB.out b off e; omega) (.int .i64 pn) (.string pc) (.string pt) (.bool ps) (.slice Eb L.length eb) (.slice Rb 0 rb))
              obtain ⟨z0, z1, z2, z3, z4, z5⟩ := HMn.out.2.2.2.2.2.1.c6
              have f0 := HMn.out.2.2.2.2.2.1.fz 0
              have f1 := HMn.out.2.2.2.2.2.1.fz 1
              have f2 := HMn.out.2.2.2.2.2.1.fz 2
              have f3 := HMn.out.2.2.2.2.2.1.fz 3
              have f4 := HMn.out.2.2.2.2.2.1.fz 4
              have f5 := HMn.out.2.2.2.2.2.1.fz 5
              go_wp2_with fail
              (generalize World.setCell (World.setCell (World.setCell (World.setCell (World.setCell (World.setCell _ _ _) _ _) _ _) _ _) _ _) _ _ = wz at *)
              obtain ⟨x0, x1, x2, x3, x4, x5⟩ := KZ.out.c6
              refine bodyPost_ret (v := .tuple #[.agg #[.int .i64 pn, .string pc, .string pt, .bool ps, .slice Eb L.length eb, .slice Rb 0 rb], .int .i64 0]) (by simp [results, Tryz.results71, go_sem, x0, x1, x2, x3, x4, x5]) rfl ?_
              rw [HQQ.out]
              exact ⟨Eb, eb, Rb, rb, rfl, HIZ.out, (fun b off e => by have := HFB.out b off e; omega), HBZ.out⟩
          ·
            (unfold wpAct; (repeat (first | simp only [List.getElem?_toArray] | simp only [List.getElem?_cons_zero] | simp only [List.getElem?_cons_succ])); (try dsimp only))
            go_wp2_with fail
            have hfl : edtK.flat [⟨t, x.act, x.ty, x.con, u.num, x.src, x.srcn, x.fence⟩] = [.string t, .int .i64 x.act, .int .i64 x.ty.base, .bool x.ty.kw, .bool x.ty.ex, .bool x.ty.xe, .int .u64 x.con.sum, .int .i64 x.con.size, .int .i64 u.num, .string x.src, .int .i64 x.srcn, .int .i64 x.fence] := rfl
            have hbx : Below w16.heap.size w16 (w16.alloc (.cells [.string t, .int .i64 x.act, .int .i64 x.ty.base, .bool x.ty.kw, .bool x.ty.ex, .bool x.ty.xe, .int .u64 x.con.sum, .int .i64 x.con.size, .int .i64 u.num, .string x.src, .int .i64 x.srcn, .int .i64 x.fence].toArray 44)) := (Below.refl _ _).alloc (Nat.le_refl _) _
            have HMa := Lib.hid (HMD.out.below hbx)
            have HBa := Lib.hid (HBD.out.trans (hbx.mono HBD.out.size))
            have HFa := Lib.hid (in_lit w16 _ _ 44 hfl)
            have hSa := hS.below hbx
            have hza := hbx.size
            clear hfl hbx HWW hS
            refine ⟨hSa, ?_⟩
            generalize hwa : World.alloc w16 (.cells #[.string t, .int .i64 x.act, .int .i64 x.ty.base, .bool x.ty.kw, .bool x.ty.ex, .bool x.ty.xe, .int .u64 x.con.sum, .int .i64 x.con.size, .int .i64 u.num, .string x.src, .int .i64 x.srcn, .int .i64 x.fence] 44) = wa at *
            clear hwa
            have HWK := HWO.out k (some ⟨b, off, none⟩) wa (HIE.out.below HBa.out) hkl
            rw [HDE.out] at HWK
            have HWW := Lib.hid HWK
            clear HWK
            (unfold wpMix wpRd; (repeat (first | simp only [List.filterMap_cons] | simp only [List.filterMap_nil] | simp only [List.getElem?_toArray] | simp only [List.getElem?_cons_zero] | simp only [List.getElem?_cons_succ])); (try dsimp only); change wpQuiet _ _ _ _ ([]) _; (repeat (go_big_quiet_step (fail))); refine wpQuiet_nil ?_; (try dsimp only))
            ((repeat (first | simp only [List.getElem?_toArray] | simp only [List.getElem?_cons_zero] | simp only [List.getElem?_cons_succ])); (try dsimp only))
            go_wp2_with fail
            refine HWW.out.mono ?_
            rintro e wb ⟨Ea, ea, Ra, ra, rfl, hia, hfa, hba⟩
            unfold pndV pndC
            dsimp only at hia ⊢
            have HMb := Lib.hid (HMa.out.below hba)
            have HBb := Lib.hid (HBa.out.trans (hba.mono HBa.out.size))
            have HIb := Lib.hid hia
            have HFb := Lib.hid (HFa.out.below hba)
            have hSb := hSa.below hba
            have hzb := hba.size
            clear hia hfa hba HWW HMa HBa HFa hSa HMD HBD
            go_wp2_with fail
            refine ⟨hSb, ?_⟩
            (unfold wpMix wpRd; (repeat (first | simp only [List.filterMap_cons] | simp only [List.filterMap_nil] | simp only [List.getElem?_toArray] | simp only [List.getElem?_cons_zero] | simp only [List.getElem?_cons_succ])); (try dsimp only); change wpQuiet _ _ _ _ ([]) _; (repeat (go_big_quiet_step (fail))); refine wpQuiet_nil ?_; (try dsimp only))
            ((repeat (first | simp only [List.getElem?_toArray] | simp only [List.getElem?_cons_zero] | simp only [List.getElem?_cons_succ])); (try dsimp only))
            have HL := HWI.out (delE V s) [⟨t, x.act, x.ty, x.con, u.num, x.src, x.srcn, x.fence⟩] (insE (delE V s) ⟨t, x.act, x.ty, x.con, u.num, x.src, x.srcn, x.fence⟩) w16.heap.size Ea ea Ra ra wb HIb.out HFb.out (by simp; omega) (fun z hz => by
              rcases List.mem_append.1 hz with hz | hz
              · exact HDU.out z hz
              · rw [List.mem_singleton] at hz
                rw [hz]
                exact HUTE.out) (ins_srt HDS.out HTN.out) (ins_perm _ _) (by simp) (HG.out.below HBb.out)
            obtain ⟨L, hL⟩ : ∃ L, insE (delE V s) ⟨t, x.act, x.ty, x.con, u.num, x.src, x.srcn, x.fence⟩ = L := ⟨_, rfl⟩
            rw [hL] at HL
            have HLL := Lib.hid hL
            have HWL := Lib.hid HL
            clear hL HL
            -- MARKR
            go_wp2_with fail
            refine HWL.out.mono ?_
            rintro e wl ⟨Eb, eb, Rb, rb, rfl, hib, hfb, hbb⟩
            unfold pndV pndC
            dsimp only at hib ⊢
            have HMl := Lib.hid (HMb.out.below hbb)
            have HBl := Lib.hid (HBb.out.trans (hbb.mono HBb.out.size))
            have HIl := Lib.hid hib
            have hzl := hbb.size
            have HFB : Hid (∀ b off, Eb = some ⟨b, off, none⟩ → w15.heap.size ≤ b) := fun b off e => by have := hfb b off e; omega
            have hSl : Bs [(w11.heap.size, 44, [.string t, .int .i64 x.act, .int .i64 x.ty.base, .bool x.ty.kw, .bool x.ty.ex, .bool x.ty.xe, .int .u64 x.con.sum, .int .i64 x.con.size, .int .i64 u.num, .string x.src, .int .i64 x.srcn, .int .i64 x.fence]), (w.heap.size, 41, [.int .i64 pn, .string pc, .string pt, .bool ps, .slice (some ⟨b, off, none⟩) V.length ec, .slice R 0 rc])] wl := ⟨HMl.out.2.1, HMl.out.2.2.2.2.2.2.2.1, trivial⟩
            clear hfb hbb hib HMb HBb HWL
            have ltl := HMl.out.1.lt
            go_wp2_with fail
            refine ⟨hSl, ?_⟩
            (unfold wpMix wpRd; (repeat (first | simp only [List.filterMap_cons] | simp only [List.filterMap_nil] | simp only [List.getElem?_toArray] | simp only [List.getElem?_cons_zero] | simp only [List.getElem?_cons_succ])); (try dsimp only); change wpQuiet _ _ _ _ ([]) _; (repeat (go_big_quiet_step (fail))); refine wpQuiet_nil ?_; (try dsimp only))
            ((repeat (first | simp only [List.getElem?_toArray] | simp only [List.getElem?_cons_zero] | simp only [List.getElem?_cons_succ])); (try dsimp only))
            obtain ⟨z0, z1, z2, z3, z4, z5⟩ := HMl.out.1.c6
            have f0 := HMl.out.1.fz 0
            have f1 := HMl.out.1.fz 1
            have f2 := HMl.out.1.fz 2
            have f3 := HMl.out.1.fz 3
            have f4 := HMl.out.1.fz 4
            have f5 := HMl.out.1.fz 5
            have HMP := Lib.hid (show Bs [(w13.heap.size, 41, [.int .i64 pn, .string pc, .string pt, .bool ps, .slice Eb L.length eb, .slice Rb 0 rb]), (w11.heap.size, 44, [.string t, .int .i64 x.act, .int .i64 x.ty.base, .bool x.ty.kw, .bool x.ty.ex, .bool x.ty.xe, .int .u64 x.con.sum, .int .i64 x.con.size, .int .i64 u.num, .string x.src, .int .i64 x.srcn, .int .i64 x.fence]), (w10.heap.size, 44, [.string s, .int .i64 5, .int .i64 v.ty.base, .bool v.ty.kw, .bool v.ty.ex, .bool v.ty.xe, .int .u64 0, .int .i64 0, .int .i64 v.num, .string ⟨#[]⟩, .int .i64 0, .int .i64 0]), (w9.heap.size, 44, [.string t, .int .i64 4, .int .i64 v.ty.base, .bool v.ty.kw, .bool v.ty.ex, .bool v.ty.xe, .int .u64 v.con.sum, .int .i64 v.con.size, .int .i64 u.num, .string s, .int .i64 v.num, .int .i64 0]), (w7.heap.size, 74, [.string v.path, .int .i64 v.num, .int .i64 v.chg, .int .i64 v.act, .int .i64 v.ty.base, .bool v.ty.kw, .bool v.ty.ex, .bool v.ty.xe, .int .u64 v.con.sum, .int .i64 v.con.size, .string v.src, .int .i64 v.srcn]), (w.heap.size + 1 + 1, 41, [.int .i64 0, .string ⟨#[]⟩, .string ⟨#[]⟩, .bool false, .slice none 0 0, .slice none 0 0]), (w.heap.size + 1, 37, [.slice A d.length ca, .slice B nb cb]), (w.heap.size, 41, [.int .i64 pn, .string pc, .string pt, .bool ps, .slice (some ⟨b, off, none⟩) V.length ec, .slice R 0 rc])] _ from ⟨zero_put HMl.out.1 (.int .i64 pn) (.string pc) (.string pt) (.bool ps) (.slice Eb L.length eb) (.slice Rb 0 rb), far6 HMl.out.2.1 (b := w13.heap.size) (by omega) (.int .i64 pn) (.string pc) (.string pt) (.bool ps) (.slice Eb L.length eb) (.slice Rb 0 rb), far6 HMl.out.2.2.1 (b := w13.heap.size) (by omega) (.int .i64 pn) (.string pc) (.string pt) (.bool ps) (.slice Eb L.length eb) (.slice Rb 0 rb), far6 HMl.out.2.2.2.1 (b := w13.heap.size) (by omega) (.int .i64 pn) (.string pc) (.string pt) (.bool ps) (.slice Eb L.length eb) (.slice Rb 0 rb), far6 HMl.out.2.2.2.2.1 (b := w13.heap.size) (by omega) (.int .i64 pn) (.string pc) (.string pt) (.bool ps) (.slice Eb L.length eb) (.slice Rb 0 rb), far6 HMl.out.2.2.2.2.2.1 (b := w13.heap.size) (by omega) (.int .i64 pn) (.string pc) (.string pt) (.bool ps) (.slice Eb L.length eb) (.slice Rb 0 rb), far6 HMl.out.2.2.2.2.2.2.1 (b := w13.heap.size) (by omega) (.int .i64 pn) (.string pc) (.string pt) (.bool ps) (.slice Eb L.length eb) (.slice Rb 0 rb), far6 HMl.out.2.2.2.2.2.2.2.1 (b := w13.heap.size) (by omega) (.int .i64 pn) (.string pc) (.string pt) (.bool ps) (.slice Eb L.length eb) (.slice Rb 0 rb), trivial⟩)
            have HBP := Lib.hid (below_put6 HBl.out (b := w13.heap.size) (by omega) (.int .i64 pn) (.string pc) (.string pt) (.bool ps) (.slice Eb L.length eb) (.slice Rb 0 rb))
            have HIP := Lib.hid (in_putF HIl.out (b := w13.heap.size) (fun b off e => by have := HFB.out b off e; omega) (.int .i64 pn) (.string pc) (.string pt) (.bool ps) (.slice Eb L.length eb) (.slice Rb 0 rb))
            -- MARKS
            go_wp2_with fail
            -- MARKU
            (generalize World.setCell (World.setCell (World.setCell (World.setCell (World.setCell (World.setCell _ _ _) _ _) _ _) _ _) _ _) _ _ = wn at *)
            have HMn := HMP
            have HBn := HBP
            have HIn := HIP
            have hSn : Bs [(w11.heap.size, 44, [.string t, .int .i64 x.act, .int .i64 x.ty.base, .bool x.ty.kw, .bool x.ty.ex, .bool x.ty.xe, .int .u64 x.con.sum, .int .i64 x.con.size, .int .i64 u.num, .string x.src, .int .i64 x.srcn, .int .i64 x.fence]), (w.heap.size, 41, [.int .i64 pn, .string pc, .string pt, .bool ps, .slice (some ⟨b, off, none⟩) V.length ec, .slice R 0 rc])] wn := ⟨HMn.out.2.1, HMn.out.2.2.2.2.2.2.2.1, trivial⟩
            clear HMP HBP HIP HMl HBl HIl hSl z0 z1 z2 z3 z4 z5 f0 f1 f2 f3 f4 f5
            refine ⟨hSn, ?_⟩
            (unfold wpMix wpRd; (repeat (first | simp only [List.filterMap_cons] | simp only [List.filterMap_nil] | simp only [List.getElem?_toArray] | simp only [List.getElem?_cons_zero] | simp only [List.getElem?_cons_succ])); (try dsimp only); change wpQuiet _ _ _ _ ([]) _; (repeat (go_big_quiet_step (fail))); refine wpQuiet_nil ?_; (try dsimp only))
            have ltn := HMn.out.1.lt
            -- MARKV
            have HEQ : Hid (movedL d V s t = L) := by
              show _ = _
              rw [← HLL.out]
              unfold movedL
              rw [HF.out]
              dsimp only
              rw [if_neg HX2.out, HUE.out]
            -- MARKTA
            have HLN : Hid (L.length = V.length) := by
              show _ = _
              rw [← HLL.out]
              rw [ins_len]; have := HDL.out; omega
            -- MARKTB
            obtain ⟨p0, p1, p2, p3, p4, p5⟩ := HMn.out.1.c6
            by_cases hbig : 64 < V.length
            · have hbi : (64 : Int) < (V.length : Int) := by omega
              have hqq : q = (zeroP, 184) := by rw [← HQ.out, HQ1.out, if_neg (by rw [HOKB.out]; decide), if_pos (by rw [HEQ.out, HLN.out]; exact hbig)]
              -- MARKT
              exfalso; omega
            · have hbi : ¬ (64 : Int) < (V.length : Int) := by omega
              have hqq : q = (⟨pn, pc, pt, ps, L⟩, 0) := by rw [← HQ.out, HQ1.out, if_neg (by rw [HOKB.out]; decide), if_neg (by rw [HEQ.out, HLN.out]; exact hbig), HEQ.out]
              have HQQ := Lib.hid hqq
              clear hqq
              -- MARKTC
              have KZ := Lib.hid (zero_put HMn.out.2.2.2.2.2.1 (.int .i64 pn) (.string pc) (.string pt) (.bool ps) (.slice Eb L.length eb) (.slice Rb 0 rb))
              have HBZ := Lib.hid (below_put6 HBn.out (b := w.heap.size + 1 + 1) (by omega) (.int .i64 pn) (.string pc) (.string pt) (.bool ps) (.slice Eb L.length eb) (.slice Rb 0 rb))
              have HIZ := Lib.hid (in_putF HIn.out (b := w.heap.size + 1 + 1) (fun b off e => by have := HFB.out b off e; omega) (.int .i64 pn) (.string pc) (.string pt) (.bool ps) (.slice Eb L.length eb) (.slice Rb 0 rb))
              obtain ⟨z0, z1, z2, z3, z4, z5⟩ := HMn.out.2.2.2.2.2.1.c6
              have f0 := HMn.out.2.2.2.2.2.1.fz 0
              have f1 := HMn.out.2.2.2.2.2.1.fz 1
              have f2 := HMn.out.2.2.2.2.2.1.fz 2
              have f3 := HMn.out.2.2.2.2.2.1.fz 3
              have f4 := HMn.out.2.2.2.2.2.1.fz 4
              have f5 := HMn.out.2.2.2.2.2.1.fz 5
              go_wp2_with fail
              (generalize World.setCell (World.setCell (World.setCell (World.setCell (World.setCell (World.setCell _ _ _) _ _) _ _) _ _) _ _) _ _ = wz at *)
              obtain ⟨x0, x1, x2, x3, x4, x5⟩ := KZ.out.c6
              refine bodyPost_ret (v := .tuple #[.agg #[.int .i64 pn, .string pc, .string pt, .bool ps, .slice Eb L.length eb, .slice Rb 0 rb], .int .i64 0]) (by simp [results, Tryz.results71, go_sem, x0, x1, x2, x3, x4, x5]) rfl ?_
              rw [HQQ.out]
              exact ⟨Eb, eb, Rb, rb, rfl, HIZ.out, (fun b off e => by have := HFB.out b off e; omega), HBZ.out⟩
end Go.Proofs.YtocffknoeknabaaGreatDoor
