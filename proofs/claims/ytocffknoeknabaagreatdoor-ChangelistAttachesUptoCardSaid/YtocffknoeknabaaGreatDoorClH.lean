/-
  The walks of the reference's without and Open.
-/
import Derived.Test.YtocffknoeknabaaGreatDoorClG
namespace Go.Proofs.YtocffknoeknabaaGreatDoor
open Go.RowKit

theorem find_sign {V : List Edt} (s : ByteArray) : decide (0 ≤ findI V s) = hasE V s := by
  unfold findI hasE
  cases fndE V s with
  | none => rfl
  | some x => simp
section
variable {P : Program} {w : World}
theorem run_append_splice (t e : TypeId) (i : TypeInfo) (size : Nat) (ht : P.underlying t = some (.slice e)) (hi : P.info? e = some i) (hsize : i.size = size)
    (g n cap : Nat) (cur : List Value) (hg : w.heap[g]? = some (.cells cur.toArray e (0, 0))) (ad : Addr) (m c : Nat) (news : List Value) (hl : news.length = m * size) (hnews : ∀ j u, news[j]? = some u → w.cell? (ad.add j) = some u) (h1 : ∀ u ∈ news, u.oneCell' = true)
    (hroom : n + m ≤ cap) (hfit : n * size + news.length ≤ cur.length) (B : Nat) (w0 : World) (hb : Below B w0 w) (hBg : B ≤ g) :
    ∃ w', (∀ ty, (Builtin.append_ #[t, t] ty #[.slice (some ⟨g, 0, none⟩) n cap, .slice (some ad) m c]).run P w = .ok (.slice (some ⟨g, 0, none⟩) (n + m) cap) w') ∧ Hid (w'.heap[g]? = some (.cells (splice cur (n * size) news).toArray e (0, 0))) ∧ Hid (∀ k, k ≠ g → w'.heap[k]? = w.heap[k]?) ∧ Below B w0 w' := by
  subst hsize
  refine ⟨_, fun ty => run_append_room (P := P) w t ty e i ht hi g n cap cur.toArray hg ad m c news hl hnews h1 hroom (by simpa using hfit), ?_, fun k hk => setRow_other w g k _ hk, below_setRow hb hBg _⟩
  show _ = _
  rw [setRow_heap w g _ _ e _ hg]
  simp [splice]
end
theorem blk_new4 (w : World) (o o2 o3 o4 : Obj) (T : TypeId) (cs : List Value) : Blk (w.heap.size + 1 + 1 + 1 + 1) T cs (((((w.alloc o).alloc o2).alloc o3).alloc o4).alloc (.cells cs.toArray T)) := by
  have h := Blk.new3 (w.alloc o) o2 o3 o4 T cs
  have e : (w.alloc o).heap.size = w.heap.size + 1 := by simp
  rwa [e] at h
theorem blk_c4 {b : Nat} {T : TypeId} {x : World} {v0 v1 v2 v3 : Value} (h : Blk b T [v0, v1, v2, v3] x) : x.cell? ⟨b, 0, none⟩ = some v0 ∧ x.cell? ⟨b, 1, none⟩ = some v1 ∧ x.cell? ⟨b, 2, none⟩ = some v2 ∧ x.cell? ⟨b, 3, none⟩ = some v3 := ⟨h.cell 0, h.cell 1, h.cell 2, h.cell 3⟩
set_option maxRecDepth 100000 in
set_option maxHeartbeats 12800000 in
theorem ropen_any (d : List Rev) (p : Pnd) (s : ByteArray) (act : Int) (t : FTy) (c : Cid) (A B E R : Option Addr) (ca nb cb ec rc : Nat) (w : World) (h : revK.In A d w) (hE : edtK.In E p.edits w) (hok : EOk p.edits) (hn : d.length ≤ 512) (_ha : Asc d) (hs : s.size < 4294967281) (hact : 1 ≤ act ∧ act ≤ 3) (hg : G0 w) :
    Calls Tryz.prog 70 #[pndV p E ec R rc, .agg #[.slice A d.length ca, .slice B nb cb], .string s, .int .i64 act, t.val, c.val] w (PRet (openP d p s act t c) w) := by
  have HI := Lib.hid h
  have HIE := Lib.hid hE
  have HOK := Lib.hid hok
  have hlen := hok.len
  have HG := Lib.hid hg
  obtain ⟨q, hq⟩ : ∃ q, openP d p s act t c = q := ⟨_, rfl⟩
  rw [hq]
  have HQ := Lib.hid hq
  have HUS := Lib.hid (fun w h => usable18_any s w hs h)
  have HFI := Lib.hid (fun w h => find_any p s E R ec rc w h hok.srt (by omega))
  have HLI := Lib.hid (fun w h => rlive_any d s A B ca nb cb w h (by omega))
  have HLA := Lib.hid (fun w h => rlast_any d s A B ca nb cb w h (by omega))
  have HBD := Lib.hid (fun w => rbad_any t c w)
  have HWI := Lib.hid (fun (x : Edt) (g : Nat) w h1 h2 h3 h4 h5 => rwith_any p [x] (insE p.edits x) E R (some ⟨g, 0, none⟩) ec rc 1 w h1 h2 (by simp; omega) h3 h4 (ins_perm _ _) (by simp) h5)
  clear h hE hok hq hg hs
  obtain ⟨pn, pc, pt, ps, V⟩ := p
  obtain ⟨tb, tk, te, tx⟩ := t
  obtain ⟨cs, cz⟩ := c
  unfold pndV pndC FTy.val FTy.cells Cid.val Cid.cells at *
  dsimp only at *
  rw [lastN_is] at HLI
  generalize hv : lastR d s = v at *
  generalize hl : liveD d s = l at *
  have HVE := Lib.hid hv
  have HLE := Lib.hid hl
  clear hv hl
  obtain rfl | rfl | rfl : act = 1 ∨ act = 2 ∨ act = 3 := by omega
  · go_enter Tryz.func70, Tryz.ntmps70
    go_upto_region 1 with fail
    generalize hw1 : World.alloc _ (.cells #[.int .i64 0, .string ⟨#[]⟩, .string ⟨#[]⟩, .bool false, .slice none 0 0, .slice none 0 0] 41) = w1
    have HM1 : Hid (Bs [(w.heap.size + 1 + 1 + 1 + 1, 41, [.int .i64 0, .string ⟨#[]⟩, .string ⟨#[]⟩, .bool false, .slice none 0 0, .slice none 0 0]), (w.heap.size + 1 + 1 + 1, 28, [.int .u64 cs, .int .i64 cz]), (w.heap.size + 1 + 1, 25, [.int .i64 tb, .bool tk, .bool te, .bool tx]), (w.heap.size + 1, 37, [.slice A d.length ca, .slice B nb cb]), (w.heap.size, 41, [.int .i64 pn, .string pc, .string pt, .bool ps, .slice E V.length ec, .slice R 0 rc])] w1) := by
      show Bs _ _
      rw [← hw1]
      refine ⟨?_, ?_, ?_, ?_, ?_, trivial⟩
      · exact blk_new4 _ _ _ _ _ _ _
      · exact Blk.alloc (Blk.new3 _ _ _ _ _ _) _
      · exact Blk.alloc (Blk.alloc (Blk.new2 _ _ _ _ _) _) _
      · exact Blk.alloc (Blk.alloc (Blk.alloc (Blk.new1 _ _ _ _) _) _) _
      · exact Blk.alloc (Blk.alloc (Blk.alloc (Blk.alloc (Blk.new _ _ _) _) _) _) _
    have HB1 : Hid (Below w.heap.size w w1) := by
      show Below _ _ _
      rw [← hw1]
      (repeat (first | (with_reducible exact Below.refl _ _) | (with_reducible assumption) | (with_reducible refine Below.setCell ?_ ?_ _; rotate_left; focus (first | exact Nat.le_refl _ | (dsimp only; omega))) | (with_reducible refine Below.drew ?_) | (with_reducible refine below_drewN ?_ _) | (with_reducible refine Below.alloc ?_ ?_ _; rotate_left; focus (first | exact Nat.le_refl _ | (simp; done) | (simp; omega)))))
    clear hw1
    have lt1 := HM1.out.1.lt
    obtain ⟨d0, d1⟩ := HM1.out.2.2.2.1.c2
    go_wp2_with fail
    refine (HLI.out _ (HI.out.below HB1.out)).mono ?_
    rintro e w2 ⟨rfl, hb2⟩
    have HM2 := Lib.hid (HM1.out.below hb2)
    have HB2 := Lib.hid (HB1.out.trans (hb2.mono HB1.out.size))
    have hz2 := hb2.size
    clear hb2 HM1 HB1 d0 d1
    obtain ⟨d0, d1⟩ := HM2.out.2.2.2.1.c2
    go_wp2_with fail
    refine (HLA.out _ (HI.out.below HB2.out)).mono ?_
    rintro e w3 ⟨rfl, hb3⟩
    unfold Rev.val Rev.cells
    have HM4 : Hid (Bs [(w3.heap.size, 74, [.string v.path, .int .i64 v.num, .int .i64 v.chg, .int .i64 v.act, .int .i64 v.ty.base, .bool v.ty.kw, .bool v.ty.ex, .bool v.ty.xe, .int .u64 v.con.sum, .int .i64 v.con.size, .string v.src, .int .i64 v.srcn]), (w.heap.size + 1 + 1 + 1 + 1, 41, [.int .i64 0, .string ⟨#[]⟩, .string ⟨#[]⟩, .bool false, .slice none 0 0, .slice none 0 0]), (w.heap.size + 1 + 1 + 1, 28, [.int .u64 cs, .int .i64 cz]), (w.heap.size + 1 + 1, 25, [.int .i64 tb, .bool tk, .bool te, .bool tx]), (w.heap.size + 1, 37, [.slice A d.length ca, .slice B nb cb]), (w.heap.size, 41, [.int .i64 pn, .string pc, .string pt, .bool ps, .slice E V.length ec, .slice R 0 rc])] (w3.alloc (.cells [.string v.path, .int .i64 v.num, .int .i64 v.chg, .int .i64 v.act, .int .i64 v.ty.base, .bool v.ty.kw, .bool v.ty.ex, .bool v.ty.xe, .int .u64 v.con.sum, .int .i64 v.con.size, .string v.src, .int .i64 v.srcn].toArray 74))) := Bs.cons (Blk.new w3 74 [.string v.path, .int .i64 v.num, .int .i64 v.chg, .int .i64 v.act, .int .i64 v.ty.base, .bool v.ty.kw, .bool v.ty.ex, .bool v.ty.xe, .int .u64 v.con.sum, .int .i64 v.con.size, .string v.src, .int .i64 v.srcn]) ((HM2.out.below hb3).alloc _)
    have HB4 : Hid (Below w.heap.size w (w3.alloc (.cells [.string v.path, .int .i64 v.num, .int .i64 v.chg, .int .i64 v.act, .int .i64 v.ty.base, .bool v.ty.kw, .bool v.ty.ex, .bool v.ty.xe, .int .u64 v.con.sum, .int .i64 v.con.size, .string v.src, .int .i64 v.srcn].toArray 74))) := (HB2.out.trans (hb3.mono HB2.out.size)).alloc (HB2.out.trans (hb3.mono HB2.out.size)).size _
    have hz3 := hb3.size
    clear hb3 HM2 HB2 d0 d1
    go_upto_region 3 with fail
    generalize hw4 : World.alloc w3 (.cells #[.string v.path, .int .i64 v.num, .int .i64 v.chg, .int .i64 v.act, .int .i64 v.ty.base, .bool v.ty.kw, .bool v.ty.ex, .bool v.ty.xe, .int .u64 v.con.sum, .int .i64 v.con.size, .string v.src, .int .i64 v.srcn] 74) = w4 at *
    clear hw4
    have lt4 := HM4.out.1.lt
    obtain ⟨t0, t1, t2, t3⟩ := blk_c4 HM4.out.2.2.2.1
    obtain ⟨c0, c1⟩ := HM4.out.2.2.1.c2
    have HM5 : Hid (Bs [(w4.heap.size, 44, [.string s, .int .i64 1, .int .i64 tb, .bool tk, .bool te, .bool tx, .int .u64 cs, .int .i64 cz, .int .i64 v.num, .string ⟨#[]⟩, .int .i64 0, .int .i64 0]), (w3.heap.size, 74, [.string v.path, .int .i64 v.num, .int .i64 v.chg, .int .i64 v.act, .int .i64 v.ty.base, .bool v.ty.kw, .bool v.ty.ex, .bool v.ty.xe, .int .u64 v.con.sum, .int .i64 v.con.size, .string v.src, .int .i64 v.srcn]), (w.heap.size + 1 + 1 + 1 + 1, 41, [.int .i64 0, .string ⟨#[]⟩, .string ⟨#[]⟩, .bool false, .slice none 0 0, .slice none 0 0]), (w.heap.size + 1 + 1 + 1, 28, [.int .u64 cs, .int .i64 cz]), (w.heap.size + 1 + 1, 25, [.int .i64 tb, .bool tk, .bool te, .bool tx]), (w.heap.size + 1, 37, [.slice A d.length ca, .slice B nb cb]), (w.heap.size, 41, [.int .i64 pn, .string pc, .string pt, .bool ps, .slice E V.length ec, .slice R 0 rc])] (w4.alloc (.cells [.string s, .int .i64 1, .int .i64 tb, .bool tk, .bool te, .bool tx, .int .u64 cs, .int .i64 cz, .int .i64 v.num, .string ⟨#[]⟩, .int .i64 0, .int .i64 0].toArray 44))) := Bs.cons (Blk.new w4 44 [.string s, .int .i64 1, .int .i64 tb, .bool tk, .bool te, .bool tx, .int .u64 cs, .int .i64 cz, .int .i64 v.num, .string ⟨#[]⟩, .int .i64 0, .int .i64 0]) (HM4.out.alloc _)
    have HB5 : Hid (Below w.heap.size w (w4.alloc (.cells [.string s, .int .i64 1, .int .i64 tb, .bool tk, .bool te, .bool tx, .int .u64 cs, .int .i64 cz, .int .i64 v.num, .string ⟨#[]⟩, .int .i64 0, .int .i64 0].toArray 44))) := HB4.out.alloc HB4.out.size _
    go_upto_region 4 with fail
    generalize hw5 : World.alloc w4 (.cells #[.string s, .int .i64 1, .int .i64 tb, .bool tk, .bool te, .bool tx, .int .u64 cs, .int .i64 cz, .int .i64 v.num, .string ⟨#[]⟩, .int .i64 0, .int .i64 0] 44) = w5 at *
    clear hw5 HM4 HB4 t0 t1 t2 t3 c0 c1
    have lt5 := HM5.out.1.lt
    -- MARKA
    go_upto_region 6 with fail
    have HM6 := HM5
    have HB6 := HB5
    obtain ⟨w6, hw6⟩ : ∃ x, x = w5 := ⟨_, rfl⟩
    subst hw6
    clear HM5 HB5
    have lt6 := HM6.out.1.lt
    -- MARKB
    go_wp2_with fail
    refine (HUS.out _ (HG.out.below HB6.out)).mono ?_
    rintro e w7 ⟨rfl, hb7⟩
    have HM7 := Lib.hid (HM6.out.below hb7)
    have HB7 := Lib.hid (HB6.out.trans (hb7.mono HB6.out.size))
    clear hb7 HM6 HB6
    cases hus : useB s
    case false =>
      have hqq : q = (zeroP, 180) := by rw [← HQ.out]; unfold openP; rw [if_pos hus]
      (obtain ⟨z0, z1, z2, z3, z4, z5⟩ := (HM7.out.2.2.1).c6; have f0 := (HM7.out.2.2.1).fz 0; have f1 := (HM7.out.2.2.1).fz 1; have f2 := (HM7.out.2.2.1).fz 2; have f3 := (HM7.out.2.2.1).fz 3; have f4 := (HM7.out.2.2.1).fz 4; have f5 := (HM7.out.2.2.1).fz 5; go_wp2_with fail; have KZ := Lib.hid (zero_put (HM7.out.2.2.1) (.int .i64 0) (.string ⟨#[]⟩) (.string ⟨#[]⟩) (.bool false) (.slice none 0 0) (.slice none 0 0)); have HBZ := Lib.hid (below_put6 (HB7.out) (b := w.heap.size + 1 + 1 + 1 + 1) (by omega) (.int .i64 0) (.string ⟨#[]⟩) (.string ⟨#[]⟩) (.bool false) (.slice none 0 0) (.slice none 0 0)); generalize World.setCell (World.setCell (World.setCell (World.setCell (World.setCell (World.setCell _ _ _) _ _) _ _) _ _) _ _) _ _ = wz at *; obtain ⟨y0, y1, y2, y3, y4, y5⟩ := KZ.out.c6; exact bodyPost_ret (v := .tuple #[.agg #[.int .i64 0, .string ⟨#[]⟩, .string ⟨#[]⟩, .bool false, .slice none 0 0, .slice none 0 0], .int .i64 _]) (by simp [results, Tryz.results70, go_sem, y0, y1, y2, y3, y4, y5]) rfl (PRet.no (hqq) HBZ.out))
    have HUST := Lib.hid hus
    clear hus
    obtain ⟨p0, p1, p2, p3, p4, p5⟩ := HM7.out.2.2.2.2.2.2.1.c6
    go_wp2_with fail
    refine (HFI.out _ (HIE.out.below HB7.out)).mono ?_
    rintro e w8 ⟨rfl, hb8⟩
    have HM8 := Lib.hid (HM7.out.below hb8)
    have HB8 := Lib.hid (HB7.out.trans (hb8.mono HB7.out.size))
    clear hb8 HM7 HB7 p0 p1 p2 p3 p4 p5
    have HFS := Lib.hid (find_sign (V := V) s)
    generalize findI V s = fi at *
    cases hh : hasE V s
    case true =>
      have hfi : (0 : Int) ≤ fi := by have := HFS.out; rw [hh] at this; simpa using this
      have hqq : q = (zeroP, 181) := by rw [← HQ.out]; unfold openP; rw [if_neg (by rw [HUST.out]; decide), if_pos hh]
      (obtain ⟨z0, z1, z2, z3, z4, z5⟩ := (HM8.out.2.2.1).c6; have f0 := (HM8.out.2.2.1).fz 0; have f1 := (HM8.out.2.2.1).fz 1; have f2 := (HM8.out.2.2.1).fz 2; have f3 := (HM8.out.2.2.1).fz 3; have f4 := (HM8.out.2.2.1).fz 4; have f5 := (HM8.out.2.2.1).fz 5; go_wp2_with fail; have KZ := Lib.hid (zero_put (HM8.out.2.2.1) (.int .i64 0) (.string ⟨#[]⟩) (.string ⟨#[]⟩) (.bool false) (.slice none 0 0) (.slice none 0 0)); have HBZ := Lib.hid (below_put6 (HB8.out) (b := w.heap.size + 1 + 1 + 1 + 1) (by omega) (.int .i64 0) (.string ⟨#[]⟩) (.string ⟨#[]⟩) (.bool false) (.slice none 0 0) (.slice none 0 0)); generalize World.setCell (World.setCell (World.setCell (World.setCell (World.setCell (World.setCell _ _ _) _ _) _ _) _ _) _ _) _ _ = wz at *; obtain ⟨y0, y1, y2, y3, y4, y5⟩ := KZ.out.c6; exact bodyPost_ret (v := .tuple #[.agg #[.int .i64 0, .string ⟨#[]⟩, .string ⟨#[]⟩, .bool false, .slice none 0 0, .slice none 0 0], .int .i64 _]) (by simp [results, Tryz.results70, go_sem, y0, y1, y2, y3, y4, y5]) rfl (PRet.no (hqq) HBZ.out))
    have hfi : ¬ (0 : Int) ≤ fi := by have := HFS.out; rw [hh] at this; simpa using this
    have HHN := Lib.hid hh
    clear hh HFS
    have HQ1 : Hid (q = if l = decide ((1 : Int) = 1) ∨ ((1 : Int) ≠ 3 ∧ badTC ⟨tb, tk, te, tx⟩ ⟨cs, cz⟩ = true) then (zeroP, 183) else if 64 ≤ V.length then (zeroP, 184) else (⟨pn, pc, pt, ps, insE V (newE d s 1 ⟨tb, tk, te, tx⟩ ⟨cs, cz⟩)⟩, 0)) := by
      show _ = _
      rw [← HQ.out, ← HLE.out]
      unfold openP
      rw [if_neg (by rw [HUST.out]; decide), if_neg (by rw [HHN.out]; decide)]
    -- MARKC
    cases l
    case true =>
      have hqq : q = (zeroP, 183) := by rw [HQ1.out, if_pos (.inl (by decide))]
      -- MARKK
      (obtain ⟨z0, z1, z2, z3, z4, z5⟩ := (HM8.out.2.2.1).c6; have f0 := (HM8.out.2.2.1).fz 0; have f1 := (HM8.out.2.2.1).fz 1; have f2 := (HM8.out.2.2.1).fz 2; have f3 := (HM8.out.2.2.1).fz 3; have f4 := (HM8.out.2.2.1).fz 4; have f5 := (HM8.out.2.2.1).fz 5; go_wp2_with fail; have KZ := Lib.hid (zero_put (HM8.out.2.2.1) (.int .i64 0) (.string ⟨#[]⟩) (.string ⟨#[]⟩) (.bool false) (.slice none 0 0) (.slice none 0 0)); have HBZ := Lib.hid (below_put6 (HB8.out) (b := w.heap.size + 1 + 1 + 1 + 1) (by omega) (.int .i64 0) (.string ⟨#[]⟩) (.string ⟨#[]⟩) (.bool false) (.slice none 0 0) (.slice none 0 0)); generalize World.setCell (World.setCell (World.setCell (World.setCell (World.setCell (World.setCell _ _ _) _ _) _ _) _ _) _ _) _ _ = wz at *; obtain ⟨y0, y1, y2, y3, y4, y5⟩ := KZ.out.c6; exact bodyPost_ret (v := .tuple #[.agg #[.int .i64 0, .string ⟨#[]⟩, .string ⟨#[]⟩, .bool false, .slice none 0 0, .slice none 0 0], .int .i64 _]) (by simp [results, Tryz.results70, go_sem, y0, y1, y2, y3, y4, y5]) rfl (PRet.no (hqq) HBZ.out))
    -- MARKJ
    obtain ⟨t0, t1, t2, t3⟩ := blk_c4 HM8.out.2.2.2.2.1
    obtain ⟨c0, c1⟩ := HM8.out.2.2.2.1.c2
    go_wp2_with fail
    refine (HBD.out _).mono ?_
    rintro e w9 ⟨rfl, hb9⟩
    have HM9 := Lib.hid (HM8.out.below hb9)
    have HB9 := Lib.hid (HB8.out.trans (hb9.mono HB8.out.size))
    clear hb9 HM8 HB8 t0 t1 t2 t3 c0 c1
    cases hbd : badTC ⟨tb, tk, te, tx⟩ ⟨cs, cz⟩
    case true =>
      have hqq : q = (zeroP, 183) := by rw [HQ1.out, if_pos (.inr ⟨by decide, hbd⟩)]
      (obtain ⟨z0, z1, z2, z3, z4, z5⟩ := (HM9.out.2.2.1).c6; have f0 := (HM9.out.2.2.1).fz 0; have f1 := (HM9.out.2.2.1).fz 1; have f2 := (HM9.out.2.2.1).fz 2; have f3 := (HM9.out.2.2.1).fz 3; have f4 := (HM9.out.2.2.1).fz 4; have f5 := (HM9.out.2.2.1).fz 5; go_wp2_with fail; have KZ := Lib.hid (zero_put (HM9.out.2.2.1) (.int .i64 0) (.string ⟨#[]⟩) (.string ⟨#[]⟩) (.bool false) (.slice none 0 0) (.slice none 0 0)); have HBZ := Lib.hid (below_put6 (HB9.out) (b := w.heap.size + 1 + 1 + 1 + 1) (by omega) (.int .i64 0) (.string ⟨#[]⟩) (.string ⟨#[]⟩) (.bool false) (.slice none 0 0) (.slice none 0 0)); generalize World.setCell (World.setCell (World.setCell (World.setCell (World.setCell (World.setCell _ _ _) _ _) _ _) _ _) _ _) _ _ = wz at *; obtain ⟨y0, y1, y2, y3, y4, y5⟩ := KZ.out.c6; exact bodyPost_ret (v := .tuple #[.agg #[.int .i64 0, .string ⟨#[]⟩, .string ⟨#[]⟩, .bool false, .slice none 0 0, .slice none 0 0], .int .i64 _]) (by simp [results, Tryz.results70, go_sem, y0, y1, y2, y3, y4, y5]) rfl (PRet.no (hqq) HBZ.out))
    have HQ2 : Hid (q = if 64 ≤ V.length then (zeroP, 184) else (⟨pn, pc, pt, ps, insE V (newE d s 1 ⟨tb, tk, te, tx⟩ ⟨cs, cz⟩)⟩, 0)) := by
      show _ = _
      rw [HQ1.out, if_neg]
      rintro (h | h)
      · exact absurd h (by decide)
      · rw [hbd] at h; exact absurd h.2 (by decide)
    clear hbd
    -- MARKF
    clear HQ1
    have lt9 := HM9.out.1.lt
    obtain ⟨p0, p1, p2, p3, p4, p5⟩ := HM9.out.2.2.2.2.2.2.1.c6
    by_cases hbig : 64 ≤ V.length
    · have hbi : (64 : Int) ≤ (V.length : Int) := by omega
      have hqq : q = (zeroP, 184) := by rw [HQ2.out, if_pos hbig]
      (obtain ⟨z0, z1, z2, z3, z4, z5⟩ := (HM9.out.2.2.1).c6; have f0 := (HM9.out.2.2.1).fz 0; have f1 := (HM9.out.2.2.1).fz 1; have f2 := (HM9.out.2.2.1).fz 2; have f3 := (HM9.out.2.2.1).fz 3; have f4 := (HM9.out.2.2.1).fz 4; have f5 := (HM9.out.2.2.1).fz 5; go_wp2_with fail; have KZ := Lib.hid (zero_put (HM9.out.2.2.1) (.int .i64 0) (.string ⟨#[]⟩) (.string ⟨#[]⟩) (.bool false) (.slice none 0 0) (.slice none 0 0)); have HBZ := Lib.hid (below_put6 (HB9.out) (b := w.heap.size + 1 + 1 + 1 + 1) (by omega) (.int .i64 0) (.string ⟨#[]⟩) (.string ⟨#[]⟩) (.bool false) (.slice none 0 0) (.slice none 0 0)); generalize World.setCell (World.setCell (World.setCell (World.setCell (World.setCell (World.setCell _ _ _) _ _) _ _) _ _) _ _) _ _ = wz at *; obtain ⟨y0, y1, y2, y3, y4, y5⟩ := KZ.out.c6; exact bodyPost_ret (v := .tuple #[.agg #[.int .i64 0, .string ⟨#[]⟩, .string ⟨#[]⟩, .bool false, .slice none 0 0, .slice none 0 0], .int .i64 _]) (by simp [results, Tryz.results70, go_sem, y0, y1, y2, y3, y4, y5]) rfl (PRet.no (hqq) HBZ.out))
    · have hbi : ¬ (64 : Int) ≤ (V.length : Int) := by omega
      have hqq : q = (⟨pn, pc, pt, ps, insE V ⟨s, 1, ⟨tb, tk, te, tx⟩, ⟨cs, cz⟩, v.num, ⟨#[]⟩, 0, 0⟩⟩, 0) := by
        rw [HQ2.out, if_neg hbig]
        unfold newE
        rw [HVE.out]
        rfl
      have HQQ := Lib.hid hqq
      clear hqq
      -- MARKG
      obtain ⟨x0, x1, x2, x3, x4, x5, x6, x7, x8, x9, x10, x11⟩ := HM9.out.1.c12
      have HLT := edtK.lit w9 ⟨s, 1, ⟨tb, tk, te, tx⟩, ⟨cs, cz⟩, v.num, ⟨#[]⟩, 0, 0⟩ 44
      have hbw : Below w9.heap.size w9 (w9.alloc (.cells [.string s, .int .i64 1, .int .i64 tb, .bool tk, .bool te, .bool tx, .int .u64 cs, .int .i64 cz, .int .i64 v.num, .string ⟨#[]⟩, .int .i64 0, .int .i64 0].toArray 44)) := (Below.refl _ _).alloc (Nat.le_refl _) _
      have HW := HWI.out ⟨s, 1, ⟨tb, tk, te, tx⟩, ⟨cs, cz⟩, v.num, ⟨#[]⟩, 0, 0⟩ w9.heap.size (w9.alloc (.cells [.string s, .int .i64 1, .int .i64 tb, .bool tk, .bool te, .bool tx, .int .u64 cs, .int .i64 cz, .int .i64 v.num, .string ⟨#[]⟩, .int .i64 0, .int .i64 0].toArray 44)) (HIE.out.below (HB9.out.trans (hbw.mono HB9.out.size))) (fun _ => ⟨w9.heap.size, 0, rfl, by simp, fun j u hu => by
        have := HLT.1 j u (by rwa [RowK.flat_one] at hu)
        rw [add_lit] at this
        exact this⟩) (fun z hz => by
        rcases List.mem_append.1 hz with hz | hz
        · exact HOK.out.use z hz
        · rw [List.mem_singleton] at hz
          rw [hz]
          exact HUST.out) (ins_srt HOK.out.srt (has_none HHN.out)) (HG.out.below (HB9.out.trans (hbw.mono HB9.out.size)))
      have HMA : Hid (Bs [(w4.heap.size, 44, [.string s, .int .i64 1, .int .i64 tb, .bool tk, .bool te, .bool tx, .int .u64 cs, .int .i64 cz, .int .i64 v.num, .string ⟨#[]⟩, .int .i64 0, .int .i64 0]), (w3.heap.size, 74, [.string v.path, .int .i64 v.num, .int .i64 v.chg, .int .i64 v.act, .int .i64 v.ty.base, .bool v.ty.kw, .bool v.ty.ex, .bool v.ty.xe, .int .u64 v.con.sum, .int .i64 v.con.size, .string v.src, .int .i64 v.srcn]), (w.heap.size + 1 + 1 + 1 + 1, 41, [.int .i64 0, .string ⟨#[]⟩, .string ⟨#[]⟩, .bool false, .slice none 0 0, .slice none 0 0]), (w.heap.size + 1 + 1 + 1, 28, [.int .u64 cs, .int .i64 cz]), (w.heap.size + 1 + 1, 25, [.int .i64 tb, .bool tk, .bool te, .bool tx]), (w.heap.size + 1, 37, [.slice A d.length ca, .slice B nb cb]), (w.heap.size, 41, [.int .i64 pn, .string pc, .string pt, .bool ps, .slice E V.length ec, .slice R 0 rc])] (w9.alloc (.cells [.string s, .int .i64 1, .int .i64 tb, .bool tk, .bool te, .bool tx, .int .u64 cs, .int .i64 cz, .int .i64 v.num, .string ⟨#[]⟩, .int .i64 0, .int .i64 0].toArray 44))) := HM9.out.alloc _
      have HBA : Hid (Below w.heap.size w (w9.alloc (.cells [.string s, .int .i64 1, .int .i64 tb, .bool tk, .bool te, .bool tx, .int .u64 cs, .int .i64 cz, .int .i64 v.num, .string ⟨#[]⟩, .int .i64 0, .int .i64 0].toArray 44))) := HB9.out.trans (hbw.mono HB9.out.size)
      have HWW := Lib.hid HW
      clear HW HLT hbw
      -- MARKH
      go_wp2_with fail
      -- MARKI
      refine HWW.out.mono ?_
      rintro e wb ⟨Eb, eb, Rb, rb, rfl, hib, hfb, hbb⟩
      unfold pndV pndC
      dsimp only at hib ⊢
      have HMB := Lib.hid (HMA.out.below hbb)
      have HBB := Lib.hid (HBA.out.trans (hbb.mono HBA.out.size))
      have HIB := Lib.hid hib
      have hwA : w9.heap.size ≤ (w9.alloc (.cells [.string s, .int .i64 1, .int .i64 tb, .bool tk, .bool te, .bool tx, .int .u64 cs, .int .i64 cz, .int .i64 v.num, .string ⟨#[]⟩, .int .i64 0, .int .i64 0].toArray 44)).heap.size := by simp
      have HFB : Hid (∀ b off, Eb = some ⟨b, off, none⟩ → w9.heap.size ≤ b) := fun b off e => Nat.le_trans hwA (hfb b off e)
      clear hfb hwA
      generalize hL : insE V ⟨s, 1, ⟨tb, tk, te, tx⟩, ⟨cs, cz⟩, v.num, ⟨#[]⟩, 0, 0⟩ = L at *
      clear hbb hib HMA HBA HWW hL p0 p1 p2 p3 p4 p5 x0 x1 x2 x3 x4 x5 x6 x7 x8 x9 x10 x11
      obtain ⟨z0, z1, z2, z3, z4, z5⟩ := HMB.out.2.2.1.c6
      have f0 := HMB.out.2.2.1.fz 0
      have f1 := HMB.out.2.2.1.fz 1
      have f2 := HMB.out.2.2.1.fz 2
      have f3 := HMB.out.2.2.1.fz 3
      have f4 := HMB.out.2.2.1.fz 4
      have f5 := HMB.out.2.2.1.fz 5
      -- MARKD
      go_wp2_with fail
      have KZ := Lib.hid (zero_put HMB.out.2.2.1 (.int .i64 pn) (.string pc) (.string pt) (.bool ps) (.slice Eb L.length eb) (.slice Rb 0 rb))
      have HBZ := Lib.hid (below_put6 HBB.out (b := w.heap.size + 1 + 1 + 1 + 1) (by omega) (.int .i64 pn) (.string pc) (.string pt) (.bool ps) (.slice Eb L.length eb) (.slice Rb 0 rb))
      have HIZ := Lib.hid (in_putF HIB.out (b := w.heap.size + 1 + 1 + 1 + 1) (fun b off e => by have := HFB.out b off e; omega) (.int .i64 pn) (.string pc) (.string pt) (.bool ps) (.slice Eb L.length eb) (.slice Rb 0 rb))
      have HFW : Hid (∀ b off, Eb = some ⟨b, off, none⟩ → w.heap.size ≤ b) := fun b off e => by have := HFB.out b off e; omega
      (generalize World.setCell (World.setCell (World.setCell (World.setCell (World.setCell (World.setCell _ _ _) _ _) _ _) _ _) _ _) _ _ = wz at *)
      obtain ⟨y0, y1, y2, y3, y4, y5⟩ := KZ.out.c6
      refine bodyPost_ret (v := .tuple #[.agg #[.int .i64 pn, .string pc, .string pt, .bool ps, .slice Eb L.length eb, .slice Rb 0 rb], .int .i64 0]) (by simp [results, Tryz.results70, go_sem, y0, y1, y2, y3, y4, y5]) rfl ?_
      rw [HQQ.out]
      exact ⟨Eb, eb, Rb, rb, rfl, HIZ.out, HFW.out, HBZ.out⟩
  · go_enter Tryz.func70, Tryz.ntmps70
    go_upto_region 1 with fail
    generalize hw1 : World.alloc _ (.cells #[.int .i64 0, .string ⟨#[]⟩, .string ⟨#[]⟩, .bool false, .slice none 0 0, .slice none 0 0] 41) = w1
    have HM1 : Hid (Bs [(w.heap.size + 1 + 1 + 1 + 1, 41, [.int .i64 0, .string ⟨#[]⟩, .string ⟨#[]⟩, .bool false, .slice none 0 0, .slice none 0 0]), (w.heap.size + 1 + 1 + 1, 28, [.int .u64 cs, .int .i64 cz]), (w.heap.size + 1 + 1, 25, [.int .i64 tb, .bool tk, .bool te, .bool tx]), (w.heap.size + 1, 37, [.slice A d.length ca, .slice B nb cb]), (w.heap.size, 41, [.int .i64 pn, .string pc, .string pt, .bool ps, .slice E V.length ec, .slice R 0 rc])] w1) := by
      show Bs _ _
      rw [← hw1]
      refine ⟨?_, ?_, ?_, ?_, ?_, trivial⟩
      · exact blk_new4 _ _ _ _ _ _ _
      · exact Blk.alloc (Blk.new3 _ _ _ _ _ _) _
      · exact Blk.alloc (Blk.alloc (Blk.new2 _ _ _ _ _) _) _
      · exact Blk.alloc (Blk.alloc (Blk.alloc (Blk.new1 _ _ _ _) _) _) _
      · exact Blk.alloc (Blk.alloc (Blk.alloc (Blk.alloc (Blk.new _ _ _) _) _) _) _
    have HB1 : Hid (Below w.heap.size w w1) := by
      show Below _ _ _
      rw [← hw1]
      (repeat (first | (with_reducible exact Below.refl _ _) | (with_reducible assumption) | (with_reducible refine Below.setCell ?_ ?_ _; rotate_left; focus (first | exact Nat.le_refl _ | (dsimp only; omega))) | (with_reducible refine Below.drew ?_) | (with_reducible refine below_drewN ?_ _) | (with_reducible refine Below.alloc ?_ ?_ _; rotate_left; focus (first | exact Nat.le_refl _ | (simp; done) | (simp; omega)))))
    clear hw1
    have lt1 := HM1.out.1.lt
    obtain ⟨d0, d1⟩ := HM1.out.2.2.2.1.c2
    go_wp2_with fail
    refine (HLI.out _ (HI.out.below HB1.out)).mono ?_
    rintro e w2 ⟨rfl, hb2⟩
    have HM2 := Lib.hid (HM1.out.below hb2)
    have HB2 := Lib.hid (HB1.out.trans (hb2.mono HB1.out.size))
    have hz2 := hb2.size
    clear hb2 HM1 HB1 d0 d1
    obtain ⟨d0, d1⟩ := HM2.out.2.2.2.1.c2
    go_wp2_with fail
    refine (HLA.out _ (HI.out.below HB2.out)).mono ?_
    rintro e w3 ⟨rfl, hb3⟩
    unfold Rev.val Rev.cells
    have HM4 : Hid (Bs [(w3.heap.size, 74, [.string v.path, .int .i64 v.num, .int .i64 v.chg, .int .i64 v.act, .int .i64 v.ty.base, .bool v.ty.kw, .bool v.ty.ex, .bool v.ty.xe, .int .u64 v.con.sum, .int .i64 v.con.size, .string v.src, .int .i64 v.srcn]), (w.heap.size + 1 + 1 + 1 + 1, 41, [.int .i64 0, .string ⟨#[]⟩, .string ⟨#[]⟩, .bool false, .slice none 0 0, .slice none 0 0]), (w.heap.size + 1 + 1 + 1, 28, [.int .u64 cs, .int .i64 cz]), (w.heap.size + 1 + 1, 25, [.int .i64 tb, .bool tk, .bool te, .bool tx]), (w.heap.size + 1, 37, [.slice A d.length ca, .slice B nb cb]), (w.heap.size, 41, [.int .i64 pn, .string pc, .string pt, .bool ps, .slice E V.length ec, .slice R 0 rc])] (w3.alloc (.cells [.string v.path, .int .i64 v.num, .int .i64 v.chg, .int .i64 v.act, .int .i64 v.ty.base, .bool v.ty.kw, .bool v.ty.ex, .bool v.ty.xe, .int .u64 v.con.sum, .int .i64 v.con.size, .string v.src, .int .i64 v.srcn].toArray 74))) := Bs.cons (Blk.new w3 74 [.string v.path, .int .i64 v.num, .int .i64 v.chg, .int .i64 v.act, .int .i64 v.ty.base, .bool v.ty.kw, .bool v.ty.ex, .bool v.ty.xe, .int .u64 v.con.sum, .int .i64 v.con.size, .string v.src, .int .i64 v.srcn]) ((HM2.out.below hb3).alloc _)
    have HB4 : Hid (Below w.heap.size w (w3.alloc (.cells [.string v.path, .int .i64 v.num, .int .i64 v.chg, .int .i64 v.act, .int .i64 v.ty.base, .bool v.ty.kw, .bool v.ty.ex, .bool v.ty.xe, .int .u64 v.con.sum, .int .i64 v.con.size, .string v.src, .int .i64 v.srcn].toArray 74))) := (HB2.out.trans (hb3.mono HB2.out.size)).alloc (HB2.out.trans (hb3.mono HB2.out.size)).size _
    have hz3 := hb3.size
    clear hb3 HM2 HB2 d0 d1
    go_upto_region 3 with fail
    generalize hw4 : World.alloc w3 (.cells #[.string v.path, .int .i64 v.num, .int .i64 v.chg, .int .i64 v.act, .int .i64 v.ty.base, .bool v.ty.kw, .bool v.ty.ex, .bool v.ty.xe, .int .u64 v.con.sum, .int .i64 v.con.size, .string v.src, .int .i64 v.srcn] 74) = w4 at *
    clear hw4
    have lt4 := HM4.out.1.lt
    obtain ⟨t0, t1, t2, t3⟩ := blk_c4 HM4.out.2.2.2.1
    obtain ⟨c0, c1⟩ := HM4.out.2.2.1.c2
    have HM5 : Hid (Bs [(w4.heap.size, 44, [.string s, .int .i64 2, .int .i64 tb, .bool tk, .bool te, .bool tx, .int .u64 cs, .int .i64 cz, .int .i64 v.num, .string ⟨#[]⟩, .int .i64 0, .int .i64 0]), (w3.heap.size, 74, [.string v.path, .int .i64 v.num, .int .i64 v.chg, .int .i64 v.act, .int .i64 v.ty.base, .bool v.ty.kw, .bool v.ty.ex, .bool v.ty.xe, .int .u64 v.con.sum, .int .i64 v.con.size, .string v.src, .int .i64 v.srcn]), (w.heap.size + 1 + 1 + 1 + 1, 41, [.int .i64 0, .string ⟨#[]⟩, .string ⟨#[]⟩, .bool false, .slice none 0 0, .slice none 0 0]), (w.heap.size + 1 + 1 + 1, 28, [.int .u64 cs, .int .i64 cz]), (w.heap.size + 1 + 1, 25, [.int .i64 tb, .bool tk, .bool te, .bool tx]), (w.heap.size + 1, 37, [.slice A d.length ca, .slice B nb cb]), (w.heap.size, 41, [.int .i64 pn, .string pc, .string pt, .bool ps, .slice E V.length ec, .slice R 0 rc])] (w4.alloc (.cells [.string s, .int .i64 2, .int .i64 tb, .bool tk, .bool te, .bool tx, .int .u64 cs, .int .i64 cz, .int .i64 v.num, .string ⟨#[]⟩, .int .i64 0, .int .i64 0].toArray 44))) := Bs.cons (Blk.new w4 44 [.string s, .int .i64 2, .int .i64 tb, .bool tk, .bool te, .bool tx, .int .u64 cs, .int .i64 cz, .int .i64 v.num, .string ⟨#[]⟩, .int .i64 0, .int .i64 0]) (HM4.out.alloc _)
    have HB5 : Hid (Below w.heap.size w (w4.alloc (.cells [.string s, .int .i64 2, .int .i64 tb, .bool tk, .bool te, .bool tx, .int .u64 cs, .int .i64 cz, .int .i64 v.num, .string ⟨#[]⟩, .int .i64 0, .int .i64 0].toArray 44))) := HB4.out.alloc HB4.out.size _
    go_upto_region 4 with fail
    generalize hw5 : World.alloc w4 (.cells #[.string s, .int .i64 2, .int .i64 tb, .bool tk, .bool te, .bool tx, .int .u64 cs, .int .i64 cz, .int .i64 v.num, .string ⟨#[]⟩, .int .i64 0, .int .i64 0] 44) = w5 at *
    clear hw5 HM4 HB4 t0 t1 t2 t3 c0 c1
    have lt5 := HM5.out.1.lt
    -- MARKA
    go_upto_region 6 with fail
    have HM6 := HM5
    have HB6 := HB5
    obtain ⟨w6, hw6⟩ : ∃ x, x = w5 := ⟨_, rfl⟩
    subst hw6
    clear HM5 HB5
    have lt6 := HM6.out.1.lt
    -- MARKB
    go_wp2_with fail
    refine (HUS.out _ (HG.out.below HB6.out)).mono ?_
    rintro e w7 ⟨rfl, hb7⟩
    have HM7 := Lib.hid (HM6.out.below hb7)
    have HB7 := Lib.hid (HB6.out.trans (hb7.mono HB6.out.size))
    clear hb7 HM6 HB6
    cases hus : useB s
    case false =>
      have hqq : q = (zeroP, 180) := by rw [← HQ.out]; unfold openP; rw [if_pos hus]
      (obtain ⟨z0, z1, z2, z3, z4, z5⟩ := (HM7.out.2.2.1).c6; have f0 := (HM7.out.2.2.1).fz 0; have f1 := (HM7.out.2.2.1).fz 1; have f2 := (HM7.out.2.2.1).fz 2; have f3 := (HM7.out.2.2.1).fz 3; have f4 := (HM7.out.2.2.1).fz 4; have f5 := (HM7.out.2.2.1).fz 5; go_wp2_with fail; have KZ := Lib.hid (zero_put (HM7.out.2.2.1) (.int .i64 0) (.string ⟨#[]⟩) (.string ⟨#[]⟩) (.bool false) (.slice none 0 0) (.slice none 0 0)); have HBZ := Lib.hid (below_put6 (HB7.out) (b := w.heap.size + 1 + 1 + 1 + 1) (by omega) (.int .i64 0) (.string ⟨#[]⟩) (.string ⟨#[]⟩) (.bool false) (.slice none 0 0) (.slice none 0 0)); generalize World.setCell (World.setCell (World.setCell (World.setCell (World.setCell (World.setCell _ _ _) _ _) _ _) _ _) _ _) _ _ = wz at *; obtain ⟨y0, y1, y2, y3, y4, y5⟩ := KZ.out.c6; exact bodyPost_ret (v := .tuple #[.agg #[.int .i64 0, .string ⟨#[]⟩, .string ⟨#[]⟩, .bool false, .slice none 0 0, .slice none 0 0], .int .i64 _]) (by simp [results, Tryz.results70, go_sem, y0, y1, y2, y3, y4, y5]) rfl (PRet.no (hqq) HBZ.out))
    have HUST := Lib.hid hus
    clear hus
    obtain ⟨p0, p1, p2, p3, p4, p5⟩ := HM7.out.2.2.2.2.2.2.1.c6
    go_wp2_with fail
    refine (HFI.out _ (HIE.out.below HB7.out)).mono ?_
    rintro e w8 ⟨rfl, hb8⟩
    have HM8 := Lib.hid (HM7.out.below hb8)
    have HB8 := Lib.hid (HB7.out.trans (hb8.mono HB7.out.size))
    clear hb8 HM7 HB7 p0 p1 p2 p3 p4 p5
    have HFS := Lib.hid (find_sign (V := V) s)
    generalize findI V s = fi at *
    cases hh : hasE V s
    case true =>
      have hfi : (0 : Int) ≤ fi := by have := HFS.out; rw [hh] at this; simpa using this
      have hqq : q = (zeroP, 181) := by rw [← HQ.out]; unfold openP; rw [if_neg (by rw [HUST.out]; decide), if_pos hh]
      (obtain ⟨z0, z1, z2, z3, z4, z5⟩ := (HM8.out.2.2.1).c6; have f0 := (HM8.out.2.2.1).fz 0; have f1 := (HM8.out.2.2.1).fz 1; have f2 := (HM8.out.2.2.1).fz 2; have f3 := (HM8.out.2.2.1).fz 3; have f4 := (HM8.out.2.2.1).fz 4; have f5 := (HM8.out.2.2.1).fz 5; go_wp2_with fail; have KZ := Lib.hid (zero_put (HM8.out.2.2.1) (.int .i64 0) (.string ⟨#[]⟩) (.string ⟨#[]⟩) (.bool false) (.slice none 0 0) (.slice none 0 0)); have HBZ := Lib.hid (below_put6 (HB8.out) (b := w.heap.size + 1 + 1 + 1 + 1) (by omega) (.int .i64 0) (.string ⟨#[]⟩) (.string ⟨#[]⟩) (.bool false) (.slice none 0 0) (.slice none 0 0)); generalize World.setCell (World.setCell (World.setCell (World.setCell (World.setCell (World.setCell _ _ _) _ _) _ _) _ _) _ _) _ _ = wz at *; obtain ⟨y0, y1, y2, y3, y4, y5⟩ := KZ.out.c6; exact bodyPost_ret (v := .tuple #[.agg #[.int .i64 0, .string ⟨#[]⟩, .string ⟨#[]⟩, .bool false, .slice none 0 0, .slice none 0 0], .int .i64 _]) (by simp [results, Tryz.results70, go_sem, y0, y1, y2, y3, y4, y5]) rfl (PRet.no (hqq) HBZ.out))
    have hfi : ¬ (0 : Int) ≤ fi := by have := HFS.out; rw [hh] at this; simpa using this
    have HHN := Lib.hid hh
    clear hh HFS
    have HQ1 : Hid (q = if l = decide ((2 : Int) = 1) ∨ ((2 : Int) ≠ 3 ∧ badTC ⟨tb, tk, te, tx⟩ ⟨cs, cz⟩ = true) then (zeroP, 183) else if 64 ≤ V.length then (zeroP, 184) else (⟨pn, pc, pt, ps, insE V (newE d s 2 ⟨tb, tk, te, tx⟩ ⟨cs, cz⟩)⟩, 0)) := by
      show _ = _
      rw [← HQ.out, ← HLE.out]
      unfold openP
      rw [if_neg (by rw [HUST.out]; decide), if_neg (by rw [HHN.out]; decide)]
    -- MARKC
    cases l
    case false =>
      have hqq : q = (zeroP, 183) := by rw [HQ1.out, if_pos (.inl (by decide))]
      -- MARKK
      (obtain ⟨z0, z1, z2, z3, z4, z5⟩ := (HM8.out.2.2.1).c6; have f0 := (HM8.out.2.2.1).fz 0; have f1 := (HM8.out.2.2.1).fz 1; have f2 := (HM8.out.2.2.1).fz 2; have f3 := (HM8.out.2.2.1).fz 3; have f4 := (HM8.out.2.2.1).fz 4; have f5 := (HM8.out.2.2.1).fz 5; go_wp2_with fail; have KZ := Lib.hid (zero_put (HM8.out.2.2.1) (.int .i64 0) (.string ⟨#[]⟩) (.string ⟨#[]⟩) (.bool false) (.slice none 0 0) (.slice none 0 0)); have HBZ := Lib.hid (below_put6 (HB8.out) (b := w.heap.size + 1 + 1 + 1 + 1) (by omega) (.int .i64 0) (.string ⟨#[]⟩) (.string ⟨#[]⟩) (.bool false) (.slice none 0 0) (.slice none 0 0)); generalize World.setCell (World.setCell (World.setCell (World.setCell (World.setCell (World.setCell _ _ _) _ _) _ _) _ _) _ _) _ _ = wz at *; obtain ⟨y0, y1, y2, y3, y4, y5⟩ := KZ.out.c6; exact bodyPost_ret (v := .tuple #[.agg #[.int .i64 0, .string ⟨#[]⟩, .string ⟨#[]⟩, .bool false, .slice none 0 0, .slice none 0 0], .int .i64 _]) (by simp [results, Tryz.results70, go_sem, y0, y1, y2, y3, y4, y5]) rfl (PRet.no (hqq) HBZ.out))
    -- MARKJ
    obtain ⟨t0, t1, t2, t3⟩ := blk_c4 HM8.out.2.2.2.2.1
    obtain ⟨c0, c1⟩ := HM8.out.2.2.2.1.c2
    go_wp2_with fail
    refine (HBD.out _).mono ?_
    rintro e w9 ⟨rfl, hb9⟩
    have HM9 := Lib.hid (HM8.out.below hb9)
    have HB9 := Lib.hid (HB8.out.trans (hb9.mono HB8.out.size))
    clear hb9 HM8 HB8 t0 t1 t2 t3 c0 c1
    cases hbd : badTC ⟨tb, tk, te, tx⟩ ⟨cs, cz⟩
    case true =>
      have hqq : q = (zeroP, 183) := by rw [HQ1.out, if_pos (.inr ⟨by decide, hbd⟩)]
      (obtain ⟨z0, z1, z2, z3, z4, z5⟩ := (HM9.out.2.2.1).c6; have f0 := (HM9.out.2.2.1).fz 0; have f1 := (HM9.out.2.2.1).fz 1; have f2 := (HM9.out.2.2.1).fz 2; have f3 := (HM9.out.2.2.1).fz 3; have f4 := (HM9.out.2.2.1).fz 4; have f5 := (HM9.out.2.2.1).fz 5; go_wp2_with fail; have KZ := Lib.hid (zero_put (HM9.out.2.2.1) (.int .i64 0) (.string ⟨#[]⟩) (.string ⟨#[]⟩) (.bool false) (.slice none 0 0) (.slice none 0 0)); have HBZ := Lib.hid (below_put6 (HB9.out) (b := w.heap.size + 1 + 1 + 1 + 1) (by omega) (.int .i64 0) (.string ⟨#[]⟩) (.string ⟨#[]⟩) (.bool false) (.slice none 0 0) (.slice none 0 0)); generalize World.setCell (World.setCell (World.setCell (World.setCell (World.setCell (World.setCell _ _ _) _ _) _ _) _ _) _ _) _ _ = wz at *; obtain ⟨y0, y1, y2, y3, y4, y5⟩ := KZ.out.c6; exact bodyPost_ret (v := .tuple #[.agg #[.int .i64 0, .string ⟨#[]⟩, .string ⟨#[]⟩, .bool false, .slice none 0 0, .slice none 0 0], .int .i64 _]) (by simp [results, Tryz.results70, go_sem, y0, y1, y2, y3, y4, y5]) rfl (PRet.no (hqq) HBZ.out))
    have HQ2 : Hid (q = if 64 ≤ V.length then (zeroP, 184) else (⟨pn, pc, pt, ps, insE V (newE d s 2 ⟨tb, tk, te, tx⟩ ⟨cs, cz⟩)⟩, 0)) := by
      show _ = _
      rw [HQ1.out, if_neg]
      rintro (h | h)
      · exact absurd h (by decide)
      · rw [hbd] at h; exact absurd h.2 (by decide)
    clear hbd
    -- MARKF
    clear HQ1
    have lt9 := HM9.out.1.lt
    obtain ⟨p0, p1, p2, p3, p4, p5⟩ := HM9.out.2.2.2.2.2.2.1.c6
    by_cases hbig : 64 ≤ V.length
    · have hbi : (64 : Int) ≤ (V.length : Int) := by omega
      have hqq : q = (zeroP, 184) := by rw [HQ2.out, if_pos hbig]
      (obtain ⟨z0, z1, z2, z3, z4, z5⟩ := (HM9.out.2.2.1).c6; have f0 := (HM9.out.2.2.1).fz 0; have f1 := (HM9.out.2.2.1).fz 1; have f2 := (HM9.out.2.2.1).fz 2; have f3 := (HM9.out.2.2.1).fz 3; have f4 := (HM9.out.2.2.1).fz 4; have f5 := (HM9.out.2.2.1).fz 5; go_wp2_with fail; have KZ := Lib.hid (zero_put (HM9.out.2.2.1) (.int .i64 0) (.string ⟨#[]⟩) (.string ⟨#[]⟩) (.bool false) (.slice none 0 0) (.slice none 0 0)); have HBZ := Lib.hid (below_put6 (HB9.out) (b := w.heap.size + 1 + 1 + 1 + 1) (by omega) (.int .i64 0) (.string ⟨#[]⟩) (.string ⟨#[]⟩) (.bool false) (.slice none 0 0) (.slice none 0 0)); generalize World.setCell (World.setCell (World.setCell (World.setCell (World.setCell (World.setCell _ _ _) _ _) _ _) _ _) _ _) _ _ = wz at *; obtain ⟨y0, y1, y2, y3, y4, y5⟩ := KZ.out.c6; exact bodyPost_ret (v := .tuple #[.agg #[.int .i64 0, .string ⟨#[]⟩, .string ⟨#[]⟩, .bool false, .slice none 0 0, .slice none 0 0], .int .i64 _]) (by simp [results, Tryz.results70, go_sem, y0, y1, y2, y3, y4, y5]) rfl (PRet.no (hqq) HBZ.out))
    · have hbi : ¬ (64 : Int) ≤ (V.length : Int) := by omega
      have hqq : q = (⟨pn, pc, pt, ps, insE V ⟨s, 2, ⟨tb, tk, te, tx⟩, ⟨cs, cz⟩, v.num, ⟨#[]⟩, 0, 0⟩⟩, 0) := by
        rw [HQ2.out, if_neg hbig]
        unfold newE
        rw [HVE.out]
        rfl
      have HQQ := Lib.hid hqq
      clear hqq
      -- MARKG
      obtain ⟨x0, x1, x2, x3, x4, x5, x6, x7, x8, x9, x10, x11⟩ := HM9.out.1.c12
      have HLT := edtK.lit w9 ⟨s, 2, ⟨tb, tk, te, tx⟩, ⟨cs, cz⟩, v.num, ⟨#[]⟩, 0, 0⟩ 44
      have hbw : Below w9.heap.size w9 (w9.alloc (.cells [.string s, .int .i64 2, .int .i64 tb, .bool tk, .bool te, .bool tx, .int .u64 cs, .int .i64 cz, .int .i64 v.num, .string ⟨#[]⟩, .int .i64 0, .int .i64 0].toArray 44)) := (Below.refl _ _).alloc (Nat.le_refl _) _
      have HW := HWI.out ⟨s, 2, ⟨tb, tk, te, tx⟩, ⟨cs, cz⟩, v.num, ⟨#[]⟩, 0, 0⟩ w9.heap.size (w9.alloc (.cells [.string s, .int .i64 2, .int .i64 tb, .bool tk, .bool te, .bool tx, .int .u64 cs, .int .i64 cz, .int .i64 v.num, .string ⟨#[]⟩, .int .i64 0, .int .i64 0].toArray 44)) (HIE.out.below (HB9.out.trans (hbw.mono HB9.out.size))) (fun _ => ⟨w9.heap.size, 0, rfl, by simp, fun j u hu => by
        have := HLT.1 j u (by rwa [RowK.flat_one] at hu)
        rw [add_lit] at this
        exact this⟩) (fun z hz => by
        rcases List.mem_append.1 hz with hz | hz
        · exact HOK.out.use z hz
        · rw [List.mem_singleton] at hz
          rw [hz]
          exact HUST.out) (ins_srt HOK.out.srt (has_none HHN.out)) (HG.out.below (HB9.out.trans (hbw.mono HB9.out.size)))
      have HMA : Hid (Bs [(w4.heap.size, 44, [.string s, .int .i64 2, .int .i64 tb, .bool tk, .bool te, .bool tx, .int .u64 cs, .int .i64 cz, .int .i64 v.num, .string ⟨#[]⟩, .int .i64 0, .int .i64 0]), (w3.heap.size, 74, [.string v.path, .int .i64 v.num, .int .i64 v.chg, .int .i64 v.act, .int .i64 v.ty.base, .bool v.ty.kw, .bool v.ty.ex, .bool v.ty.xe, .int .u64 v.con.sum, .int .i64 v.con.size, .string v.src, .int .i64 v.srcn]), (w.heap.size + 1 + 1 + 1 + 1, 41, [.int .i64 0, .string ⟨#[]⟩, .string ⟨#[]⟩, .bool false, .slice none 0 0, .slice none 0 0]), (w.heap.size + 1 + 1 + 1, 28, [.int .u64 cs, .int .i64 cz]), (w.heap.size + 1 + 1, 25, [.int .i64 tb, .bool tk, .bool te, .bool tx]), (w.heap.size + 1, 37, [.slice A d.length ca, .slice B nb cb]), (w.heap.size, 41, [.int .i64 pn, .string pc, .string pt, .bool ps, .slice E V.length ec, .slice R 0 rc])] (w9.alloc (.cells [.string s, .int .i64 2, .int .i64 tb, .bool tk, .bool te, .bool tx, .int .u64 cs, .int .i64 cz, .int .i64 v.num, .string ⟨#[]⟩, .int .i64 0, .int .i64 0].toArray 44))) := HM9.out.alloc _
      have HBA : Hid (Below w.heap.size w (w9.alloc (.cells [.string s, .int .i64 2, .int .i64 tb, .bool tk, .bool te, .bool tx, .int .u64 cs, .int .i64 cz, .int .i64 v.num, .string ⟨#[]⟩, .int .i64 0, .int .i64 0].toArray 44))) := HB9.out.trans (hbw.mono HB9.out.size)
      have HWW := Lib.hid HW
      clear HW HLT hbw
      -- MARKH
      go_wp2_with fail
      -- MARKI
      refine HWW.out.mono ?_
      rintro e wb ⟨Eb, eb, Rb, rb, rfl, hib, hfb, hbb⟩
      unfold pndV pndC
      dsimp only at hib ⊢
      have HMB := Lib.hid (HMA.out.below hbb)
      have HBB := Lib.hid (HBA.out.trans (hbb.mono HBA.out.size))
      have HIB := Lib.hid hib
      have hwA : w9.heap.size ≤ (w9.alloc (.cells [.string s, .int .i64 2, .int .i64 tb, .bool tk, .bool te, .bool tx, .int .u64 cs, .int .i64 cz, .int .i64 v.num, .string ⟨#[]⟩, .int .i64 0, .int .i64 0].toArray 44)).heap.size := by simp
      have HFB : Hid (∀ b off, Eb = some ⟨b, off, none⟩ → w9.heap.size ≤ b) := fun b off e => Nat.le_trans hwA (hfb b off e)
      clear hfb hwA
      generalize hL : insE V ⟨s, 2, ⟨tb, tk, te, tx⟩, ⟨cs, cz⟩, v.num, ⟨#[]⟩, 0, 0⟩ = L at *
      clear hbb hib HMA HBA HWW hL p0 p1 p2 p3 p4 p5 x0 x1 x2 x3 x4 x5 x6 x7 x8 x9 x10 x11
      obtain ⟨z0, z1, z2, z3, z4, z5⟩ := HMB.out.2.2.1.c6
      have f0 := HMB.out.2.2.1.fz 0
      have f1 := HMB.out.2.2.1.fz 1
      have f2 := HMB.out.2.2.1.fz 2
      have f3 := HMB.out.2.2.1.fz 3
      have f4 := HMB.out.2.2.1.fz 4
      have f5 := HMB.out.2.2.1.fz 5
      -- MARKD
      go_wp2_with fail
      have KZ := Lib.hid (zero_put HMB.out.2.2.1 (.int .i64 pn) (.string pc) (.string pt) (.bool ps) (.slice Eb L.length eb) (.slice Rb 0 rb))
      have HBZ := Lib.hid (below_put6 HBB.out (b := w.heap.size + 1 + 1 + 1 + 1) (by omega) (.int .i64 pn) (.string pc) (.string pt) (.bool ps) (.slice Eb L.length eb) (.slice Rb 0 rb))
      have HIZ := Lib.hid (in_putF HIB.out (b := w.heap.size + 1 + 1 + 1 + 1) (fun b off e => by have := HFB.out b off e; omega) (.int .i64 pn) (.string pc) (.string pt) (.bool ps) (.slice Eb L.length eb) (.slice Rb 0 rb))
      have HFW : Hid (∀ b off, Eb = some ⟨b, off, none⟩ → w.heap.size ≤ b) := fun b off e => by have := HFB.out b off e; omega
      (generalize World.setCell (World.setCell (World.setCell (World.setCell (World.setCell (World.setCell _ _ _) _ _) _ _) _ _) _ _) _ _ = wz at *)
      obtain ⟨y0, y1, y2, y3, y4, y5⟩ := KZ.out.c6
      refine bodyPost_ret (v := .tuple #[.agg #[.int .i64 pn, .string pc, .string pt, .bool ps, .slice Eb L.length eb, .slice Rb 0 rb], .int .i64 0]) (by simp [results, Tryz.results70, go_sem, y0, y1, y2, y3, y4, y5]) rfl ?_
      rw [HQQ.out]
      exact ⟨Eb, eb, Rb, rb, rfl, HIZ.out, HFW.out, HBZ.out⟩
  · go_enter Tryz.func70, Tryz.ntmps70
    go_upto_region 1 with fail
    generalize hw1 : World.alloc _ (.cells #[.int .i64 0, .string ⟨#[]⟩, .string ⟨#[]⟩, .bool false, .slice none 0 0, .slice none 0 0] 41) = w1
    have HM1 : Hid (Bs [(w.heap.size + 1 + 1 + 1 + 1, 41, [.int .i64 0, .string ⟨#[]⟩, .string ⟨#[]⟩, .bool false, .slice none 0 0, .slice none 0 0]), (w.heap.size + 1 + 1 + 1, 28, [.int .u64 cs, .int .i64 cz]), (w.heap.size + 1 + 1, 25, [.int .i64 tb, .bool tk, .bool te, .bool tx]), (w.heap.size + 1, 37, [.slice A d.length ca, .slice B nb cb]), (w.heap.size, 41, [.int .i64 pn, .string pc, .string pt, .bool ps, .slice E V.length ec, .slice R 0 rc])] w1) := by
      show Bs _ _
      rw [← hw1]
      refine ⟨?_, ?_, ?_, ?_, ?_, trivial⟩
      · exact blk_new4 _ _ _ _ _ _ _
      · exact Blk.alloc (Blk.new3 _ _ _ _ _ _) _
      · exact Blk.alloc (Blk.alloc (Blk.new2 _ _ _ _ _) _) _
      · exact Blk.alloc (Blk.alloc (Blk.alloc (Blk.new1 _ _ _ _) _) _) _
      · exact Blk.alloc (Blk.alloc (Blk.alloc (Blk.alloc (Blk.new _ _ _) _) _) _) _
    have HB1 : Hid (Below w.heap.size w w1) := by
      show Below _ _ _
      rw [← hw1]
      (repeat (first | (with_reducible exact Below.refl _ _) | (with_reducible assumption) | (with_reducible refine Below.setCell ?_ ?_ _; rotate_left; focus (first | exact Nat.le_refl _ | (dsimp only; omega))) | (with_reducible refine Below.drew ?_) | (with_reducible refine below_drewN ?_ _) | (with_reducible refine Below.alloc ?_ ?_ _; rotate_left; focus (first | exact Nat.le_refl _ | (simp; done) | (simp; omega)))))
    clear hw1
    have lt1 := HM1.out.1.lt
    obtain ⟨d0, d1⟩ := HM1.out.2.2.2.1.c2
    go_wp2_with fail
    refine (HLI.out _ (HI.out.below HB1.out)).mono ?_
    rintro e w2 ⟨rfl, hb2⟩
    have HM2 := Lib.hid (HM1.out.below hb2)
    have HB2 := Lib.hid (HB1.out.trans (hb2.mono HB1.out.size))
    have hz2 := hb2.size
    clear hb2 HM1 HB1 d0 d1
    obtain ⟨d0, d1⟩ := HM2.out.2.2.2.1.c2
    go_wp2_with fail
    refine (HLA.out _ (HI.out.below HB2.out)).mono ?_
    rintro e w3 ⟨rfl, hb3⟩
    unfold Rev.val Rev.cells
    have HM4 : Hid (Bs [(w3.heap.size, 74, [.string v.path, .int .i64 v.num, .int .i64 v.chg, .int .i64 v.act, .int .i64 v.ty.base, .bool v.ty.kw, .bool v.ty.ex, .bool v.ty.xe, .int .u64 v.con.sum, .int .i64 v.con.size, .string v.src, .int .i64 v.srcn]), (w.heap.size + 1 + 1 + 1 + 1, 41, [.int .i64 0, .string ⟨#[]⟩, .string ⟨#[]⟩, .bool false, .slice none 0 0, .slice none 0 0]), (w.heap.size + 1 + 1 + 1, 28, [.int .u64 cs, .int .i64 cz]), (w.heap.size + 1 + 1, 25, [.int .i64 tb, .bool tk, .bool te, .bool tx]), (w.heap.size + 1, 37, [.slice A d.length ca, .slice B nb cb]), (w.heap.size, 41, [.int .i64 pn, .string pc, .string pt, .bool ps, .slice E V.length ec, .slice R 0 rc])] (w3.alloc (.cells [.string v.path, .int .i64 v.num, .int .i64 v.chg, .int .i64 v.act, .int .i64 v.ty.base, .bool v.ty.kw, .bool v.ty.ex, .bool v.ty.xe, .int .u64 v.con.sum, .int .i64 v.con.size, .string v.src, .int .i64 v.srcn].toArray 74))) := Bs.cons (Blk.new w3 74 [.string v.path, .int .i64 v.num, .int .i64 v.chg, .int .i64 v.act, .int .i64 v.ty.base, .bool v.ty.kw, .bool v.ty.ex, .bool v.ty.xe, .int .u64 v.con.sum, .int .i64 v.con.size, .string v.src, .int .i64 v.srcn]) ((HM2.out.below hb3).alloc _)
    have HB4 : Hid (Below w.heap.size w (w3.alloc (.cells [.string v.path, .int .i64 v.num, .int .i64 v.chg, .int .i64 v.act, .int .i64 v.ty.base, .bool v.ty.kw, .bool v.ty.ex, .bool v.ty.xe, .int .u64 v.con.sum, .int .i64 v.con.size, .string v.src, .int .i64 v.srcn].toArray 74))) := (HB2.out.trans (hb3.mono HB2.out.size)).alloc (HB2.out.trans (hb3.mono HB2.out.size)).size _
    have hz3 := hb3.size
    clear hb3 HM2 HB2 d0 d1
    go_upto_region 3 with fail
    generalize hw4 : World.alloc w3 (.cells #[.string v.path, .int .i64 v.num, .int .i64 v.chg, .int .i64 v.act, .int .i64 v.ty.base, .bool v.ty.kw, .bool v.ty.ex, .bool v.ty.xe, .int .u64 v.con.sum, .int .i64 v.con.size, .string v.src, .int .i64 v.srcn] 74) = w4 at *
    clear hw4
    have lt4 := HM4.out.1.lt
    obtain ⟨t0, t1, t2, t3⟩ := blk_c4 HM4.out.2.2.2.1
    obtain ⟨c0, c1⟩ := HM4.out.2.2.1.c2
    have HM5 : Hid (Bs [(w4.heap.size, 44, [.string s, .int .i64 3, .int .i64 tb, .bool tk, .bool te, .bool tx, .int .u64 cs, .int .i64 cz, .int .i64 v.num, .string ⟨#[]⟩, .int .i64 0, .int .i64 0]), (w3.heap.size, 74, [.string v.path, .int .i64 v.num, .int .i64 v.chg, .int .i64 v.act, .int .i64 v.ty.base, .bool v.ty.kw, .bool v.ty.ex, .bool v.ty.xe, .int .u64 v.con.sum, .int .i64 v.con.size, .string v.src, .int .i64 v.srcn]), (w.heap.size + 1 + 1 + 1 + 1, 41, [.int .i64 0, .string ⟨#[]⟩, .string ⟨#[]⟩, .bool false, .slice none 0 0, .slice none 0 0]), (w.heap.size + 1 + 1 + 1, 28, [.int .u64 cs, .int .i64 cz]), (w.heap.size + 1 + 1, 25, [.int .i64 tb, .bool tk, .bool te, .bool tx]), (w.heap.size + 1, 37, [.slice A d.length ca, .slice B nb cb]), (w.heap.size, 41, [.int .i64 pn, .string pc, .string pt, .bool ps, .slice E V.length ec, .slice R 0 rc])] (w4.alloc (.cells [.string s, .int .i64 3, .int .i64 tb, .bool tk, .bool te, .bool tx, .int .u64 cs, .int .i64 cz, .int .i64 v.num, .string ⟨#[]⟩, .int .i64 0, .int .i64 0].toArray 44))) := Bs.cons (Blk.new w4 44 [.string s, .int .i64 3, .int .i64 tb, .bool tk, .bool te, .bool tx, .int .u64 cs, .int .i64 cz, .int .i64 v.num, .string ⟨#[]⟩, .int .i64 0, .int .i64 0]) (HM4.out.alloc _)
    have HB5 : Hid (Below w.heap.size w (w4.alloc (.cells [.string s, .int .i64 3, .int .i64 tb, .bool tk, .bool te, .bool tx, .int .u64 cs, .int .i64 cz, .int .i64 v.num, .string ⟨#[]⟩, .int .i64 0, .int .i64 0].toArray 44))) := HB4.out.alloc HB4.out.size _
    go_upto_region 4 with fail
    generalize hw5 : World.alloc w4 (.cells #[.string s, .int .i64 3, .int .i64 tb, .bool tk, .bool te, .bool tx, .int .u64 cs, .int .i64 cz, .int .i64 v.num, .string ⟨#[]⟩, .int .i64 0, .int .i64 0] 44) = w5 at *
    clear hw5 HM4 HB4 t0 t1 t2 t3 c0 c1
    have lt5 := HM5.out.1.lt
    -- MARKA
    obtain ⟨y0, y1, y2, y3, y4, y5, y6, y7, y8, y9, y10, y11⟩ := HM5.out.2.1.c12
    obtain ⟨x0, x1, x2, x3, x4, x5, x6, x7, x8, x9, x10, x11⟩ := HM5.out.1.c12
    have f2 := HM5.out.1.fz 2
    have f3 := HM5.out.1.fz 3
    have f4 := HM5.out.1.fz 4
    have f5 := HM5.out.1.fz 5
    have f6 := HM5.out.1.fz 6
    have f7 := HM5.out.1.fz 7
    have HMP := Lib.hid (show Bs [(w4.heap.size, 44, [.string s, .int .i64 3, .int .i64 v.ty.base, .bool v.ty.kw, .bool v.ty.ex, .bool v.ty.xe, .int .u64 0, .int .i64 0, .int .i64 v.num, .string ⟨#[]⟩, .int .i64 0, .int .i64 0]), (w3.heap.size, 74, [.string v.path, .int .i64 v.num, .int .i64 v.chg, .int .i64 v.act, .int .i64 v.ty.base, .bool v.ty.kw, .bool v.ty.ex, .bool v.ty.xe, .int .u64 v.con.sum, .int .i64 v.con.size, .string v.src, .int .i64 v.srcn]), (w.heap.size + 1 + 1 + 1 + 1, 41, [.int .i64 0, .string ⟨#[]⟩, .string ⟨#[]⟩, .bool false, .slice none 0 0, .slice none 0 0]), (w.heap.size + 1 + 1 + 1, 28, [.int .u64 cs, .int .i64 cz]), (w.heap.size + 1 + 1, 25, [.int .i64 tb, .bool tk, .bool te, .bool tx]), (w.heap.size + 1, 37, [.slice A d.length ca, .slice B nb cb]), (w.heap.size, 41, [.int .i64 pn, .string pc, .string pt, .bool ps, .slice E V.length ec, .slice R 0 rc])] _ from ⟨((((((HM5.out.1.set 2 (.int .i64 v.ty.base)).set 3 (.bool v.ty.kw)).set 4 (.bool v.ty.ex)).set 5 (.bool v.ty.xe)).set 6 (.int .u64 0)).set 7 (.int .i64 0)), ((((((HM5.out.2.1.far (p := ⟨w4.heap.size, 2, none⟩) (by dsimp only; omega) (.int .i64 v.ty.base)).far (p := ⟨w4.heap.size, 3, none⟩) (by dsimp only; omega) (.bool v.ty.kw)).far (p := ⟨w4.heap.size, 4, none⟩) (by dsimp only; omega) (.bool v.ty.ex)).far (p := ⟨w4.heap.size, 5, none⟩) (by dsimp only; omega) (.bool v.ty.xe)).far (p := ⟨w4.heap.size, 6, none⟩) (by dsimp only; omega) (.int .u64 0)).far (p := ⟨w4.heap.size, 7, none⟩) (by dsimp only; omega) (.int .i64 0)), ((((((HM5.out.2.2.1.far (p := ⟨w4.heap.size, 2, none⟩) (by dsimp only; omega) (.int .i64 v.ty.base)).far (p := ⟨w4.heap.size, 3, none⟩) (by dsimp only; omega) (.bool v.ty.kw)).far (p := ⟨w4.heap.size, 4, none⟩) (by dsimp only; omega) (.bool v.ty.ex)).far (p := ⟨w4.heap.size, 5, none⟩) (by dsimp only; omega) (.bool v.ty.xe)).far (p := ⟨w4.heap.size, 6, none⟩) (by dsimp only; omega) (.int .u64 0)).far (p := ⟨w4.heap.size, 7, none⟩) (by dsimp only; omega) (.int .i64 0)), ((((((HM5.out.2.2.2.1.far (p := ⟨w4.heap.size, 2, none⟩) (by dsimp only; omega) (.int .i64 v.ty.base)).far (p := ⟨w4.heap.size, 3, none⟩) (by dsimp only; omega) (.bool v.ty.kw)).far (p := ⟨w4.heap.size, 4, none⟩) (by dsimp only; omega) (.bool v.ty.ex)).far (p := ⟨w4.heap.size, 5, none⟩) (by dsimp only; omega) (.bool v.ty.xe)).far (p := ⟨w4.heap.size, 6, none⟩) (by dsimp only; omega) (.int .u64 0)).far (p := ⟨w4.heap.size, 7, none⟩) (by dsimp only; omega) (.int .i64 0)), ((((((HM5.out.2.2.2.2.1.far (p := ⟨w4.heap.size, 2, none⟩) (by dsimp only; omega) (.int .i64 v.ty.base)).far (p := ⟨w4.heap.size, 3, none⟩) (by dsimp only; omega) (.bool v.ty.kw)).far (p := ⟨w4.heap.size, 4, none⟩) (by dsimp only; omega) (.bool v.ty.ex)).far (p := ⟨w4.heap.size, 5, none⟩) (by dsimp only; omega) (.bool v.ty.xe)).far (p := ⟨w4.heap.size, 6, none⟩) (by dsimp only; omega) (.int .u64 0)).far (p := ⟨w4.heap.size, 7, none⟩) (by dsimp only; omega) (.int .i64 0)), ((((((HM5.out.2.2.2.2.2.1.far (p := ⟨w4.heap.size, 2, none⟩) (by dsimp only; omega) (.int .i64 v.ty.base)).far (p := ⟨w4.heap.size, 3, none⟩) (by dsimp only; omega) (.bool v.ty.kw)).far (p := ⟨w4.heap.size, 4, none⟩) (by dsimp only; omega) (.bool v.ty.ex)).far (p := ⟨w4.heap.size, 5, none⟩) (by dsimp only; omega) (.bool v.ty.xe)).far (p := ⟨w4.heap.size, 6, none⟩) (by dsimp only; omega) (.int .u64 0)).far (p := ⟨w4.heap.size, 7, none⟩) (by dsimp only; omega) (.int .i64 0)), ((((((HM5.out.2.2.2.2.2.2.1.far (p := ⟨w4.heap.size, 2, none⟩) (by dsimp only; omega) (.int .i64 v.ty.base)).far (p := ⟨w4.heap.size, 3, none⟩) (by dsimp only; omega) (.bool v.ty.kw)).far (p := ⟨w4.heap.size, 4, none⟩) (by dsimp only; omega) (.bool v.ty.ex)).far (p := ⟨w4.heap.size, 5, none⟩) (by dsimp only; omega) (.bool v.ty.xe)).far (p := ⟨w4.heap.size, 6, none⟩) (by dsimp only; omega) (.int .u64 0)).far (p := ⟨w4.heap.size, 7, none⟩) (by dsimp only; omega) (.int .i64 0)), trivial⟩)
    have HBP := Lib.hid (((((((HB5.out.setCell (p := ⟨w4.heap.size, 2, none⟩) (by dsimp only; omega) (.int .i64 v.ty.base)).setCell (p := ⟨w4.heap.size, 3, none⟩) (by dsimp only; omega) (.bool v.ty.kw)).setCell (p := ⟨w4.heap.size, 4, none⟩) (by dsimp only; omega) (.bool v.ty.ex)).setCell (p := ⟨w4.heap.size, 5, none⟩) (by dsimp only; omega) (.bool v.ty.xe)).setCell (p := ⟨w4.heap.size, 6, none⟩) (by dsimp only; omega) (.int .u64 0)).setCell (p := ⟨w4.heap.size, 7, none⟩) (by dsimp only; omega) (.int .i64 0)))
    go_upto_region 6 with fail
    (generalize World.setCell (World.setCell (World.setCell (World.setCell (World.setCell (World.setCell _ _ _) _ _) _ _) _ _) _ _) _ _ = w6 at *)
    have HM6 := HMP
    have HB6 := HBP
    clear HMP HBP HM5 HB5 y0 y1 y2 y3 y4 y5 y6 y7 y8 y9 y10 y11 x0 x1 x2 x3 x4 x5 x6 x7 x8 x9 x10 x11 f2 f3 f4 f5 f6 f7
    have lt6 := HM6.out.1.lt
    -- MARKB
    go_wp2_with fail
    refine (HUS.out _ (HG.out.below HB6.out)).mono ?_
    rintro e w7 ⟨rfl, hb7⟩
    have HM7 := Lib.hid (HM6.out.below hb7)
    have HB7 := Lib.hid (HB6.out.trans (hb7.mono HB6.out.size))
    clear hb7 HM6 HB6
    cases hus : useB s
    case false =>
      have hqq : q = (zeroP, 180) := by rw [← HQ.out]; unfold openP; rw [if_pos hus]
      (obtain ⟨z0, z1, z2, z3, z4, z5⟩ := (HM7.out.2.2.1).c6; have f0 := (HM7.out.2.2.1).fz 0; have f1 := (HM7.out.2.2.1).fz 1; have f2 := (HM7.out.2.2.1).fz 2; have f3 := (HM7.out.2.2.1).fz 3; have f4 := (HM7.out.2.2.1).fz 4; have f5 := (HM7.out.2.2.1).fz 5; go_wp2_with fail; have KZ := Lib.hid (zero_put (HM7.out.2.2.1) (.int .i64 0) (.string ⟨#[]⟩) (.string ⟨#[]⟩) (.bool false) (.slice none 0 0) (.slice none 0 0)); have HBZ := Lib.hid (below_put6 (HB7.out) (b := w.heap.size + 1 + 1 + 1 + 1) (by omega) (.int .i64 0) (.string ⟨#[]⟩) (.string ⟨#[]⟩) (.bool false) (.slice none 0 0) (.slice none 0 0)); generalize World.setCell (World.setCell (World.setCell (World.setCell (World.setCell (World.setCell _ _ _) _ _) _ _) _ _) _ _) _ _ = wz at *; obtain ⟨y0, y1, y2, y3, y4, y5⟩ := KZ.out.c6; exact bodyPost_ret (v := .tuple #[.agg #[.int .i64 0, .string ⟨#[]⟩, .string ⟨#[]⟩, .bool false, .slice none 0 0, .slice none 0 0], .int .i64 _]) (by simp [results, Tryz.results70, go_sem, y0, y1, y2, y3, y4, y5]) rfl (PRet.no (hqq) HBZ.out))
    have HUST := Lib.hid hus
    clear hus
    obtain ⟨p0, p1, p2, p3, p4, p5⟩ := HM7.out.2.2.2.2.2.2.1.c6
    go_wp2_with fail
    refine (HFI.out _ (HIE.out.below HB7.out)).mono ?_
    rintro e w8 ⟨rfl, hb8⟩
    have HM8 := Lib.hid (HM7.out.below hb8)
    have HB8 := Lib.hid (HB7.out.trans (hb8.mono HB7.out.size))
    clear hb8 HM7 HB7 p0 p1 p2 p3 p4 p5
    have HFS := Lib.hid (find_sign (V := V) s)
    generalize findI V s = fi at *
    cases hh : hasE V s
    case true =>
      have hfi : (0 : Int) ≤ fi := by have := HFS.out; rw [hh] at this; simpa using this
      have hqq : q = (zeroP, 181) := by rw [← HQ.out]; unfold openP; rw [if_neg (by rw [HUST.out]; decide), if_pos hh]
      (obtain ⟨z0, z1, z2, z3, z4, z5⟩ := (HM8.out.2.2.1).c6; have f0 := (HM8.out.2.2.1).fz 0; have f1 := (HM8.out.2.2.1).fz 1; have f2 := (HM8.out.2.2.1).fz 2; have f3 := (HM8.out.2.2.1).fz 3; have f4 := (HM8.out.2.2.1).fz 4; have f5 := (HM8.out.2.2.1).fz 5; go_wp2_with fail; have KZ := Lib.hid (zero_put (HM8.out.2.2.1) (.int .i64 0) (.string ⟨#[]⟩) (.string ⟨#[]⟩) (.bool false) (.slice none 0 0) (.slice none 0 0)); have HBZ := Lib.hid (below_put6 (HB8.out) (b := w.heap.size + 1 + 1 + 1 + 1) (by omega) (.int .i64 0) (.string ⟨#[]⟩) (.string ⟨#[]⟩) (.bool false) (.slice none 0 0) (.slice none 0 0)); generalize World.setCell (World.setCell (World.setCell (World.setCell (World.setCell (World.setCell _ _ _) _ _) _ _) _ _) _ _) _ _ = wz at *; obtain ⟨y0, y1, y2, y3, y4, y5⟩ := KZ.out.c6; exact bodyPost_ret (v := .tuple #[.agg #[.int .i64 0, .string ⟨#[]⟩, .string ⟨#[]⟩, .bool false, .slice none 0 0, .slice none 0 0], .int .i64 _]) (by simp [results, Tryz.results70, go_sem, y0, y1, y2, y3, y4, y5]) rfl (PRet.no (hqq) HBZ.out))
    have hfi : ¬ (0 : Int) ≤ fi := by have := HFS.out; rw [hh] at this; simpa using this
    have HHN := Lib.hid hh
    clear hh HFS
    have HQ1 : Hid (q = if l = decide ((3 : Int) = 1) ∨ ((3 : Int) ≠ 3 ∧ badTC ⟨tb, tk, te, tx⟩ ⟨cs, cz⟩ = true) then (zeroP, 183) else if 64 ≤ V.length then (zeroP, 184) else (⟨pn, pc, pt, ps, insE V (newE d s 3 ⟨tb, tk, te, tx⟩ ⟨cs, cz⟩)⟩, 0)) := by
      show _ = _
      rw [← HQ.out, ← HLE.out]
      unfold openP
      rw [if_neg (by rw [HUST.out]; decide), if_neg (by rw [HHN.out]; decide)]
    -- MARKC
    cases l
    case false =>
      have hqq : q = (zeroP, 183) := by rw [HQ1.out, if_pos (.inl (by decide))]
      -- MARKK
      (obtain ⟨z0, z1, z2, z3, z4, z5⟩ := (HM8.out.2.2.1).c6; have f0 := (HM8.out.2.2.1).fz 0; have f1 := (HM8.out.2.2.1).fz 1; have f2 := (HM8.out.2.2.1).fz 2; have f3 := (HM8.out.2.2.1).fz 3; have f4 := (HM8.out.2.2.1).fz 4; have f5 := (HM8.out.2.2.1).fz 5; go_wp2_with fail; have KZ := Lib.hid (zero_put (HM8.out.2.2.1) (.int .i64 0) (.string ⟨#[]⟩) (.string ⟨#[]⟩) (.bool false) (.slice none 0 0) (.slice none 0 0)); have HBZ := Lib.hid (below_put6 (HB8.out) (b := w.heap.size + 1 + 1 + 1 + 1) (by omega) (.int .i64 0) (.string ⟨#[]⟩) (.string ⟨#[]⟩) (.bool false) (.slice none 0 0) (.slice none 0 0)); generalize World.setCell (World.setCell (World.setCell (World.setCell (World.setCell (World.setCell _ _ _) _ _) _ _) _ _) _ _) _ _ = wz at *; obtain ⟨y0, y1, y2, y3, y4, y5⟩ := KZ.out.c6; exact bodyPost_ret (v := .tuple #[.agg #[.int .i64 0, .string ⟨#[]⟩, .string ⟨#[]⟩, .bool false, .slice none 0 0, .slice none 0 0], .int .i64 _]) (by simp [results, Tryz.results70, go_sem, y0, y1, y2, y3, y4, y5]) rfl (PRet.no (hqq) HBZ.out))
    -- MARKJ
    have HM9 := HM8
    have HB9 := HB8
    obtain ⟨w9, hw9⟩ : ∃ x, x = w8 := ⟨_, rfl⟩
    subst hw9
    clear HM8 HB8
    have HQ2 : Hid (q = if 64 ≤ V.length then (zeroP, 184) else (⟨pn, pc, pt, ps, insE V (newE d s 3 ⟨tb, tk, te, tx⟩ ⟨cs, cz⟩)⟩, 0)) := by
      show _ = _
      rw [HQ1.out, if_neg]
      rintro (h | h)
      · exact absurd h (by decide)
      · exact h.1 rfl
    -- MARKF
    clear HQ1
    have lt9 := HM9.out.1.lt
    obtain ⟨p0, p1, p2, p3, p4, p5⟩ := HM9.out.2.2.2.2.2.2.1.c6
    by_cases hbig : 64 ≤ V.length
    · have hbi : (64 : Int) ≤ (V.length : Int) := by omega
      have hqq : q = (zeroP, 184) := by rw [HQ2.out, if_pos hbig]
      (obtain ⟨z0, z1, z2, z3, z4, z5⟩ := (HM9.out.2.2.1).c6; have f0 := (HM9.out.2.2.1).fz 0; have f1 := (HM9.out.2.2.1).fz 1; have f2 := (HM9.out.2.2.1).fz 2; have f3 := (HM9.out.2.2.1).fz 3; have f4 := (HM9.out.2.2.1).fz 4; have f5 := (HM9.out.2.2.1).fz 5; go_wp2_with fail; have KZ := Lib.hid (zero_put (HM9.out.2.2.1) (.int .i64 0) (.string ⟨#[]⟩) (.string ⟨#[]⟩) (.bool false) (.slice none 0 0) (.slice none 0 0)); have HBZ := Lib.hid (below_put6 (HB9.out) (b := w.heap.size + 1 + 1 + 1 + 1) (by omega) (.int .i64 0) (.string ⟨#[]⟩) (.string ⟨#[]⟩) (.bool false) (.slice none 0 0) (.slice none 0 0)); generalize World.setCell (World.setCell (World.setCell (World.setCell (World.setCell (World.setCell _ _ _) _ _) _ _) _ _) _ _) _ _ = wz at *; obtain ⟨y0, y1, y2, y3, y4, y5⟩ := KZ.out.c6; exact bodyPost_ret (v := .tuple #[.agg #[.int .i64 0, .string ⟨#[]⟩, .string ⟨#[]⟩, .bool false, .slice none 0 0, .slice none 0 0], .int .i64 _]) (by simp [results, Tryz.results70, go_sem, y0, y1, y2, y3, y4, y5]) rfl (PRet.no (hqq) HBZ.out))
    · have hbi : ¬ (64 : Int) ≤ (V.length : Int) := by omega
      have hqq : q = (⟨pn, pc, pt, ps, insE V ⟨s, 3, v.ty, zeroCon, v.num, ⟨#[]⟩, 0, 0⟩⟩, 0) := by
        rw [HQ2.out, if_neg hbig]
        unfold newE
        rw [HVE.out]
        rfl
      have HQQ := Lib.hid hqq
      clear hqq
      -- MARKG
      obtain ⟨x0, x1, x2, x3, x4, x5, x6, x7, x8, x9, x10, x11⟩ := HM9.out.1.c12
      have HLT := edtK.lit w9 ⟨s, 3, v.ty, zeroCon, v.num, ⟨#[]⟩, 0, 0⟩ 44
      have hbw : Below w9.heap.size w9 (w9.alloc (.cells [.string s, .int .i64 3, .int .i64 v.ty.base, .bool v.ty.kw, .bool v.ty.ex, .bool v.ty.xe, .int .u64 0, .int .i64 0, .int .i64 v.num, .string ⟨#[]⟩, .int .i64 0, .int .i64 0].toArray 44)) := (Below.refl _ _).alloc (Nat.le_refl _) _
      have HW := HWI.out ⟨s, 3, v.ty, zeroCon, v.num, ⟨#[]⟩, 0, 0⟩ w9.heap.size (w9.alloc (.cells [.string s, .int .i64 3, .int .i64 v.ty.base, .bool v.ty.kw, .bool v.ty.ex, .bool v.ty.xe, .int .u64 0, .int .i64 0, .int .i64 v.num, .string ⟨#[]⟩, .int .i64 0, .int .i64 0].toArray 44)) (HIE.out.below (HB9.out.trans (hbw.mono HB9.out.size))) (fun _ => ⟨w9.heap.size, 0, rfl, by simp, fun j u hu => by
        have := HLT.1 j u (by rwa [RowK.flat_one] at hu)
        rw [add_lit] at this
        exact this⟩) (fun z hz => by
        rcases List.mem_append.1 hz with hz | hz
        · exact HOK.out.use z hz
        · rw [List.mem_singleton] at hz
          rw [hz]
          exact HUST.out) (ins_srt HOK.out.srt (has_none HHN.out)) (HG.out.below (HB9.out.trans (hbw.mono HB9.out.size)))
      have HMA : Hid (Bs [(w4.heap.size, 44, [.string s, .int .i64 3, .int .i64 v.ty.base, .bool v.ty.kw, .bool v.ty.ex, .bool v.ty.xe, .int .u64 0, .int .i64 0, .int .i64 v.num, .string ⟨#[]⟩, .int .i64 0, .int .i64 0]), (w3.heap.size, 74, [.string v.path, .int .i64 v.num, .int .i64 v.chg, .int .i64 v.act, .int .i64 v.ty.base, .bool v.ty.kw, .bool v.ty.ex, .bool v.ty.xe, .int .u64 v.con.sum, .int .i64 v.con.size, .string v.src, .int .i64 v.srcn]), (w.heap.size + 1 + 1 + 1 + 1, 41, [.int .i64 0, .string ⟨#[]⟩, .string ⟨#[]⟩, .bool false, .slice none 0 0, .slice none 0 0]), (w.heap.size + 1 + 1 + 1, 28, [.int .u64 cs, .int .i64 cz]), (w.heap.size + 1 + 1, 25, [.int .i64 tb, .bool tk, .bool te, .bool tx]), (w.heap.size + 1, 37, [.slice A d.length ca, .slice B nb cb]), (w.heap.size, 41, [.int .i64 pn, .string pc, .string pt, .bool ps, .slice E V.length ec, .slice R 0 rc])] (w9.alloc (.cells [.string s, .int .i64 3, .int .i64 v.ty.base, .bool v.ty.kw, .bool v.ty.ex, .bool v.ty.xe, .int .u64 0, .int .i64 0, .int .i64 v.num, .string ⟨#[]⟩, .int .i64 0, .int .i64 0].toArray 44))) := HM9.out.alloc _
      have HBA : Hid (Below w.heap.size w (w9.alloc (.cells [.string s, .int .i64 3, .int .i64 v.ty.base, .bool v.ty.kw, .bool v.ty.ex, .bool v.ty.xe, .int .u64 0, .int .i64 0, .int .i64 v.num, .string ⟨#[]⟩, .int .i64 0, .int .i64 0].toArray 44))) := HB9.out.trans (hbw.mono HB9.out.size)
      have HWW := Lib.hid HW
      clear HW HLT hbw
      -- MARKH
      go_wp2_with fail
      -- MARKI
      refine HWW.out.mono ?_
      rintro e wb ⟨Eb, eb, Rb, rb, rfl, hib, hfb, hbb⟩
      unfold pndV pndC
      dsimp only at hib ⊢
      have HMB := Lib.hid (HMA.out.below hbb)
      have HBB := Lib.hid (HBA.out.trans (hbb.mono HBA.out.size))
      have HIB := Lib.hid hib
      have hwA : w9.heap.size ≤ (w9.alloc (.cells [.string s, .int .i64 3, .int .i64 v.ty.base, .bool v.ty.kw, .bool v.ty.ex, .bool v.ty.xe, .int .u64 0, .int .i64 0, .int .i64 v.num, .string ⟨#[]⟩, .int .i64 0, .int .i64 0].toArray 44)).heap.size := by simp
      have HFB : Hid (∀ b off, Eb = some ⟨b, off, none⟩ → w9.heap.size ≤ b) := fun b off e => Nat.le_trans hwA (hfb b off e)
      clear hfb hwA
      generalize hL : insE V ⟨s, 3, v.ty, zeroCon, v.num, ⟨#[]⟩, 0, 0⟩ = L at *
      clear hbb hib HMA HBA HWW hL p0 p1 p2 p3 p4 p5 x0 x1 x2 x3 x4 x5 x6 x7 x8 x9 x10 x11
      obtain ⟨z0, z1, z2, z3, z4, z5⟩ := HMB.out.2.2.1.c6
      have f0 := HMB.out.2.2.1.fz 0
      have f1 := HMB.out.2.2.1.fz 1
      have f2 := HMB.out.2.2.1.fz 2
      have f3 := HMB.out.2.2.1.fz 3
      have f4 := HMB.out.2.2.1.fz 4
      have f5 := HMB.out.2.2.1.fz 5
      -- MARKD
      go_wp2_with fail
      have KZ := Lib.hid (zero_put HMB.out.2.2.1 (.int .i64 pn) (.string pc) (.string pt) (.bool ps) (.slice Eb L.length eb) (.slice Rb 0 rb))
      have HBZ := Lib.hid (below_put6 HBB.out (b := w.heap.size + 1 + 1 + 1 + 1) (by omega) (.int .i64 pn) (.string pc) (.string pt) (.bool ps) (.slice Eb L.length eb) (.slice Rb 0 rb))
      have HIZ := Lib.hid (in_putF HIB.out (b := w.heap.size + 1 + 1 + 1 + 1) (fun b off e => by have := HFB.out b off e; omega) (.int .i64 pn) (.string pc) (.string pt) (.bool ps) (.slice Eb L.length eb) (.slice Rb 0 rb))
      have HFW : Hid (∀ b off, Eb = some ⟨b, off, none⟩ → w.heap.size ≤ b) := fun b off e => by have := HFB.out b off e; omega
      (generalize World.setCell (World.setCell (World.setCell (World.setCell (World.setCell (World.setCell _ _ _) _ _) _ _) _ _) _ _) _ _ = wz at *)
      obtain ⟨y0, y1, y2, y3, y4, y5⟩ := KZ.out.c6
      refine bodyPost_ret (v := .tuple #[.agg #[.int .i64 pn, .string pc, .string pt, .bool ps, .slice Eb L.length eb, .slice Rb 0 rb], .int .i64 0]) (by simp [results, Tryz.results70, go_sem, y0, y1, y2, y3, y4, y5]) rfl ?_
      rw [HQQ.out]
      exact ⟨Eb, eb, Rb, rb, rfl, HIZ.out, HFW.out, HBZ.out⟩
end Go.Proofs.YtocffknoeknabaaGreatDoor
