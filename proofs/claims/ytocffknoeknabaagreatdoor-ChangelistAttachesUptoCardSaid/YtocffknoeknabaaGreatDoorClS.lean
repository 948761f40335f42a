/-
  The walk of the reference's Set (printed by mkrset.py).
-/
import Derived.Test.YtocffknoeknabaaGreatDoorClH
namespace Go.Proofs.YtocffknoeknabaaGreatDoor
open Go.RowKit
open Go.Sort (HoldsK)

/-- Some cells of one struct of a list written anew. -/
theorem at_put {α : Type} {R : RowK α} {b off k lo : Nat} {V : List α} {x x' : α} {w : World} (h : R.At b off V w) (hk : V[k]? = some x) (vs : List Value) (hlo : lo + vs.length ≤ R.n) (hv : ∀ c u, vs[c]? = some u → (R.cells x')[lo + c]? = some u)
    (hs : ∀ c, c < R.n → (c < lo ∨ lo + vs.length ≤ c) → (R.cells x')[c]? = (R.cells x)[c]?) : R.At b off (V.set k x') (w.setCells b (off + k * R.n + lo) vs) := fun j u hu => by
  have hn := R.pos
  have hkl := (List.getElem?_eq_some_iff.1 hk).1
  have hj : j < V.length * R.n := by
    have := (List.getElem?_eq_some_iff.1 hu).1
    rwa [R.flat_len, List.length_set] at this
  have hq : j / R.n < V.length := (Nat.div_lt_iff_lt_mul hn).2 hj
  have hc := Nat.mod_lt j hn
  have e : j / R.n * R.n + j % R.n = j := Nat.div_add_mod' j R.n
  generalize j / R.n = q at *
  generalize j % R.n = c at *
  subst e
  have hold : ∀ q' c' (u' : Value), c' < R.n → (∃ y, V[q']? = some y ∧ (R.cells y)[c']? = some u') → w.cell? ⟨b, off + (q' * R.n + c'), none⟩ = some u' := fun q' c' u' h1 ⟨y, h2, h3⟩ => h _ _ ((R.flat_get V q' c' y h2 h1).trans h3)
  have hth : ∀ t, t < vs.length → (w.cell? ⟨b, off + k * R.n + lo + t, none⟩).isSome = true := fun t ht => by
    have h1 : lo + t < (R.cells x).length := by rw [R.len]; omega
    rw [show off + k * R.n + lo + t = off + (k * R.n + (lo + t)) by omega, hold k (lo + t) _ (by rw [R.len] at h1; exact h1) ⟨x, hk, List.getElem?_eq_getElem h1⟩]
    rfl
  by_cases hqk : q = k
  · subst hqk
    have hx : (V.set q x')[q]? = some x' := by rw [List.getElem?_set_self hkl]
    have hu' := (R.flat_get _ q c x' hx hc).symm.trans hu
    by_cases hin : lo ≤ c ∧ c < lo + vs.length
    · have h1 := World.cell?_setCells_in b vs (off + q * R.n + lo) w hth (c - lo) (by omega)
      rw [show off + q * R.n + lo + (c - lo) = off + (q * R.n + c) by omega] at h1
      rw [h1]
      have h2 := hv (c - lo) _ (List.getElem?_eq_getElem (by omega))
      rw [show lo + (c - lo) = c by omega, hu'] at h2
      exact h2.symm
    · rw [World.cell?_setCells_out b _ _ _ _ (fun _ _ => by dsimp only; omega)]
      exact hold q c u hc ⟨x, hk, by rw [← hs c hc (by omega)]; exact hu'⟩
  · have hx : (V.set k x')[q]? = V[q]? := by rw [List.getElem?_set_ne (fun e => hqk e.symm)]
    have hu' := (R.flat_get _ q c V[q] (by rw [hx]; exact List.getElem?_eq_getElem hq) hc).symm.trans hu
    rw [World.cell?_setCells_out b _ _ _ _ (fun _ _ => by
      dsimp only
      rcases Nat.lt_or_gt_of_ne hqk with h1 | h1
      · have := Nat.mul_le_mul_right R.n h1
        rw [Nat.succ_mul] at this
        omega
      · have := Nat.mul_le_mul_right R.n h1
        rw [Nat.succ_mul] at this
        omega)]
    exact hold q c u hc ⟨_, List.getElem?_eq_getElem hq, hu'⟩
theorem setE_in (x : Edt) (t : FTy) (cn : Cid) : ∀ c u, ([.int .i64 t.base, .bool t.kw, .bool t.ex, .bool t.xe, .int .u64 cn.sum, .int .i64 cn.size] : List Value)[c]? = some u → (edtK.cells { x with ty := t, con := cn })[2 + c]? = some u := by
  intro c u hu
  have hc : c < 6 := (List.getElem?_eq_some_iff.1 hu).1
  have : c = 0 ∨ c = 1 ∨ c = 2 ∨ c = 3 ∨ c = 4 ∨ c = 5 := by omega
  rcases this with rfl | rfl | rfl | rfl | rfl | rfl <;> exact hu
theorem setE_out (x : Edt) (t : FTy) (cn : Cid) : ∀ c, c < edtK.n → (c < 2 ∨ 2 + ([.int .i64 t.base, .bool t.kw, .bool t.ex, .bool t.xe, .int .u64 cn.sum, .int .i64 cn.size] : List Value).length ≤ c) → (edtK.cells { x with ty := t, con := cn })[c]? = (edtK.cells x)[c]? := by
  intro c hc hs
  have hc' : c < 12 := hc
  have hs' : c < 2 ∨ 8 ≤ c := hs
  have : c = 0 ∨ c = 1 ∨ c = 8 ∨ c = 9 ∨ c = 10 ∨ c = 11 := by omega
  rcases this with rfl | rfl | rfl | rfl | rfl | rfl <;> rfl
theorem setE_row {V : List Edt} {x : Edt} {k g : Nat} {w6 : World} (t : FTy) (cn : Cid) (hat : edtK.At g 0 V w6) (hk : V[k]? = some x) (hgl : g < w6.heap.size) :
    edtK.In (some ⟨g, 0, none⟩) (V.set k { x with ty := t, con := cn }) (w6.setCells g (0 + k * edtK.n + 2) [.int .i64 t.base, .bool t.kw, .bool t.ex, .bool t.xe, .int .u64 cn.sum, .int .i64 cn.size]).drew := by
  have h2 := setE_in x t cn
  have h3 := setE_out x t cn
  obtain ⟨vs, hvs⟩ : ∃ vs : List Value, vs = [.int .i64 t.base, .bool t.kw, .bool t.ex, .bool t.xe, .int .u64 cn.sum, .int .i64 cn.size] := ⟨_, rfl⟩
  obtain ⟨x', hx'⟩ : ∃ y : Edt, y = { x with ty := t, con := cn } := ⟨_, rfl⟩
  have h0 : vs.length = 6 := by rw [hvs]; rfl
  rw [← hvs, ← hx'] at h2 h3
  rw [← hvs, ← hx']
  have h1 : 2 + vs.length ≤ edtK.n := by rw [h0]; exact (by decide : 2 + 6 ≤ 12)
  clear hvs hx' h0
  have hap := at_put hat hk vs h1 h2 h3
  intro _
  exact ⟨g, 0, rfl, lt_drew (by rw [setCells_size]; exact hgl), hap.of_block rfl⟩
set_option maxRecDepth 100000 in
set_option maxHeartbeats 12800000 in
theorem rset_any (p : Pnd) (s : ByteArray) (t : FTy) (c : Cid) (E R : Option Addr) (ec rc : Nat) (w : World) (hE : edtK.In E p.edits w) (hok : EOk p.edits) :
    Calls Tryz.prog 72 #[pndV p E ec R rc, .string s, t.val, c.val] w (PRet (setP p s t c) w) := by
  have HIE := Lib.hid hE
  have HOK := Lib.hid hok
  have hlen := hok.len
  obtain ⟨q, hq⟩ : ∃ q, setP p s t c = q := ⟨_, rfl⟩
  rw [hq]
  have HQ := Lib.hid hq
  have HFI := Lib.hid (fun w h => find_any p s E R ec rc w h hok.srt (by omega))
  have HBD := Lib.hid (fun w => rbad_any t c w)
  have HCO := Lib.hid (fun w h => rcopy_any p E R ec rc w h (by omega))
  clear hE hok hq
  obtain ⟨pn, pc, pt, ps, V⟩ := p
  obtain ⟨tb, tk, te, tx⟩ := t
  obtain ⟨cs, cz⟩ := c
  unfold pndV pndC FTy.val FTy.cells Cid.val Cid.cells at *
  dsimp only at *
  go_enter Tryz.func72, Tryz.ntmps72
  go_upto_region 1 with fail
  generalize hw1 : World.alloc _ (.cells #[.int .i64 0, .string ⟨#[]⟩, .string ⟨#[]⟩, .bool false, .slice none 0 0, .slice none 0 0] 41) = w1
  have HM1 : Hid (Bs [(w.heap.size + 1 + 1 + 1, 41, [.int .i64 0, .string ⟨#[]⟩, .string ⟨#[]⟩, .bool false, .slice none 0 0, .slice none 0 0]), (w.heap.size + 1 + 1, 28, [.int .u64 cs, .int .i64 cz]), (w.heap.size + 1, 25, [.int .i64 tb, .bool tk, .bool te, .bool tx]), (w.heap.size, 41, [.int .i64 pn, .string pc, .string pt, .bool ps, .slice E V.length ec, .slice R 0 rc])] w1) := by
    show Bs _ _
    rw [← hw1]
    refine ⟨?_, ?_, ?_, ?_, trivial⟩
    · exact Blk.new3 _ _ _ _ _ _
    · exact Blk.alloc (Blk.new2 _ _ _ _ _) _
    · exact Blk.alloc (Blk.alloc (Blk.new1 _ _ _ _) _) _
    · exact Blk.alloc (Blk.alloc (Blk.alloc (Blk.new _ _ _) _) _) _
  have HB1 : Hid (Below w.heap.size w w1) := by
    show Below _ _ _
    rw [← hw1]
    (repeat (first | (with_reducible exact Below.refl _ _) | (with_reducible assumption) | (with_reducible refine Below.setCell ?_ ?_ _; rotate_left; focus (first | exact Nat.le_refl _ | (dsimp only; omega))) | (with_reducible refine Below.drew ?_) | (with_reducible refine below_drewN ?_ _) | (with_reducible refine Below.alloc ?_ ?_ _; rotate_left; focus (first | exact Nat.le_refl _ | (simp; done) | (simp; omega)))))
  clear hw1
  obtain ⟨p0, p1, p2, p3, p4, p5⟩ := HM1.out.2.2.2.1.c6
  go_wp2_with fail
  refine (HFI.out _ (HIE.out.below HB1.out)).mono ?_
  rintro e w2 ⟨rfl, hb2⟩
  have HM2 := Lib.hid (HM1.out.below hb2)
  have HB2 := Lib.hid (HB1.out.trans (hb2.mono HB1.out.size))
  have lt2 := HM2.out.1.lt
  clear hb2 HM1 HB1 p0 p1 p2 p3 p4 p5
  cases hf : fndE V s with
  | none =>
    have hfi : findI V s = -1 := by unfold findI; rw [hf]
    have hqq : q = (zeroP, 182) := by rw [← HQ.out]; unfold setP; rw [hf]
    rw [hfi]
    clear hfi hf
    (obtain ⟨z0, z1, z2, z3, z4, z5⟩ := (HM2.out.1).c6; have f0 := (HM2.out.1).fz 0; have f1 := (HM2.out.1).fz 1; have f2 := (HM2.out.1).fz 2; have f3 := (HM2.out.1).fz 3; have f4 := (HM2.out.1).fz 4; have f5 := (HM2.out.1).fz 5; go_wp2_with fail; have KZ := Lib.hid (zero_put (HM2.out.1) (.int .i64 0) (.string ⟨#[]⟩) (.string ⟨#[]⟩) (.bool false) (.slice none 0 0) (.slice none 0 0)); have HBZ := Lib.hid (below_put6 (HB2.out) (b := w.heap.size + 1 + 1 + 1) (by omega) (.int .i64 0) (.string ⟨#[]⟩) (.string ⟨#[]⟩) (.bool false) (.slice none 0 0) (.slice none 0 0)); generalize World.setCell (World.setCell (World.setCell (World.setCell (World.setCell (World.setCell _ _ _) _ _) _ _) _ _) _ _) _ _ = wz at *; obtain ⟨y0, y1, y2, y3, y4, y5⟩ := KZ.out.c6; exact bodyPost_ret (v := .tuple #[.agg #[.int .i64 0, .string ⟨#[]⟩, .string ⟨#[]⟩, .bool false, .slice none 0 0, .slice none 0 0], .int .i64 _]) (by simp [results, Tryz.results72, go_sem, y0, y1, y2, y3, y4, y5]) rfl (PRet.no (hqq) HBZ.out))
  | some x =>
    have hfi : findI V s = (posE V s : Int) := by unfold findI; rw [hf]
    have hph := pos_has HOK.out.srt hf
    have HQ1 : Hid (q = if (x.act = 3 ∨ x.act = 5) ∨ badTC ⟨tb, tk, te, tx⟩ ⟨cs, cz⟩ = true then (zeroP, 183) else (⟨pn, pc, pt, ps, V.set (posE V s) { x with ty := ⟨tb, tk, te, tx⟩, con := ⟨cs, cz⟩ }⟩, 0)) := by
      show _ = _
      rw [← HQ.out]
      unfold setP
      rw [hf]
      rfl
    rw [hfi]
    generalize posE V s = k at *
    have hkl := hph.1
    have hkn : (k : Int) < (V.length : Int) := by omega
    have hk0 : ¬ (k : Int) < 0 := by omega
    obtain ⟨b, off, rfl, hbl, hat⟩ := (HIE.out.below HB2.out) (by omega)
    (have hcv := fun j (u : Value) (hj : (x).cells[j]? = some u) => ((hat).get hph.2 hj); have c0 := hcv 0 _ rfl; have c1 := hcv 1 _ rfl; have c2 := hcv 2 _ rfl; have c3 := hcv 3 _ rfl; have c4 := hcv 4 _ rfl; have c5 := hcv 5 _ rfl; have c6 := hcv 6 _ rfl; have c7 := hcv 7 _ rfl; have c8 := hcv 8 _ rfl; have c9 := hcv 9 _ rfl; have c10 := hcv 10 _ rfl; have c11 := hcv 11 _ rfl; have e12 : edtK.n = 12 := rfl; simp only [e12, Nat.add_zero] at c0 c1 c2 c3 c4 c5 c6 c7 c8 c9 c10 c11; clear hcv e12)
    have HPH := Lib.hid hph.2
    clear hf hfi hph hat HQ
    obtain ⟨p0, p1, p2, p3, p4, p5⟩ := HM2.out.2.2.2.1.c6
    have HM3 : Hid (Bs [(w2.heap.size, 44, [.string x.path, .int .i64 x.act, .int .i64 x.ty.base, .bool x.ty.kw, .bool x.ty.ex, .bool x.ty.xe, .int .u64 x.con.sum, .int .i64 x.con.size, .int .i64 x.base, .string x.src, .int .i64 x.srcn, .int .i64 x.fence]), (w.heap.size + 1 + 1 + 1, 41, [.int .i64 0, .string ⟨#[]⟩, .string ⟨#[]⟩, .bool false, .slice none 0 0, .slice none 0 0]), (w.heap.size + 1 + 1, 28, [.int .u64 cs, .int .i64 cz]), (w.heap.size + 1, 25, [.int .i64 tb, .bool tk, .bool te, .bool tx]), (w.heap.size, 41, [.int .i64 pn, .string pc, .string pt, .bool ps, .slice (some ⟨b, off, none⟩) V.length ec, .slice R 0 rc])] (w2.alloc (.cells [.string x.path, .int .i64 x.act, .int .i64 x.ty.base, .bool x.ty.kw, .bool x.ty.ex, .bool x.ty.xe, .int .u64 x.con.sum, .int .i64 x.con.size, .int .i64 x.base, .string x.src, .int .i64 x.srcn, .int .i64 x.fence].toArray 44))) := Bs.cons (Blk.new w2 44 [.string x.path, .int .i64 x.act, .int .i64 x.ty.base, .bool x.ty.kw, .bool x.ty.ex, .bool x.ty.xe, .int .u64 x.con.sum, .int .i64 x.con.size, .int .i64 x.base, .string x.src, .int .i64 x.srcn, .int .i64 x.fence]) (HM2.out.alloc _)
    have HB3 : Hid (Below w.heap.size w (w2.alloc (.cells [.string x.path, .int .i64 x.act, .int .i64 x.ty.base, .bool x.ty.kw, .bool x.ty.ex, .bool x.ty.xe, .int .u64 x.con.sum, .int .i64 x.con.size, .int .i64 x.base, .string x.src, .int .i64 x.srcn, .int .i64 x.fence].toArray 44))) := HB2.out.alloc HB2.out.size _
    go_upto_region 5 with fail
    generalize hw3 : World.alloc w2 (.cells #[.string x.path, .int .i64 x.act, .int .i64 x.ty.base, .bool x.ty.kw, .bool x.ty.ex, .bool x.ty.xe, .int .u64 x.con.sum, .int .i64 x.con.size, .int .i64 x.base, .string x.src, .int .i64 x.srcn, .int .i64 x.fence] 44) = w3 at *
    clear hw3 HM2 HB2 p0 p1 p2 p3 p4 p5 c0 c1 c2 c3 c4 c5 c6 c7 c8 c9 c10 c11
    have lt3 := HM3.out.1.lt
    obtain ⟨q0, q1, q2, q3, q4, q5, q6, q7, q8, q9, q10, q11⟩ := HM3.out.1.c12
    by_cases h35 : x.act = 3 ∨ x.act = 5
    · have hqq : q = (zeroP, 183) := by rw [HQ1.out, if_pos (.inl h35)]
      rcases h35 with h3 | h5
      · have a1 : (x.act == 3) = true := by simpa using h3
        have a2 : decide (x.act = 3) = true := by simpa using h3
        clear h3
        (obtain ⟨z0, z1, z2, z3, z4, z5⟩ := (HM3.out.2.1).c6; have f0 := (HM3.out.2.1).fz 0; have f1 := (HM3.out.2.1).fz 1; have f2 := (HM3.out.2.1).fz 2; have f3 := (HM3.out.2.1).fz 3; have f4 := (HM3.out.2.1).fz 4; have f5 := (HM3.out.2.1).fz 5; go_wp2_with fail; have KZ := Lib.hid (zero_put (HM3.out.2.1) (.int .i64 0) (.string ⟨#[]⟩) (.string ⟨#[]⟩) (.bool false) (.slice none 0 0) (.slice none 0 0)); have HBZ := Lib.hid (below_put6 (HB3.out) (b := w.heap.size + 1 + 1 + 1) (by omega) (.int .i64 0) (.string ⟨#[]⟩) (.string ⟨#[]⟩) (.bool false) (.slice none 0 0) (.slice none 0 0)); generalize World.setCell (World.setCell (World.setCell (World.setCell (World.setCell (World.setCell _ _ _) _ _) _ _) _ _) _ _) _ _ = wz at *; obtain ⟨y0, y1, y2, y3, y4, y5⟩ := KZ.out.c6; exact bodyPost_ret (v := .tuple #[.agg #[.int .i64 0, .string ⟨#[]⟩, .string ⟨#[]⟩, .bool false, .slice none 0 0, .slice none 0 0], .int .i64 _]) (by simp [results, Tryz.results72, go_sem, y0, y1, y2, y3, y4, y5]) rfl (PRet.no (hqq) HBZ.out))
      · have a1 : (x.act == 3) = false := by simp [h5]
        have a2 : decide (x.act = 3) = false := by simp [h5]
        have a3 : (x.act == 5) = true := by simpa using h5
        have a4 : decide (x.act = 5) = true := by simpa using h5
        clear h5
        (obtain ⟨z0, z1, z2, z3, z4, z5⟩ := (HM3.out.2.1).c6; have f0 := (HM3.out.2.1).fz 0; have f1 := (HM3.out.2.1).fz 1; have f2 := (HM3.out.2.1).fz 2; have f3 := (HM3.out.2.1).fz 3; have f4 := (HM3.out.2.1).fz 4; have f5 := (HM3.out.2.1).fz 5; go_wp2_with fail; have KZ := Lib.hid (zero_put (HM3.out.2.1) (.int .i64 0) (.string ⟨#[]⟩) (.string ⟨#[]⟩) (.bool false) (.slice none 0 0) (.slice none 0 0)); have HBZ := Lib.hid (below_put6 (HB3.out) (b := w.heap.size + 1 + 1 + 1) (by omega) (.int .i64 0) (.string ⟨#[]⟩) (.string ⟨#[]⟩) (.bool false) (.slice none 0 0) (.slice none 0 0)); generalize World.setCell (World.setCell (World.setCell (World.setCell (World.setCell (World.setCell _ _ _) _ _) _ _) _ _) _ _) _ _ = wz at *; obtain ⟨y0, y1, y2, y3, y4, y5⟩ := KZ.out.c6; exact bodyPost_ret (v := .tuple #[.agg #[.int .i64 0, .string ⟨#[]⟩, .string ⟨#[]⟩, .bool false, .slice none 0 0, .slice none 0 0], .int .i64 _]) (by simp [results, Tryz.results72, go_sem, y0, y1, y2, y3, y4, y5]) rfl (PRet.no (hqq) HBZ.out))
    have H35 := Lib.hid h35
    rw [not_or] at h35
    have a1 : (x.act == 3) = false := by simpa using h35.1
    have a2 : decide (x.act = 3) = false := by simpa using h35.1
    have a3 : (x.act == 5) = false := by simpa using h35.2
    have a4 : decide (x.act = 5) = false := by simpa using h35.2
    clear h35
    obtain ⟨t0, t1, t2, t3⟩ := blk_c4 HM3.out.2.2.2.1
    obtain ⟨c0, c1⟩ := HM3.out.2.2.1.c2
    go_wp2_with fail
    refine (HBD.out _).mono ?_
    rintro e w4 ⟨rfl, hb4⟩
    have HM4 := Lib.hid (HM3.out.below hb4)
    have HB4 := Lib.hid (HB3.out.trans (hb4.mono HB3.out.size))
    have hz4 := hb4.size
    clear hb4 HM3 HB3 t0 t1 t2 t3 c0 c1 q0 q1 q2 q3 q4 q5 q6 q7 q8 q9 q10 q11 a1 a2 a3 a4
    cases hbd : badTC ⟨tb, tk, te, tx⟩ ⟨cs, cz⟩
    case true =>
      have hqq : q = (zeroP, 183) := by rw [HQ1.out, if_pos (.inr hbd)]
      (obtain ⟨z0, z1, z2, z3, z4, z5⟩ := (HM4.out.2.1).c6; have f0 := (HM4.out.2.1).fz 0; have f1 := (HM4.out.2.1).fz 1; have f2 := (HM4.out.2.1).fz 2; have f3 := (HM4.out.2.1).fz 3; have f4 := (HM4.out.2.1).fz 4; have f5 := (HM4.out.2.1).fz 5; go_wp2_with fail; have KZ := Lib.hid (zero_put (HM4.out.2.1) (.int .i64 0) (.string ⟨#[]⟩) (.string ⟨#[]⟩) (.bool false) (.slice none 0 0) (.slice none 0 0)); have HBZ := Lib.hid (below_put6 (HB4.out) (b := w.heap.size + 1 + 1 + 1) (by omega) (.int .i64 0) (.string ⟨#[]⟩) (.string ⟨#[]⟩) (.bool false) (.slice none 0 0) (.slice none 0 0)); generalize World.setCell (World.setCell (World.setCell (World.setCell (World.setCell (World.setCell _ _ _) _ _) _ _) _ _) _ _) _ _ = wz at *; obtain ⟨y0, y1, y2, y3, y4, y5⟩ := KZ.out.c6; exact bodyPost_ret (v := .tuple #[.agg #[.int .i64 0, .string ⟨#[]⟩, .string ⟨#[]⟩, .bool false, .slice none 0 0, .slice none 0 0], .int .i64 _]) (by simp [results, Tryz.results72, go_sem, y0, y1, y2, y3, y4, y5]) rfl (PRet.no (hqq) HBZ.out))
    have HQ2 : Hid (q = (⟨pn, pc, pt, ps, V.set k { x with ty := ⟨tb, tk, te, tx⟩, con := ⟨cs, cz⟩ }⟩, 0)) := by
      show _ = _
      rw [HQ1.out, if_neg]
      rintro (h | h)
      · exact H35.out h
      · rw [hbd] at h; cases h
    clear HQ1 hbd
    obtain ⟨p0, p1, p2, p3, p4, p5⟩ := HM4.out.2.2.2.2.1.c6
    go_wp2_with fail
    go_loopw [42] (fun i wx => i = .int .i64 0 ∧ wx = w4) (fun _ _ => 0)
    case atStart => exact ⟨rfl, rfl⟩
    case round =>
      obtain ⟨rfl, rfl⟩ := hrel
      go_wp2_with fail
      refine (HCO.out _ (HIE.out.below HB4.out)).mono ?_
      rintro e w5 ⟨A2, c2, R2, r2, rfl, ho5, hb5⟩
      unfold pndV pndC
      dsimp only at ho5 ⊢
      have HM5 := Lib.hid (HM4.out.below hb5)
      have HB5 := Lib.hid (HB4.out.trans (hb5.mono HB4.out.size))
      have HO5 := Lib.hid ho5
      have hz5 := hb5.size
      have lt5 := HM5.out.1.lt
      clear ho5 hb5 p0 p1 p2 p3 p4 p5
      obtain ⟨p0, p1, p2, p3, p4, p5⟩ := HM5.out.2.2.2.2.1.c6
      have g0 := HM5.out.2.2.2.2.1.fz 0
      have g1 := HM5.out.2.2.2.2.1.fz 1
      have g2 := HM5.out.2.2.2.2.1.fz 2
      have g3 := HM5.out.2.2.2.2.1.fz 3
      have g4 := HM5.out.2.2.2.2.1.fz 4
      have g5 := HM5.out.2.2.2.2.1.fz 5
      have HMP := Lib.hid (show Bs [(w2.heap.size, 44, [.string x.path, .int .i64 x.act, .int .i64 x.ty.base, .bool x.ty.kw, .bool x.ty.ex, .bool x.ty.xe, .int .u64 x.con.sum, .int .i64 x.con.size, .int .i64 x.base, .string x.src, .int .i64 x.srcn, .int .i64 x.fence]), (w.heap.size + 1 + 1 + 1, 41, [.int .i64 0, .string ⟨#[]⟩, .string ⟨#[]⟩, .bool false, .slice none 0 0, .slice none 0 0]), (w.heap.size + 1 + 1, 28, [.int .u64 cs, .int .i64 cz]), (w.heap.size + 1, 25, [.int .i64 tb, .bool tk, .bool te, .bool tx]), (w.heap.size, 41, [.int .i64 pn, .string pc, .string pt, .bool ps, .slice A2 V.length c2, .slice R2 0 r2])] _ from ⟨((((((HM5.out.1.far (p := ⟨w.heap.size, 0, none⟩) (by dsimp only; omega) (.int .i64 pn)).far (p := ⟨w.heap.size, 1, none⟩) (by dsimp only; omega) (.string pc)).far (p := ⟨w.heap.size, 2, none⟩) (by dsimp only; omega) (.string pt)).far (p := ⟨w.heap.size, 3, none⟩) (by dsimp only; omega) (.bool ps)).far (p := ⟨w.heap.size, 4, none⟩) (by dsimp only; omega) (.slice A2 V.length c2)).far (p := ⟨w.heap.size, 5, none⟩) (by dsimp only; omega) (.slice R2 0 r2)), ((((((HM5.out.2.1.far (p := ⟨w.heap.size, 0, none⟩) (by dsimp only; omega) (.int .i64 pn)).far (p := ⟨w.heap.size, 1, none⟩) (by dsimp only; omega) (.string pc)).far (p := ⟨w.heap.size, 2, none⟩) (by dsimp only; omega) (.string pt)).far (p := ⟨w.heap.size, 3, none⟩) (by dsimp only; omega) (.bool ps)).far (p := ⟨w.heap.size, 4, none⟩) (by dsimp only; omega) (.slice A2 V.length c2)).far (p := ⟨w.heap.size, 5, none⟩) (by dsimp only; omega) (.slice R2 0 r2)), ((((((HM5.out.2.2.1.far (p := ⟨w.heap.size, 0, none⟩) (by dsimp only; omega) (.int .i64 pn)).far (p := ⟨w.heap.size, 1, none⟩) (by dsimp only; omega) (.string pc)).far (p := ⟨w.heap.size, 2, none⟩) (by dsimp only; omega) (.string pt)).far (p := ⟨w.heap.size, 3, none⟩) (by dsimp only; omega) (.bool ps)).far (p := ⟨w.heap.size, 4, none⟩) (by dsimp only; omega) (.slice A2 V.length c2)).far (p := ⟨w.heap.size, 5, none⟩) (by dsimp only; omega) (.slice R2 0 r2)), ((((((HM5.out.2.2.2.1.far (p := ⟨w.heap.size, 0, none⟩) (by dsimp only; omega) (.int .i64 pn)).far (p := ⟨w.heap.size, 1, none⟩) (by dsimp only; omega) (.string pc)).far (p := ⟨w.heap.size, 2, none⟩) (by dsimp only; omega) (.string pt)).far (p := ⟨w.heap.size, 3, none⟩) (by dsimp only; omega) (.bool ps)).far (p := ⟨w.heap.size, 4, none⟩) (by dsimp only; omega) (.slice A2 V.length c2)).far (p := ⟨w.heap.size, 5, none⟩) (by dsimp only; omega) (.slice R2 0 r2)), zero_put HM5.out.2.2.2.2.1 (.int .i64 pn) (.string pc) (.string pt) (.bool ps) (.slice A2 V.length c2) (.slice R2 0 r2), trivial⟩)
      have HBP := Lib.hid (below_put6 HB5.out (b := w.heap.size) (Nat.le_refl _) (.int .i64 pn) (.string pc) (.string pt) (.bool ps) (.slice A2 V.length c2) (.slice R2 0 r2))
      have HOP := Lib.hid (own_put6 HO5.out (b := w.heap.size) (by intro e; have := HO5.out.lt _ e; omega) (.int .i64 pn) (.string pc) (.string pt) (.bool ps) (.slice A2 V.length c2) (.slice R2 0 r2))
      go_upto_region 14 with fail
      (generalize World.setCell (World.setCell (World.setCell (World.setCell (World.setCell (World.setCell _ _ _) _ _) _ _) _ _) _ _) _ _ = w6 at *)
      clear HM5 HB5 HO5 p0 p1 p2 p3 p4 p5 g0 g1 g2 g3 g4 g5
      obtain ⟨g, hgA, hgb, hgl⟩ : ∃ g, A2 = some ⟨g, 0, none⟩ ∧ wr.heap.size ≤ g ∧ g < w6.heap.size := by
        rcases ownsRow_cases HOP.out with ⟨_, h2⟩ | ⟨g, cap, h1, h2, h3, _⟩
        · omega
        · injection h1 with h1
          exact ⟨g, h1, h2, h3⟩
      subst hgA
      obtain ⟨hH, _, _⟩ := holdsK_own (R := edtK) rfl HOP.out
      have HAT : Hid (edtK.At g 0 V w6) := at_holdsK (R := edtK) (d := V.toArray) hH
      have hvk : V.toArray[k]! = x := by
        have h1 := (List.getElem?_eq_some_iff.1 HPH.out)
        rw [getElem!_pos V.toArray k (by simpa using hkl)]
        simpa using h1.2
      have cj := fun c (hc : c < 12) => HoldsK.cell hH (i := k) (c := c) (by simpa using hkl) hc
      simp only [hvk, Nat.zero_add] at cj
      have j0 : w6.cell? ⟨g, k * 12 + 2, none⟩ = some (.int .i64 x.ty.base) := (cj 2 (by omega)).1
      have fj0 : w6.frozen? ⟨g, k * 12 + 2, none⟩ = false := (cj 2 (by omega)).2
      have j1 : w6.cell? ⟨g, k * 12 + 3, none⟩ = some (.bool x.ty.kw) := (cj 3 (by omega)).1
      have fj1 : w6.frozen? ⟨g, k * 12 + 3, none⟩ = false := (cj 3 (by omega)).2
      have j2 : w6.cell? ⟨g, k * 12 + 4, none⟩ = some (.bool x.ty.ex) := (cj 4 (by omega)).1
      have fj2 : w6.frozen? ⟨g, k * 12 + 4, none⟩ = false := (cj 4 (by omega)).2
      have j3 : w6.cell? ⟨g, k * 12 + 5, none⟩ = some (.bool x.ty.xe) := (cj 5 (by omega)).1
      have fj3 : w6.frozen? ⟨g, k * 12 + 5, none⟩ = false := (cj 5 (by omega)).2
      have j4 : w6.cell? ⟨g, k * 12 + 6, none⟩ = some (.int .u64 x.con.sum) := (cj 6 (by omega)).1
      have fj4 : w6.frozen? ⟨g, k * 12 + 6, none⟩ = false := (cj 6 (by omega)).2
      have j5 : w6.cell? ⟨g, k * 12 + 7, none⟩ = some (.int .i64 x.con.size) := (cj 7 (by omega)).1
      have fj5 : w6.frozen? ⟨g, k * 12 + 7, none⟩ = false := (cj 7 (by omega)).2
      obtain ⟨p0, p1, p2, p3, p4, p5⟩ := HMP.out.2.2.2.2.1.c6
      obtain ⟨t0, t1, t2, t3⟩ := blk_c4 HMP.out.2.2.2.1
      obtain ⟨c0, c1⟩ := HMP.out.2.2.1.c2
      have hgx : g ≠ w2.heap.size := by omega
      have hgr : g ≠ w.heap.size + 1 + 1 + 1 := by omega
      have hgc : g ≠ w.heap.size + 1 + 1 := by omega
      have hgt : g ≠ w.heap.size + 1 := by omega
      have hgp : g ≠ w.heap.size := by omega
      clear cj hvk hH
      go_wp2_with fail
      go_region
      obtain ⟨w7, hw7⟩ : ∃ y, y = (((((((w6.setCell ⟨g, k * 12 + 2, none⟩ (.int .i64 tb)).setCell ⟨g, k * 12 + 2 + 1, none⟩ (.bool tk)).setCell ⟨g, k * 12 + 2 + 2, none⟩ (.bool te)).setCell ⟨g, k * 12 + 2 + 3, none⟩ (.bool tx)).setCell ⟨g, k * 12 + 6, none⟩ (.int .u64 cs)).setCell ⟨g, k * 12 + 6 + 1, none⟩ (.int .i64 cz))).drew := ⟨_, rfl⟩
      have hw7' : w7 = (w6.setCells g (0 + k * edtK.n + 2) [.int .i64 tb, .bool tk, .bool te, .bool tx, .int .u64 cs, .int .i64 cz]).drew := by
        rw [hw7]
        simp only [World.setCells, show edtK.n = 12 from rfl, Nat.zero_add, Nat.add_assoc, Nat.reduceAdd]
      have HM7 : Hid (Bs [(w2.heap.size, 44, [.string x.path, .int .i64 x.act, .int .i64 x.ty.base, .bool x.ty.kw, .bool x.ty.ex, .bool x.ty.xe, .int .u64 x.con.sum, .int .i64 x.con.size, .int .i64 x.base, .string x.src, .int .i64 x.srcn, .int .i64 x.fence]), (w.heap.size + 1 + 1 + 1, 41, [.int .i64 0, .string ⟨#[]⟩, .string ⟨#[]⟩, .bool false, .slice none 0 0, .slice none 0 0]), (w.heap.size + 1 + 1, 28, [.int .u64 cs, .int .i64 cz]), (w.heap.size + 1, 25, [.int .i64 tb, .bool tk, .bool te, .bool tx]), (w.heap.size, 41, [.int .i64 pn, .string pc, .string pt, .bool ps, .slice (some ⟨g, 0, none⟩) V.length c2, .slice R2 0 r2])] w7) := by
        show Bs _ _
        rw [hw7']
        exact Bs.drew ⟨setCells_blk HMP.out.1 (Ne.symm hgx) _ _, setCells_blk HMP.out.2.1 (Ne.symm hgr) _ _, setCells_blk HMP.out.2.2.1 (Ne.symm hgc) _ _, setCells_blk HMP.out.2.2.2.1 (Ne.symm hgt) _ _, setCells_blk HMP.out.2.2.2.2.1 (Ne.symm hgp) _ _, trivial⟩
      have HB7 : Hid (Below w.heap.size w w7) := by
        show Below _ _ _
        rw [hw7']
        exact (setCells_below HBP.out (by omega) _ _).drew
      have HI7 : Hid (edtK.In (some ⟨g, 0, none⟩) (V.set k { x with ty := ⟨tb, tk, te, tx⟩, con := ⟨cs, cz⟩ }) w7) := by
        show edtK.In _ _ _
        rw [hw7']
        exact setE_row ⟨tb, tk, te, tx⟩ ⟨cs, cz⟩ HAT.out HPH.out hgl
      rw [← hw7]
      have hgw2 : w.heap.size ≤ g := by omega
      clear hw7 hw7' HMP HBP HOP HAT p0 p1 p2 p3 p4 p5 t0 t1 t2 t3 c0 c1 j0 fj0 j1 fj1 j2 fj2 j3 fj3 j4 fj4 j5 fj5
      obtain ⟨p0, p1, p2, p3, p4, p5⟩ := HM7.out.2.2.2.2.1.c6
      obtain ⟨z0, z1, z2, z3, z4, z5⟩ := HM7.out.2.1.c6
      have f0 := HM7.out.2.1.fz 0
      have f1 := HM7.out.2.1.fz 1
      have f2 := HM7.out.2.1.fz 2
      have f3 := HM7.out.2.1.fz 3
      have f4 := HM7.out.2.1.fz 4
      have f5 := HM7.out.2.1.fz 5
      go_wp2_with fail
      have KZ := Lib.hid (zero_put HM7.out.2.1 (.int .i64 pn) (.string pc) (.string pt) (.bool ps) (.slice (some ⟨g, 0, none⟩) V.length c2) (.slice R2 0 r2))
      have HBZ := Lib.hid (below_put6 HB7.out (b := w.heap.size + 1 + 1 + 1) (by omega) (.int .i64 pn) (.string pc) (.string pt) (.bool ps) (.slice (some ⟨g, 0, none⟩) V.length c2) (.slice R2 0 r2))
      have HIZ := Lib.hid (in_put6 HI7.out (b := w.heap.size + 1 + 1 + 1) hgr (.int .i64 pn) (.string pc) (.string pt) (.bool ps) (.slice (some ⟨g, 0, none⟩) V.length c2) (.slice R2 0 r2))
      (generalize World.setCell (World.setCell (World.setCell (World.setCell (World.setCell (World.setCell _ _ _) _ _) _ _) _ _) _ _) _ _ = wz at *)
      obtain ⟨y0, y1, y2, y3, y4, y5⟩ := KZ.out.c6
      refine bodyPost_ret (v := .tuple #[.agg #[.int .i64 pn, .string pc, .string pt, .bool ps, .slice (some ⟨g, 0, none⟩) V.length c2, .slice R2 0 r2], .int .i64 0]) (by simp [results, Tryz.results72, go_sem, y0, y1, y2, y3, y4, y5]) rfl ?_
      rw [HQ2.out]
      refine ⟨some ⟨g, 0, none⟩, c2, R2, r2, ?_, HIZ.out, (fun b off e => by injection e with e; injection e with e; omega), HBZ.out⟩
      unfold pndV pndC
      dsimp only
      rw [List.length_set]
end Go.Proofs.YtocffknoeknabaaGreatDoor
