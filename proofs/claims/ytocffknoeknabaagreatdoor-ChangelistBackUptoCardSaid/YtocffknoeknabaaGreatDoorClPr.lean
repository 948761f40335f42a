/-
  The walk of changelist.Revert (printed by mkprev.py).
-/
import Derived.Test.YtocffknoeknabaaGreatDoorClG
import Derived.Maps.Own
import Derived.Maps.OwnSet
import Derived.DeepKeys4
namespace Go.Proofs.YtocffknoeknabaaGreatDoor
open Go.RowKit

theorem targ_keyed : Maps.Keyed Tryz.prog 89 := Maps.Keyed.of_law (deep_law_laid Tryz.laidOut (m := 10) (by decide) (of_decide_eq_true (by kernel_rfl)) (by kernel_rfl) (by kernel_rfl))
theorem targ_key (s : ByteArray) (n : Int) (hs : s.size ≤ maxLen) (hn : (Lit.int .i64 n).wf = true) : ∃ l, keyOf Tryz.prog 89 (.agg #[.string s, .int .i64 n]) = some l := by
  obtain ⟨m, hm⟩ : ∃ m, Tryz.prog.types.size = m + 1 := ⟨Tryz.prog.types.size - 1, by kernel_rfl⟩
  have h1 : (Tryz.prog.keyType 89 && (Value.agg #[.string s, .int .i64 n]).formed Tryz.prog 89) = true := by kernel_rfl
  have hc : Tryz.prog.cellsOf 89 = 2 := by kernel_rfl
  have hcs : Tryz.prog.cellsOf 9 = 1 := by kernel_rfl
  have hci : Tryz.prog.cellsOf 3 = 1 := by kernel_rfl
  have hu := Tryz.underlying89
  refine ⟨.string (keyBytes [.string s.data.toList, .int .i64 n]), ?_⟩
  unfold keyOf
  simp only [hu]
  rw [if_pos h1, hm]
  unfold Program.keyLits
  simp only [hu, Value.cells]
  rw [if_pos ⟨by rw [hc]; rfl, by kernel_rfl⟩]
  simp [Program.keyLits, Tryz.underlying9, Tryz.underlying3, hcs, hci, hs, hn]
theorem Blk.drew' {b : Nat} {T : TypeId} {cs : List Value} {w : World} (h : Blk b T cs w) : Blk b T cs w.drew := h
set_option maxRecDepth 100000 in
set_option maxHeartbeats 12800000 in
theorem prev_any (p : Pnd) (s : ByteArray) (E R : Option Addr) (ec rc : Nat) (w : World) (hE : edtK.In E p.edits w) (hok : EOk p.edits) (hs : s.size ≤ 4294967281) :
    Calls Tryz.prog 12 #[pndV p E ec R rc, .string s] w (PRet (revP p s) w) := by
  have HIE := Lib.hid hE
  have HOK := Lib.hid hok
  have hlen := hok.len
  have hmm := @run_makeMap Tryz.prog
  obtain ⟨i0, hi0, hz0, hz1, hz2⟩ := info_parts Tryz.infoEdit
  obtain ⟨q, hq⟩ : ∃ q, revP p s = q := ⟨_, rfl⟩
  rw [hq]
  have HQ := Lib.hid hq
  have HFI := Lib.hid (fun w h => place_any p.edits s E ec w hok.pl hs h)
  clear hE hok hq
  obtain ⟨pn, pc, pt, ps, V⟩ := p
  unfold pndV pndC at *
  dsimp only at *
  go_enter Tryz.func12, Tryz.ntmps12
  go_upto_region 1 with fail
  generalize hw1 : World.alloc _ (.cells #[.int .i64 0, .string ⟨#[]⟩, .string ⟨#[]⟩, .bool false, .slice none 0 0, .slice none 0 0] 41) = w1
  have HM1 : Hid (Bs [(w.heap.size + 1, 41, [.int .i64 0, .string ⟨#[]⟩, .string ⟨#[]⟩, .bool false, .slice none 0 0, .slice none 0 0]), (w.heap.size, 41, [.int .i64 pn, .string pc, .string pt, .bool ps, .slice E V.length ec, .slice R 0 rc])] w1) := by
    show Bs _ _
    rw [← hw1]
    exact ⟨Blk.new1 _ _ _ _, (Blk.new _ _ _).alloc _, trivial⟩
  have HB1 : Hid (Below w.heap.size w w1) := by
    show Below _ _ _
    rw [← hw1]
    (repeat (first | (with_reducible exact Below.refl _ _) | (with_reducible assumption) | (with_reducible refine Below.setCell ?_ ?_ _; rotate_left; focus (first | exact Nat.le_refl _ | (dsimp only; omega))) | (with_reducible refine Below.drew ?_) | (with_reducible refine below_drewN ?_ _) | (with_reducible refine Below.alloc ?_ ?_ _; rotate_left; focus (first | exact Nat.le_refl _ | (simp; done) | (simp; omega)))))
  clear hw1
  obtain ⟨p0, p1, p2, p3, p4, p5⟩ := HM1.out.2.1.c6
  go_wp2_with fail
  refine (HFI.out _ (HIE.out.below HB1.out)).mono ?_
  rintro e w2 ⟨rfl, hb2⟩
  have HM2 := Lib.hid (HM1.out.below hb2)
  have HB2 := Lib.hid (HB1.out.trans (hb2.mono HB1.out.size))
  have lt2 := HM2.out.1.lt
  clear hb2 HM1 HB1 p0 p1 p2 p3 p4 p5
  cases hf : fndE V s with
  | none =>
    have hfi : hasE V s = false := none_has hf
    have hqq : q = (zeroP, 182) := by rw [← HQ.out]; unfold revP; rw [hf]
    rw [hfi]
    clear hfi hf
    (obtain ⟨z0, z1, z2, z3, z4, z5⟩ := (HM2.out.1).c6; have f0 := (HM2.out.1).fz 0; have f1 := (HM2.out.1).fz 1; have f2 := (HM2.out.1).fz 2; have f3 := (HM2.out.1).fz 3; have f4 := (HM2.out.1).fz 4; have f5 := (HM2.out.1).fz 5; go_wp2_with fail; have KZ := Lib.hid (zero_put (HM2.out.1) (.int .i64 0) (.string ⟨#[]⟩) (.string ⟨#[]⟩) (.bool false) (.slice none 0 0) (.slice none 0 0)); have HBZ := Lib.hid (below_put6 (HB2.out) (b := w.heap.size + 1) (by omega) (.int .i64 0) (.string ⟨#[]⟩) (.string ⟨#[]⟩) (.bool false) (.slice none 0 0) (.slice none 0 0)); generalize World.setCell (World.setCell (World.setCell (World.setCell (World.setCell (World.setCell _ _ _) _ _) _ _) _ _) _ _) _ _ = wz at *; obtain ⟨y0, y1, y2, y3, y4, y5⟩ := KZ.out.c6; exact bodyPost_ret (v := .tuple #[.agg #[.int .i64 0, .string ⟨#[]⟩, .string ⟨#[]⟩, .bool false, .slice none 0 0, .slice none 0 0], .int .i64 _]) (by simp [results, Tryz.results12, go_sem, y0, y1, y2, y3, y4, y5]) rfl (PRet.no (hqq) HBZ.out))
  | some x =>
    have hfi : hasE V s = true := by unfold hasE; rw [hf]; rfl
    have hpp := posP_has HOK.out.pl hf
    have hph := pos_has HOK.out.srt hf
    have HXS := Lib.hid (fnd_some hf).2
    have HQ1 : Hid (q = (⟨pn, pc, pt, ps, V.filter (keepE x)⟩, 0)) := by
      show _ = _
      rw [← HQ.out]
      unfold revP
      rw [hf]
    rw [hfi, hpp]
    clear hpp
    generalize posE V s = kp at *
    have hkl := hph.1
    have hkn : (kp : Int) < (V.length : Int) := by omega
    have hk0 : (0 : Int) ≤ (kp : Int) := by omega
    obtain ⟨b, off, rfl, hbl, hat⟩ := (HIE.out.below HB2.out) (by omega)
    (have hcv := fun j (u : Value) (hj : (x).cells[j]? = some u) => ((hat).get hph.2 hj); have c0 := hcv 0 _ rfl; have c1 := hcv 1 _ rfl; have c2 := hcv 2 _ rfl; have c3 := hcv 3 _ rfl; have c4 := hcv 4 _ rfl; have c5 := hcv 5 _ rfl; have c6 := hcv 6 _ rfl; have c7 := hcv 7 _ rfl; have c8 := hcv 8 _ rfl; have c9 := hcv 9 _ rfl; have c10 := hcv 10 _ rfl; have c11 := hcv 11 _ rfl; have e12 : edtK.n = 12 := rfl; simp only [e12, Nat.add_zero] at c0 c1 c2 c3 c4 c5 c6 c7 c8 c9 c10 c11; clear hcv e12)
    have HPH := Lib.hid hph.2
    clear hf hfi hph hat HQ
    obtain ⟨p0, p1, p2, p3, p4, p5⟩ := HM2.out.2.1.c6
    have HM3 : Hid (Bs [(w2.heap.size, 44, [.string x.path, .int .i64 x.act, .int .i64 x.ty.base, .bool x.ty.kw, .bool x.ty.ex, .bool x.ty.xe, .int .u64 x.con.sum, .int .i64 x.con.size, .int .i64 x.base, .string x.src, .int .i64 x.srcn, .int .i64 x.fence]), (w.heap.size + 1, 41, [.int .i64 0, .string ⟨#[]⟩, .string ⟨#[]⟩, .bool false, .slice none 0 0, .slice none 0 0]), (w.heap.size, 41, [.int .i64 pn, .string pc, .string pt, .bool ps, .slice (some ⟨b, off, none⟩) V.length ec, .slice R 0 rc])] (w2.alloc (.cells [.string x.path, .int .i64 x.act, .int .i64 x.ty.base, .bool x.ty.kw, .bool x.ty.ex, .bool x.ty.xe, .int .u64 x.con.sum, .int .i64 x.con.size, .int .i64 x.base, .string x.src, .int .i64 x.srcn, .int .i64 x.fence].toArray 44))) := Bs.cons (Blk.new w2 44 [.string x.path, .int .i64 x.act, .int .i64 x.ty.base, .bool x.ty.kw, .bool x.ty.ex, .bool x.ty.xe, .int .u64 x.con.sum, .int .i64 x.con.size, .int .i64 x.base, .string x.src, .int .i64 x.srcn, .int .i64 x.fence]) (HM2.out.alloc _)
    have HB3 : Hid (Below w.heap.size w (w2.alloc (.cells [.string x.path, .int .i64 x.act, .int .i64 x.ty.base, .bool x.ty.kw, .bool x.ty.ex, .bool x.ty.xe, .int .u64 x.con.sum, .int .i64 x.con.size, .int .i64 x.base, .string x.src, .int .i64 x.srcn, .int .i64 x.fence].toArray 44))) := HB2.out.alloc HB2.out.size _
    go_upto_region 5 with fail
    generalize hw3 : World.alloc w2 (.cells #[.string x.path, .int .i64 x.act, .int .i64 x.ty.base, .bool x.ty.kw, .bool x.ty.ex, .bool x.ty.xe, .int .u64 x.con.sum, .int .i64 x.con.size, .int .i64 x.base, .string x.src, .int .i64 x.srcn, .int .i64 x.fence] 44) = w3 at *
    clear hw3 HM2 HB2 p0 p1 p2 p3 p4 p5 c0 c1 c2 c3 c4 c5 c6 c7 c8 c9 c10 c11
    have lt3 := HM3.out.1.lt
    have ltp := HM3.out.2.2.1.lt
    obtain ⟨p0, p1, p2, p3, p4, p5⟩ := HM3.out.2.2.1.c6
    have HM4 : Hid (Bs [(w3.heap.size, 41, [.int .i64 pn, .string pc, .string pt, .bool ps, .slice (some ⟨b, off, none⟩) V.length ec, .slice R 0 rc]), (w2.heap.size, 44, [.string x.path, .int .i64 x.act, .int .i64 x.ty.base, .bool x.ty.kw, .bool x.ty.ex, .bool x.ty.xe, .int .u64 x.con.sum, .int .i64 x.con.size, .int .i64 x.base, .string x.src, .int .i64 x.srcn, .int .i64 x.fence]), (w.heap.size + 1, 41, [.int .i64 0, .string ⟨#[]⟩, .string ⟨#[]⟩, .bool false, .slice none 0 0, .slice none 0 0]), (w.heap.size, 41, [.int .i64 pn, .string pc, .string pt, .bool ps, .slice (some ⟨b, off, none⟩) V.length ec, .slice R 0 rc])] (w3.alloc (.cells [.int .i64 pn, .string pc, .string pt, .bool ps, .slice (some ⟨b, off, none⟩) V.length ec, .slice R 0 rc].toArray 41))) := Bs.cons (Blk.new w3 41 [.int .i64 pn, .string pc, .string pt, .bool ps, .slice (some ⟨b, off, none⟩) V.length ec, .slice R 0 rc]) (HM3.out.alloc _)
    have HB4 : Hid (Below w.heap.size w (w3.alloc (.cells [.int .i64 pn, .string pc, .string pt, .bool ps, .slice (some ⟨b, off, none⟩) V.length ec, .slice R 0 rc].toArray 41))) := HB3.out.alloc HB3.out.size _
    go_upto_region 6 with fail
    generalize hw4 : World.alloc w3 (.cells #[.int .i64 pn, .string pc, .string pt, .bool ps, .slice (some ⟨b, off, none⟩) V.length ec, .slice R 0 rc] 41) = w4 at *
    clear hw4 HM3 HB3 p0 p1 p2 p3 p4 p5
    have lt4 := HM4.out.1.lt
    obtain ⟨p0, p1, p2, p3, p4, p5⟩ := HM4.out.1.c6
    have g4 := HM4.out.1.fz 4
    have g5 := HM4.out.1.fz 5
    have HMP := Lib.hid (show Bs [(w3.heap.size, 41, [.int .i64 pn, .string pc, .string pt, .bool ps, .slice none 0 0, .slice none 0 0]), (w2.heap.size, 44, [.string x.path, .int .i64 x.act, .int .i64 x.ty.base, .bool x.ty.kw, .bool x.ty.ex, .bool x.ty.xe, .int .u64 x.con.sum, .int .i64 x.con.size, .int .i64 x.base, .string x.src, .int .i64 x.srcn, .int .i64 x.fence]), (w.heap.size + 1, 41, [.int .i64 0, .string ⟨#[]⟩, .string ⟨#[]⟩, .bool false, .slice none 0 0, .slice none 0 0]), (w.heap.size, 41, [.int .i64 pn, .string pc, .string pt, .bool ps, .slice (some ⟨b, off, none⟩) V.length ec, .slice R 0 rc])] _ from ⟨(HM4.out.1.set 4 (.slice none 0 0)).set 5 (.slice none 0 0), (HM4.out.2.1.far (p := ⟨w3.heap.size, 4, none⟩) (by dsimp only; omega) (.slice none 0 0)).far (p := ⟨w3.heap.size, 5, none⟩) (by dsimp only; omega) (.slice none 0 0), (HM4.out.2.2.1.far (p := ⟨w3.heap.size, 4, none⟩) (by dsimp only; omega) (.slice none 0 0)).far (p := ⟨w3.heap.size, 5, none⟩) (by dsimp only; omega) (.slice none 0 0), (HM4.out.2.2.2.1.far (p := ⟨w3.heap.size, 4, none⟩) (by dsimp only; omega) (.slice none 0 0)).far (p := ⟨w3.heap.size, 5, none⟩) (by dsimp only; omega) (.slice none 0 0), trivial⟩)
    have HBP := Lib.hid ((HB4.out.setCell (p := ⟨w3.heap.size, 4, none⟩) (by dsimp only; omega) (.slice none 0 0)).setCell (p := ⟨w3.heap.size, 5, none⟩) (by dsimp only; omega) (.slice none 0 0))
    go_upto_region 7 with fail
    (generalize World.setCell (World.setCell _ _ _) _ _ = w5 at *)
    clear HM4 HB4 p0 p1 p2 p3 p4 p5 g4 g5
    have lt5 := HMP.out.1.lt
    have HMA : Hid (Bs [(w3.heap.size, 41, [.int .i64 pn, .string pc, .string pt, .bool ps, .slice none 0 0, .slice none 0 0]), (w2.heap.size, 44, [.string x.path, .int .i64 x.act, .int .i64 x.ty.base, .bool x.ty.kw, .bool x.ty.ex, .bool x.ty.xe, .int .u64 x.con.sum, .int .i64 x.con.size, .int .i64 x.base, .string x.src, .int .i64 x.srcn, .int .i64 x.fence]), (w.heap.size + 1, 41, [.int .i64 0, .string ⟨#[]⟩, .string ⟨#[]⟩, .bool false, .slice none 0 0, .slice none 0 0]), (w.heap.size, 41, [.int .i64 pn, .string pc, .string pt, .bool ps, .slice (some ⟨b, off, none⟩) V.length ec, .slice R 0 rc])] (w5.alloc (.map #[] 0))) := HMP.out.alloc _
    have HBA : Hid (Below w.heap.size w (w5.alloc (.map #[] 0))) := HBP.out.alloc HBP.out.size _
    have HOA : Hid ((w5.alloc (.map #[] 0)).ownsMap Tryz.prog 89 (plainElem (H := Unit) Tryz.prog 4) w5.heap.size 0 (.map [])) := World.ownsMap_made _ _ _ _
    have hsza : w5.heap.size < (w5.alloc (.map #[] 0)).heap.size := by simp
    -- MARKM
    go_upto_region 8 with fail
    -- MARKN
    generalize hw6 : World.alloc w5 (.map #[] 0) = w6 at *
    clear hw6 HMP HBP hmm
    obtain ⟨p0, p1, p2, p3, p4, p5⟩ := HMA.out.2.2.2.1.c6
    go_wp2_with fail
    clear p0 p1 p2 p3 p4 p5
    go_loopw [38] (fun i wr => ∃ (k : Nat) (O : Option Addr) (n c : Nat) (D : DataW Unit), i = .int .i64 k ∧ k ≤ V.length ∧ Hid (n = ((V.take k).filter (keepE x)).length) ∧ wr.ownsRow w6.heap.size 44 12 (.slice O n c) n (edtK.flat ((V.take k).filter (keepE x))) ∧ wr.ownsMap Tryz.prog 89 (plainElem (H := Unit) Tryz.prog 4) w5.heap.size k D ∧ Below w.heap.size w wr ∧ Bs [(w3.heap.size, 41, [.int .i64 pn, .string pc, .string pt, .bool ps, .slice O n c, .slice none 0 0]), (w2.heap.size, 44, [.string x.path, .int .i64 x.act, .int .i64 x.ty.base, .bool x.ty.kw, .bool x.ty.ex, .bool x.ty.xe, .int .u64 x.con.sum, .int .i64 x.con.size, .int .i64 x.base, .string x.src, .int .i64 x.srcn, .int .i64 x.fence]), (w.heap.size + 1, 41, [.int .i64 0, .string ⟨#[]⟩, .string ⟨#[]⟩, .bool false, .slice none 0 0, .slice none 0 0]), (w.heap.size, 41, [.int .i64 pn, .string pc, .string pt, .bool ps, .slice (some ⟨b, off, none⟩) V.length ec, .slice R 0 rc])] wr ∧ Hid (w6.heap.size ≤ wr.heap.size)) (fun i _ => V.length - (intOf i).toNat)
    case atStart => exact ⟨0, none, 0, 0, .map [], rfl, Nat.zero_le _, rfl, ⟨rfl, .inl ⟨rfl, rfl⟩⟩, HOA.out, HBA.out, HMA.out, Nat.le_refl _⟩
    case round =>
      obtain ⟨k, O, n, c, D, rfl, hk, HN, hoo, hom, hB, hM, HSZ⟩ := hrel
      have HB := Lib.hid hB
      have HM := Lib.hid hM
      have HOO := Lib.hid hoo
      have HOM := Lib.hid hom
      clear hB hM hoo hom HBA HMA HOA
      by_cases hlt : k < V.length
      · have HNV : Hid (n ≤ k) := by
          show _ ≤ _
          rw [HN.out]
          exact Nat.le_trans (List.length_filter_le _ _) (by rw [List.length_take]; omega)
        have hnv := HNV.out
        have hw5 : w6.heap.size ≤ wr.heap.size := HSZ.out
        have HFS : Hid ((V.take (k + 1)).filter (keepE x) = (V.take k).filter (keepE x) ++ if keepE x V[k] = true then [V[k]] else []) := by
          show _ = _
          rw [List.take_succ_eq_append_getElem hlt, List.filter_append]
          congr 1
          cases hkk : keepE x V[k] <;> simp [hkk]
        have hg := List.getElem?_eq_getElem hlt
        have hmem := List.getElem_mem hlt
        have hyb := HOK.out.base _ hmem
        have hyu := (use_valid (HOK.out.use _ hmem)).2
        obtain ⟨b', off', hbb, hbl', hat'⟩ := (HIE.out.below HB.out) (by omega)
        injection hbb with hbb
        injection hbb with hb1 hb2
        subst hb1 hb2
        generalize V[k] = y at *
        (have hcv := fun j (u : Value) (hj : (y).cells[j]? = some u) => ((hat').get hg hj); have c0 := hcv 0 _ rfl; have c1 := hcv 1 _ rfl; have c2 := hcv 2 _ rfl; have c3 := hcv 3 _ rfl; have c4 := hcv 4 _ rfl; have c5 := hcv 5 _ rfl; have c6 := hcv 6 _ rfl; have c7 := hcv 7 _ rfl; have c8 := hcv 8 _ rfl; have c9 := hcv 9 _ rfl; have c10 := hcv 10 _ rfl; have c11 := hcv 11 _ rfl; have e12 : edtK.n = 12 := rfl; simp only [e12, Nat.add_zero] at c0 c1 c2 c3 c4 c5 c6 c7 c8 c9 c10 c11; clear hcv e12)
        clear hat' hg hbl' hmem
        have hkln : (k : Int) < (V.length : Int) := by omega
        have HMY : Hid (Bs [(wr.heap.size, 44, [.string y.path, .int .i64 y.act, .int .i64 y.ty.base, .bool y.ty.kw, .bool y.ty.ex, .bool y.ty.xe, .int .u64 y.con.sum, .int .i64 y.con.size, .int .i64 y.base, .string y.src, .int .i64 y.srcn, .int .i64 y.fence]), (w3.heap.size, 41, [.int .i64 pn, .string pc, .string pt, .bool ps, .slice O n c, .slice none 0 0]), (w2.heap.size, 44, [.string x.path, .int .i64 x.act, .int .i64 x.ty.base, .bool x.ty.kw, .bool x.ty.ex, .bool x.ty.xe, .int .u64 x.con.sum, .int .i64 x.con.size, .int .i64 x.base, .string x.src, .int .i64 x.srcn, .int .i64 x.fence]), (w.heap.size + 1, 41, [.int .i64 0, .string ⟨#[]⟩, .string ⟨#[]⟩, .bool false, .slice none 0 0, .slice none 0 0]), (w.heap.size, 41, [.int .i64 pn, .string pc, .string pt, .bool ps, .slice (some ⟨b, off, none⟩) V.length ec, .slice R 0 rc])] (wr.alloc (.cells [.string y.path, .int .i64 y.act, .int .i64 y.ty.base, .bool y.ty.kw, .bool y.ty.ex, .bool y.ty.xe, .int .u64 y.con.sum, .int .i64 y.con.size, .int .i64 y.base, .string y.src, .int .i64 y.srcn, .int .i64 y.fence].toArray 44))) := Bs.cons (Blk.new wr 44 [.string y.path, .int .i64 y.act, .int .i64 y.ty.base, .bool y.ty.kw, .bool y.ty.ex, .bool y.ty.xe, .int .u64 y.con.sum, .int .i64 y.con.size, .int .i64 y.base, .string y.src, .int .i64 y.srcn, .int .i64 y.fence]) (HM.out.alloc _)
        have HBY : Hid (Below w.heap.size w (wr.alloc (.cells [.string y.path, .int .i64 y.act, .int .i64 y.ty.base, .bool y.ty.kw, .bool y.ty.ex, .bool y.ty.xe, .int .u64 y.con.sum, .int .i64 y.con.size, .int .i64 y.base, .string y.src, .int .i64 y.srcn, .int .i64 y.fence].toArray 44))) := HB.out.alloc HB.out.size _
        have HOOY := Lib.hid (HOO.out.alloc (.cells [.string y.path, .int .i64 y.act, .int .i64 y.ty.base, .bool y.ty.kw, .bool y.ty.ex, .bool y.ty.xe, .int .u64 y.con.sum, .int .i64 y.con.size, .int .i64 y.base, .string y.src, .int .i64 y.srcn, .int .i64 y.fence].toArray 44))
        have HOMY := Lib.hid (HOM.out.alloc (.cells [.string y.path, .int .i64 y.act, .int .i64 y.ty.base, .bool y.ty.kw, .bool y.ty.ex, .bool y.ty.xe, .int .u64 y.con.sum, .int .i64 y.con.size, .int .i64 y.base, .string y.src, .int .i64 y.srcn, .int .i64 y.fence].toArray 44))
        -- MARKA
        go_upto_region 11 with fail
        -- MARKB
        have hszy : wr.heap.size < (wr.alloc (.cells [.string y.path, .int .i64 y.act, .int .i64 y.ty.base, .bool y.ty.kw, .bool y.ty.ex, .bool y.ty.xe, .int .u64 y.con.sum, .int .i64 y.con.size, .int .i64 y.base, .string y.src, .int .i64 y.srcn, .int .i64 y.fence].toArray 44)).heap.size := by simp
        generalize hwy : World.alloc wr (.cells #[.string y.path, .int .i64 y.act, .int .i64 y.ty.base, .bool y.ty.kw, .bool y.ty.ex, .bool y.ty.xe, .int .u64 y.con.sum, .int .i64 y.con.size, .int .i64 y.base, .string y.src, .int .i64 y.srcn, .int .i64 y.fence] 44) = wy at *
        clear hwy HM HB HOO HOM c0 c1 c2 c3 c4 c5 c6 c7 c8 c9 c10 c11
        have lt6 := HMY.out.2.1.lt
        obtain ⟨y0, y1, y2, y3, y4, y5, y6, y7, y8, y9, y10, y11⟩ := HMY.out.1.c12
        obtain ⟨q0, q1, q2, q3, q4, q5, q6, q7, q8, q9, q10, q11⟩ := HMY.out.2.2.1.c12
        have HLT := Lib.hid (RowK.lit edtK wy y 44)
        obtain ⟨kl, hkey⟩ := targ_key y.path (y.base + 1) (by unfold maxLen; omega) (WalkArith.wf_i64 (by omega))
        have p4 := HMY.out.2.1.cell 4
        have g4 := HMY.out.2.1.fz 4
        cases hps : (y.path.toList == s.toList)
        case false =>
          have HPF : Hid ((y.path == x.path) = false) := by
            show _ = _
            rw [← path_tl, HXS.out]
            exact hps
          by_cases hx4 : x.act = 4
          · have hx5 : ¬ x.act = 5 := by omega
            have x4a : (x.act == 4) = true := by simpa using hx4
            have x4b : decide (x.act = 4) = true := by simpa using hx4
            have x4n : True := trivial
            have x5a : (x.act == 5) = false := by simpa using hx5
            have x5b : decide (x.act = 5) = false := by simpa using hx5
            have x5n : ¬ x.act = 5 := hx5
            have HX4 := Lib.hid hx4
            clear hx4 x4n
            by_cases hy5 : y.act = 5
            ·
              have y5a : (y.act == 5) = true := by simpa using hy5
              have y5b : decide (y.act = 5) = true := by simpa using hy5
              have y5n : True := trivial
              clear hy5 y5n
              cases hs2 : (y.path.toList == x.src.toList)
              ·
                have HS : Hid ((y.path == x.src) = false) := by
                  show _ = _
                  rw [← path_tl]
                  exact hs2
                have HKP : Hid (keepE x y = true) := by
                  show _ = _
                  unfold keepE ctrE; rw [HPF.out, x4a, x5a, y5a, HS.out]; rfl
                -- MARKE
                go_wp2_with (at_builtin; go_loud (refine wpList_append_own _ rfl _ _ 39 rfl w6.heap.size 44 i0 zeroEdt.val 12 96 Tryz.underlying39 hi0 hz0 hz1 hz2 rfl (by decide) (.slice O n c) n (edtK.flat ((V.take k).filter (keepE x))) rfl (HOOY.out.alloc _) ⟨wy.heap.size, 0, none⟩ 1 1 y.cells rfl rfl HLT.out.1 HLT.out.2 (by unfold maxLen; omega) (by omega) (by simp; omega) ?_); intro v2 w7 ho6 hg6 _; obtain ⟨A6, c6, rfl⟩ := ownsRow_slice ho6; have hs6 := hg6.size; have hsa : (wy.alloc (.cells [.string y.path, .int .i64 y.act, .int .i64 y.ty.base, .bool y.ty.kw, .bool y.ty.ex, .bool y.ty.xe, .int .u64 y.con.sum, .int .i64 y.con.size, .int .i64 y.base, .string y.src, .int .i64 y.srcn, .int .i64 y.fence].toArray 44)).heap.size = wy.heap.size + 1 := (by simp); have HB6 := Lib.hid ((HBY.out.alloc HBY.out.size (.cells [.string y.path, .int .i64 y.act, .int .i64 y.ty.base, .bool y.ty.kw, .bool y.ty.ex, .bool y.ty.xe, .int .u64 y.con.sum, .int .i64 y.con.size, .int .i64 y.base, .string y.src, .int .i64 y.srcn, .int .i64 y.fence].toArray 44)).grown hg6 (by rw [hsa]; have := HBY.out.size; omega) (fun j e => by have := (HOOY.out.lt j e).1; omega)); have HM6 := Lib.hid ((Bs.alloc HMY.out.2 (.cells [.string y.path, .int .i64 y.act, .int .i64 y.ty.base, .bool y.ty.kw, .bool y.ty.ex, .bool y.ty.xe, .int .u64 y.con.sum, .int .i64 y.con.size, .int .i64 y.base, .string y.src, .int .i64 y.srcn, .int .i64 y.fence].toArray 44)).grown hg6 (fun z hz e => by
                    have h1 := (HOOY.out.lt _ e).1
                    simp only [List.mem_cons, List.not_mem_nil, or_false] at hz
                    rcases hz with rfl | rfl | rfl | rfl <;> dsimp only at h1 <;> omega)); have HG6 := Lib.hid ((HOMY.out.alloc (.cells [.string y.path, .int .i64 y.act, .int .i64 y.ty.base, .bool y.ty.kw, .bool y.ty.ex, .bool y.ty.xe, .int .u64 y.con.sum, .int .i64 y.con.size, .int .i64 y.base, .string y.src, .int .i64 y.srcn, .int .i64 y.fence].toArray 44)).kept hg6 (fun e => by have := (HOOY.out.lt _ e.symm).1; omega)); have HO6 := Lib.hid ho6; clear ho6 hg6 p4 g4; have p4 := HM6.out.1.cell 4; have g4 := HM6.out.1.fz 4; have lt7 := HM6.out.1.lt)
                -- MARKF
                go_roundw
                case rel =>
                  refine ⟨k + 1, A6, n + 1, c6, D, by go_num, by omega, ?_, ?_, (World.ownsMap.setCell HG6.out (a := ⟨w3.heap.size, 4, none⟩) (by dsimp only; omega) (.slice A6 (n + 1) c6)).mono (Nat.le_succ _), HB6.out.setCell (p := ⟨w3.heap.size, 4, none⟩) (by dsimp only; omega) (.slice A6 (n + 1) c6), ⟨HM6.out.1.set 4 (.slice A6 (n + 1) c6), HM6.out.2.1.far (p := ⟨w3.heap.size, 4, none⟩) (by dsimp only; omega) (.slice A6 (n + 1) c6), HM6.out.2.2.1.far (p := ⟨w3.heap.size, 4, none⟩) (by dsimp only; omega) (.slice A6 (n + 1) c6), HM6.out.2.2.2.1.far (p := ⟨w3.heap.size, 4, none⟩) (by dsimp only; omega) (.slice A6 (n + 1) c6), trivial⟩, ?_⟩
                  · show _ = _
                    rw [HFS.out, HKP.out, HN.out]
                    simp
                  · have h := ownsRow_set HO6.out (p := ⟨w3.heap.size, 4, none⟩) (by dsimp only; omega) (.slice A6 (n + 1) c6)
                    rw [show y.cells = edtK.cells y from rfl, RowK.flat_snoc] at h
                    rw [HFS.out, HKP.out]
                    simpa using h
                  · show _ ≤ _
                    have : (w7.setCell ⟨w3.heap.size, 4, none⟩ (.slice A6 (n + 1) c6)).heap.size = w7.heap.size := by simp [World.setCell]
                    omega
                case measure => simp [intOf]; omega
              ·
                have HS : Hid ((y.path == x.src) = true) := by
                  show _ = _
                  rw [← path_tl]
                  exact hs2
                have HKP : Hid (keepE x y = false) := by
                  show _ = _
                  unfold keepE ctrE; rw [HPF.out, x4a, x5a, y5a, HS.out]; rfl
                -- MARKC
                go_wp2_with (at_mapUpdate; go_loud (refine wpList_mapUpdate_own _ rfl _ _ _ 87 rfl 89 4 targ_keyed Tryz.underlying87 _ w5.heap.size k D rfl HOMY.out (by unfold maxLen; omega) _ _ kl rfl rfl hkey _ [] (plainElem_bool Tryz.underlying4 _) ?_); intro w7 hown1 hgrow1)
                -- MARKD
                have hs7 := hgrow1.size
                have HB7 := Lib.hid (HBY.out.grown hgrow1 HBY.out.size (fun j e => by cases e; omega))
                have HM7 := Lib.hid ((HMY.out.2).grown hgrow1 (fun z hz e => by
                  injection e with e
                  simp only [List.mem_cons, List.not_mem_nil, or_false] at hz
                  rcases hz with rfl | rfl | rfl | rfl <;> dsimp only at e <;> omega))
                have HO7 := Lib.hid (HOOY.out.kept hgrow1 (.inr (by intro e; have := (HOOY.out.lt _ e).1; omega)))
                go_roundw
                case rel =>
                  refine ⟨k + 1, O, n, c, _, by go_num, by omega, ?_, ?_, hown1, HB7.out, HM7.out, ?_⟩
                  · show _ = _
                    rw [HFS.out, HKP.out, HN.out]
                    simp
                  · rw [HFS.out, HKP.out]
                    simpa using HO7.out
                  · show _ ≤ _
                    omega
                case measure => simp [intOf]; omega
            ·
              have y5a : (y.act == 5) = false := by simpa using hy5
              have y5b : decide (y.act = 5) = false := by simpa using hy5
              have y5n : ¬ y.act = 5 := hy5
              have HKP : Hid (keepE x y = true) := by
                show _ = _
                unfold keepE ctrE; rw [HPF.out, x4a, x5a, y5a]; rfl
              -- MARKE
              go_wp2_with (at_builtin; go_loud (refine wpList_append_own _ rfl _ _ 39 rfl w6.heap.size 44 i0 zeroEdt.val 12 96 Tryz.underlying39 hi0 hz0 hz1 hz2 rfl (by decide) (.slice O n c) n (edtK.flat ((V.take k).filter (keepE x))) rfl (HOOY.out.alloc _) ⟨wy.heap.size, 0, none⟩ 1 1 y.cells rfl rfl HLT.out.1 HLT.out.2 (by unfold maxLen; omega) (by omega) (by simp; omega) ?_); intro v2 w7 ho6 hg6 _; obtain ⟨A6, c6, rfl⟩ := ownsRow_slice ho6; have hs6 := hg6.size; have hsa : (wy.alloc (.cells [.string y.path, .int .i64 y.act, .int .i64 y.ty.base, .bool y.ty.kw, .bool y.ty.ex, .bool y.ty.xe, .int .u64 y.con.sum, .int .i64 y.con.size, .int .i64 y.base, .string y.src, .int .i64 y.srcn, .int .i64 y.fence].toArray 44)).heap.size = wy.heap.size + 1 := (by simp); have HB6 := Lib.hid ((HBY.out.alloc HBY.out.size (.cells [.string y.path, .int .i64 y.act, .int .i64 y.ty.base, .bool y.ty.kw, .bool y.ty.ex, .bool y.ty.xe, .int .u64 y.con.sum, .int .i64 y.con.size, .int .i64 y.base, .string y.src, .int .i64 y.srcn, .int .i64 y.fence].toArray 44)).grown hg6 (by rw [hsa]; have := HBY.out.size; omega) (fun j e => by have := (HOOY.out.lt j e).1; omega)); have HM6 := Lib.hid ((Bs.alloc HMY.out.2 (.cells [.string y.path, .int .i64 y.act, .int .i64 y.ty.base, .bool y.ty.kw, .bool y.ty.ex, .bool y.ty.xe, .int .u64 y.con.sum, .int .i64 y.con.size, .int .i64 y.base, .string y.src, .int .i64 y.srcn, .int .i64 y.fence].toArray 44)).grown hg6 (fun z hz e => by
                  have h1 := (HOOY.out.lt _ e).1
                  simp only [List.mem_cons, List.not_mem_nil, or_false] at hz
                  rcases hz with rfl | rfl | rfl | rfl <;> dsimp only at h1 <;> omega)); have HG6 := Lib.hid ((HOMY.out.alloc (.cells [.string y.path, .int .i64 y.act, .int .i64 y.ty.base, .bool y.ty.kw, .bool y.ty.ex, .bool y.ty.xe, .int .u64 y.con.sum, .int .i64 y.con.size, .int .i64 y.base, .string y.src, .int .i64 y.srcn, .int .i64 y.fence].toArray 44)).kept hg6 (fun e => by have := (HOOY.out.lt _ e.symm).1; omega)); have HO6 := Lib.hid ho6; clear ho6 hg6 p4 g4; have p4 := HM6.out.1.cell 4; have g4 := HM6.out.1.fz 4; have lt7 := HM6.out.1.lt)
              -- MARKF
              go_roundw
              case rel =>
                refine ⟨k + 1, A6, n + 1, c6, D, by go_num, by omega, ?_, ?_, (World.ownsMap.setCell HG6.out (a := ⟨w3.heap.size, 4, none⟩) (by dsimp only; omega) (.slice A6 (n + 1) c6)).mono (Nat.le_succ _), HB6.out.setCell (p := ⟨w3.heap.size, 4, none⟩) (by dsimp only; omega) (.slice A6 (n + 1) c6), ⟨HM6.out.1.set 4 (.slice A6 (n + 1) c6), HM6.out.2.1.far (p := ⟨w3.heap.size, 4, none⟩) (by dsimp only; omega) (.slice A6 (n + 1) c6), HM6.out.2.2.1.far (p := ⟨w3.heap.size, 4, none⟩) (by dsimp only; omega) (.slice A6 (n + 1) c6), HM6.out.2.2.2.1.far (p := ⟨w3.heap.size, 4, none⟩) (by dsimp only; omega) (.slice A6 (n + 1) c6), trivial⟩, ?_⟩
                · show _ = _
                  rw [HFS.out, HKP.out, HN.out]
                  simp
                · have h := ownsRow_set HO6.out (p := ⟨w3.heap.size, 4, none⟩) (by dsimp only; omega) (.slice A6 (n + 1) c6)
                  rw [show y.cells = edtK.cells y from rfl, RowK.flat_snoc] at h
                  rw [HFS.out, HKP.out]
                  simpa using h
                · show _ ≤ _
                  have : (w7.setCell ⟨w3.heap.size, 4, none⟩ (.slice A6 (n + 1) c6)).heap.size = w7.heap.size := by simp [World.setCell]
                  omega
              case measure => simp [intOf]; omega
          · by_cases hx5 : x.act = 5
            ·
              have x4a : (x.act == 4) = false := by simpa using hx4
              have x4b : decide (x.act = 4) = false := by simpa using hx4
              have x4n : ¬ x.act = 4 := hx4
              have x5a : (x.act == 5) = true := by simpa using hx5
              have x5b : decide (x.act = 5) = true := by simpa using hx5
              have x5n : True := trivial
              clear hx5 x5n
              by_cases hy4 : y.act = 4
              ·
                have y4a : (y.act == 4) = true := by simpa using hy4
                have y4b : decide (y.act = 4) = true := by simpa using hy4
                have y4n : True := trivial
                clear hy4 y4n
                cases hs2 : (y.src.toList == s.toList)
                ·
                  have HS : Hid ((y.src == x.path) = false) := by
                    show _ = _
                    rw [← path_tl, HXS.out]
                    exact hs2
                  have HKP : Hid (keepE x y = true) := by
                    show _ = _
                    unfold keepE ctrE; rw [HPF.out, x4a, x5a, y4a, HS.out]; rfl
                  -- MARKE
                  go_wp2_with (at_builtin; go_loud (refine wpList_append_own _ rfl _ _ 39 rfl w6.heap.size 44 i0 zeroEdt.val 12 96 Tryz.underlying39 hi0 hz0 hz1 hz2 rfl (by decide) (.slice O n c) n (edtK.flat ((V.take k).filter (keepE x))) rfl (HOOY.out.alloc _) ⟨wy.heap.size, 0, none⟩ 1 1 y.cells rfl rfl HLT.out.1 HLT.out.2 (by unfold maxLen; omega) (by omega) (by simp; omega) ?_); intro v2 w7 ho6 hg6 _; obtain ⟨A6, c6, rfl⟩ := ownsRow_slice ho6; have hs6 := hg6.size; have hsa : (wy.alloc (.cells [.string y.path, .int .i64 y.act, .int .i64 y.ty.base, .bool y.ty.kw, .bool y.ty.ex, .bool y.ty.xe, .int .u64 y.con.sum, .int .i64 y.con.size, .int .i64 y.base, .string y.src, .int .i64 y.srcn, .int .i64 y.fence].toArray 44)).heap.size = wy.heap.size + 1 := (by simp); have HB6 := Lib.hid ((HBY.out.alloc HBY.out.size (.cells [.string y.path, .int .i64 y.act, .int .i64 y.ty.base, .bool y.ty.kw, .bool y.ty.ex, .bool y.ty.xe, .int .u64 y.con.sum, .int .i64 y.con.size, .int .i64 y.base, .string y.src, .int .i64 y.srcn, .int .i64 y.fence].toArray 44)).grown hg6 (by rw [hsa]; have := HBY.out.size; omega) (fun j e => by have := (HOOY.out.lt j e).1; omega)); have HM6 := Lib.hid ((Bs.alloc HMY.out.2 (.cells [.string y.path, .int .i64 y.act, .int .i64 y.ty.base, .bool y.ty.kw, .bool y.ty.ex, .bool y.ty.xe, .int .u64 y.con.sum, .int .i64 y.con.size, .int .i64 y.base, .string y.src, .int .i64 y.srcn, .int .i64 y.fence].toArray 44)).grown hg6 (fun z hz e => by
                      have h1 := (HOOY.out.lt _ e).1
                      simp only [List.mem_cons, List.not_mem_nil, or_false] at hz
                      rcases hz with rfl | rfl | rfl | rfl <;> dsimp only at h1 <;> omega)); have HG6 := Lib.hid ((HOMY.out.alloc (.cells [.string y.path, .int .i64 y.act, .int .i64 y.ty.base, .bool y.ty.kw, .bool y.ty.ex, .bool y.ty.xe, .int .u64 y.con.sum, .int .i64 y.con.size, .int .i64 y.base, .string y.src, .int .i64 y.srcn, .int .i64 y.fence].toArray 44)).kept hg6 (fun e => by have := (HOOY.out.lt _ e.symm).1; omega)); have HO6 := Lib.hid ho6; clear ho6 hg6 p4 g4; have p4 := HM6.out.1.cell 4; have g4 := HM6.out.1.fz 4; have lt7 := HM6.out.1.lt)
                  -- MARKF
                  go_roundw
                  case rel =>
                    refine ⟨k + 1, A6, n + 1, c6, D, by go_num, by omega, ?_, ?_, (World.ownsMap.setCell HG6.out (a := ⟨w3.heap.size, 4, none⟩) (by dsimp only; omega) (.slice A6 (n + 1) c6)).mono (Nat.le_succ _), HB6.out.setCell (p := ⟨w3.heap.size, 4, none⟩) (by dsimp only; omega) (.slice A6 (n + 1) c6), ⟨HM6.out.1.set 4 (.slice A6 (n + 1) c6), HM6.out.2.1.far (p := ⟨w3.heap.size, 4, none⟩) (by dsimp only; omega) (.slice A6 (n + 1) c6), HM6.out.2.2.1.far (p := ⟨w3.heap.size, 4, none⟩) (by dsimp only; omega) (.slice A6 (n + 1) c6), HM6.out.2.2.2.1.far (p := ⟨w3.heap.size, 4, none⟩) (by dsimp only; omega) (.slice A6 (n + 1) c6), trivial⟩, ?_⟩
                    · show _ = _
                      rw [HFS.out, HKP.out, HN.out]
                      simp
                    · have h := ownsRow_set HO6.out (p := ⟨w3.heap.size, 4, none⟩) (by dsimp only; omega) (.slice A6 (n + 1) c6)
                      rw [show y.cells = edtK.cells y from rfl, RowK.flat_snoc] at h
                      rw [HFS.out, HKP.out]
                      simpa using h
                    · show _ ≤ _
                      have : (w7.setCell ⟨w3.heap.size, 4, none⟩ (.slice A6 (n + 1) c6)).heap.size = w7.heap.size := by simp [World.setCell]
                      omega
                  case measure => simp [intOf]; omega
                ·
                  have HS : Hid ((y.src == x.path) = true) := by
                    show _ = _
                    rw [← path_tl, HXS.out]
                    exact hs2
                  have HKP : Hid (keepE x y = false) := by
                    show _ = _
                    unfold keepE ctrE; rw [HPF.out, x4a, x5a, y4a, HS.out]; rfl
                  -- MARKC
                  go_wp2_with (at_mapUpdate; go_loud (refine wpList_mapUpdate_own _ rfl _ _ _ 87 rfl 89 4 targ_keyed Tryz.underlying87 _ w5.heap.size k D rfl HOMY.out (by unfold maxLen; omega) _ _ kl rfl rfl hkey _ [] (plainElem_bool Tryz.underlying4 _) ?_); intro w7 hown1 hgrow1)
                  -- MARKD
                  have hs7 := hgrow1.size
                  have HB7 := Lib.hid (HBY.out.grown hgrow1 HBY.out.size (fun j e => by cases e; omega))
                  have HM7 := Lib.hid ((HMY.out.2).grown hgrow1 (fun z hz e => by
                    injection e with e
                    simp only [List.mem_cons, List.not_mem_nil, or_false] at hz
                    rcases hz with rfl | rfl | rfl | rfl <;> dsimp only at e <;> omega))
                  have HO7 := Lib.hid (HOOY.out.kept hgrow1 (.inr (by intro e; have := (HOOY.out.lt _ e).1; omega)))
                  go_roundw
                  case rel =>
                    refine ⟨k + 1, O, n, c, _, by go_num, by omega, ?_, ?_, hown1, HB7.out, HM7.out, ?_⟩
                    · show _ = _
                      rw [HFS.out, HKP.out, HN.out]
                      simp
                    · rw [HFS.out, HKP.out]
                      simpa using HO7.out
                    · show _ ≤ _
                      omega
                  case measure => simp [intOf]; omega
              ·
                have y4a : (y.act == 4) = false := by simpa using hy4
                have y4b : decide (y.act = 4) = false := by simpa using hy4
                have y4n : ¬ y.act = 4 := hy4
                have HKP : Hid (keepE x y = true) := by
                  show _ = _
                  unfold keepE ctrE; rw [HPF.out, x4a, x5a, y4a]; rfl
                -- MARKE
                go_wp2_with (at_builtin; go_loud (refine wpList_append_own _ rfl _ _ 39 rfl w6.heap.size 44 i0 zeroEdt.val 12 96 Tryz.underlying39 hi0 hz0 hz1 hz2 rfl (by decide) (.slice O n c) n (edtK.flat ((V.take k).filter (keepE x))) rfl (HOOY.out.alloc _) ⟨wy.heap.size, 0, none⟩ 1 1 y.cells rfl rfl HLT.out.1 HLT.out.2 (by unfold maxLen; omega) (by omega) (by simp; omega) ?_); intro v2 w7 ho6 hg6 _; obtain ⟨A6, c6, rfl⟩ := ownsRow_slice ho6; have hs6 := hg6.size; have hsa : (wy.alloc (.cells [.string y.path, .int .i64 y.act, .int .i64 y.ty.base, .bool y.ty.kw, .bool y.ty.ex, .bool y.ty.xe, .int .u64 y.con.sum, .int .i64 y.con.size, .int .i64 y.base, .string y.src, .int .i64 y.srcn, .int .i64 y.fence].toArray 44)).heap.size = wy.heap.size + 1 := (by simp); have HB6 := Lib.hid ((HBY.out.alloc HBY.out.size (.cells [.string y.path, .int .i64 y.act, .int .i64 y.ty.base, .bool y.ty.kw, .bool y.ty.ex, .bool y.ty.xe, .int .u64 y.con.sum, .int .i64 y.con.size, .int .i64 y.base, .string y.src, .int .i64 y.srcn, .int .i64 y.fence].toArray 44)).grown hg6 (by rw [hsa]; have := HBY.out.size; omega) (fun j e => by have := (HOOY.out.lt j e).1; omega)); have HM6 := Lib.hid ((Bs.alloc HMY.out.2 (.cells [.string y.path, .int .i64 y.act, .int .i64 y.ty.base, .bool y.ty.kw, .bool y.ty.ex, .bool y.ty.xe, .int .u64 y.con.sum, .int .i64 y.con.size, .int .i64 y.base, .string y.src, .int .i64 y.srcn, .int .i64 y.fence].toArray 44)).grown hg6 (fun z hz e => by
                    have h1 := (HOOY.out.lt _ e).1
                    simp only [List.mem_cons, List.not_mem_nil, or_false] at hz
                    rcases hz with rfl | rfl | rfl | rfl <;> dsimp only at h1 <;> omega)); have HG6 := Lib.hid ((HOMY.out.alloc (.cells [.string y.path, .int .i64 y.act, .int .i64 y.ty.base, .bool y.ty.kw, .bool y.ty.ex, .bool y.ty.xe, .int .u64 y.con.sum, .int .i64 y.con.size, .int .i64 y.base, .string y.src, .int .i64 y.srcn, .int .i64 y.fence].toArray 44)).kept hg6 (fun e => by have := (HOOY.out.lt _ e.symm).1; omega)); have HO6 := Lib.hid ho6; clear ho6 hg6 p4 g4; have p4 := HM6.out.1.cell 4; have g4 := HM6.out.1.fz 4; have lt7 := HM6.out.1.lt)
                -- MARKF
                go_roundw
                case rel =>
                  refine ⟨k + 1, A6, n + 1, c6, D, by go_num, by omega, ?_, ?_, (World.ownsMap.setCell HG6.out (a := ⟨w3.heap.size, 4, none⟩) (by dsimp only; omega) (.slice A6 (n + 1) c6)).mono (Nat.le_succ _), HB6.out.setCell (p := ⟨w3.heap.size, 4, none⟩) (by dsimp only; omega) (.slice A6 (n + 1) c6), ⟨HM6.out.1.set 4 (.slice A6 (n + 1) c6), HM6.out.2.1.far (p := ⟨w3.heap.size, 4, none⟩) (by dsimp only; omega) (.slice A6 (n + 1) c6), HM6.out.2.2.1.far (p := ⟨w3.heap.size, 4, none⟩) (by dsimp only; omega) (.slice A6 (n + 1) c6), HM6.out.2.2.2.1.far (p := ⟨w3.heap.size, 4, none⟩) (by dsimp only; omega) (.slice A6 (n + 1) c6), trivial⟩, ?_⟩
                  · show _ = _
                    rw [HFS.out, HKP.out, HN.out]
                    simp
                  · have h := ownsRow_set HO6.out (p := ⟨w3.heap.size, 4, none⟩) (by dsimp only; omega) (.slice A6 (n + 1) c6)
                    rw [show y.cells = edtK.cells y from rfl, RowK.flat_snoc] at h
                    rw [HFS.out, HKP.out]
                    simpa using h
                  · show _ ≤ _
                    have : (w7.setCell ⟨w3.heap.size, 4, none⟩ (.slice A6 (n + 1) c6)).heap.size = w7.heap.size := by simp [World.setCell]
                    omega
                case measure => simp [intOf]; omega
            ·
              have x4a : (x.act == 4) = false := by simpa using hx4
              have x4b : decide (x.act = 4) = false := by simpa using hx4
              have x4n : ¬ x.act = 4 := hx4
              have x5a : (x.act == 5) = false := by simpa using hx5
              have x5b : decide (x.act = 5) = false := by simpa using hx5
              have x5n : ¬ x.act = 5 := hx5
              have HKP : Hid (keepE x y = true) := by
                show _ = _
                unfold keepE ctrE; rw [HPF.out, x4a, x5a]; rfl
              -- MARKE
              go_wp2_with (at_builtin; go_loud (refine wpList_append_own _ rfl _ _ 39 rfl w6.heap.size 44 i0 zeroEdt.val 12 96 Tryz.underlying39 hi0 hz0 hz1 hz2 rfl (by decide) (.slice O n c) n (edtK.flat ((V.take k).filter (keepE x))) rfl (HOOY.out.alloc _) ⟨wy.heap.size, 0, none⟩ 1 1 y.cells rfl rfl HLT.out.1 HLT.out.2 (by unfold maxLen; omega) (by omega) (by simp; omega) ?_); intro v2 w7 ho6 hg6 _; obtain ⟨A6, c6, rfl⟩ := ownsRow_slice ho6; have hs6 := hg6.size; have hsa : (wy.alloc (.cells [.string y.path, .int .i64 y.act, .int .i64 y.ty.base, .bool y.ty.kw, .bool y.ty.ex, .bool y.ty.xe, .int .u64 y.con.sum, .int .i64 y.con.size, .int .i64 y.base, .string y.src, .int .i64 y.srcn, .int .i64 y.fence].toArray 44)).heap.size = wy.heap.size + 1 := (by simp); have HB6 := Lib.hid ((HBY.out.alloc HBY.out.size (.cells [.string y.path, .int .i64 y.act, .int .i64 y.ty.base, .bool y.ty.kw, .bool y.ty.ex, .bool y.ty.xe, .int .u64 y.con.sum, .int .i64 y.con.size, .int .i64 y.base, .string y.src, .int .i64 y.srcn, .int .i64 y.fence].toArray 44)).grown hg6 (by rw [hsa]; have := HBY.out.size; omega) (fun j e => by have := (HOOY.out.lt j e).1; omega)); have HM6 := Lib.hid ((Bs.alloc HMY.out.2 (.cells [.string y.path, .int .i64 y.act, .int .i64 y.ty.base, .bool y.ty.kw, .bool y.ty.ex, .bool y.ty.xe, .int .u64 y.con.sum, .int .i64 y.con.size, .int .i64 y.base, .string y.src, .int .i64 y.srcn, .int .i64 y.fence].toArray 44)).grown hg6 (fun z hz e => by
                  have h1 := (HOOY.out.lt _ e).1
                  simp only [List.mem_cons, List.not_mem_nil, or_false] at hz
                  rcases hz with rfl | rfl | rfl | rfl <;> dsimp only at h1 <;> omega)); have HG6 := Lib.hid ((HOMY.out.alloc (.cells [.string y.path, .int .i64 y.act, .int .i64 y.ty.base, .bool y.ty.kw, .bool y.ty.ex, .bool y.ty.xe, .int .u64 y.con.sum, .int .i64 y.con.size, .int .i64 y.base, .string y.src, .int .i64 y.srcn, .int .i64 y.fence].toArray 44)).kept hg6 (fun e => by have := (HOOY.out.lt _ e.symm).1; omega)); have HO6 := Lib.hid ho6; clear ho6 hg6 p4 g4; have p4 := HM6.out.1.cell 4; have g4 := HM6.out.1.fz 4; have lt7 := HM6.out.1.lt)
              -- MARKF
              go_roundw
              case rel =>
                refine ⟨k + 1, A6, n + 1, c6, D, by go_num, by omega, ?_, ?_, (World.ownsMap.setCell HG6.out (a := ⟨w3.heap.size, 4, none⟩) (by dsimp only; omega) (.slice A6 (n + 1) c6)).mono (Nat.le_succ _), HB6.out.setCell (p := ⟨w3.heap.size, 4, none⟩) (by dsimp only; omega) (.slice A6 (n + 1) c6), ⟨HM6.out.1.set 4 (.slice A6 (n + 1) c6), HM6.out.2.1.far (p := ⟨w3.heap.size, 4, none⟩) (by dsimp only; omega) (.slice A6 (n + 1) c6), HM6.out.2.2.1.far (p := ⟨w3.heap.size, 4, none⟩) (by dsimp only; omega) (.slice A6 (n + 1) c6), HM6.out.2.2.2.1.far (p := ⟨w3.heap.size, 4, none⟩) (by dsimp only; omega) (.slice A6 (n + 1) c6), trivial⟩, ?_⟩
                · show _ = _
                  rw [HFS.out, HKP.out, HN.out]
                  simp
                · have h := ownsRow_set HO6.out (p := ⟨w3.heap.size, 4, none⟩) (by dsimp only; omega) (.slice A6 (n + 1) c6)
                  rw [show y.cells = edtK.cells y from rfl, RowK.flat_snoc] at h
                  rw [HFS.out, HKP.out]
                  simpa using h
                · show _ ≤ _
                  have : (w7.setCell ⟨w3.heap.size, 4, none⟩ (.slice A6 (n + 1) c6)).heap.size = w7.heap.size := by simp [World.setCell]
                  omega
              case measure => simp [intOf]; omega
        case true =>
          have HPF : Hid ((y.path == x.path) = true) := by
            show _ = _
            rw [← path_tl, HXS.out]
            exact hps
          by_cases hx4 : x.act = 4
          · have hx5 : ¬ x.act = 5 := by omega
            have x4a : (x.act == 4) = true := by simpa using hx4
            have x4b : decide (x.act = 4) = true := by simpa using hx4
            have x4n : True := trivial
            have x5a : (x.act == 5) = false := by simpa using hx5
            have x5b : decide (x.act = 5) = false := by simpa using hx5
            have x5n : ¬ x.act = 5 := hx5
            have HX4 := Lib.hid hx4
            clear hx4 x4n
            by_cases hy5 : y.act = 5
            ·
              have y5a : (y.act == 5) = true := by simpa using hy5
              have y5b : decide (y.act = 5) = true := by simpa using hy5
              have y5n : True := trivial
              clear hy5 y5n
              cases hs2 : (y.path.toList == x.src.toList)
              ·
                have HS : Hid ((y.path == x.src) = false) := by
                  show _ = _
                  rw [← path_tl]
                  exact hs2
                have HKP : Hid (keepE x y = false) := by
                  show _ = _
                  unfold keepE; rw [HPF.out]; rfl
                -- MARKC
                go_wp2_with (at_mapUpdate; go_loud (refine wpList_mapUpdate_own _ rfl _ _ _ 87 rfl 89 4 targ_keyed Tryz.underlying87 _ w5.heap.size k D rfl HOMY.out (by unfold maxLen; omega) _ _ kl rfl rfl hkey _ [] (plainElem_bool Tryz.underlying4 _) ?_); intro w7 hown1 hgrow1)
                -- MARKD
                have hs7 := hgrow1.size
                have HB7 := Lib.hid (HBY.out.grown hgrow1 HBY.out.size (fun j e => by cases e; omega))
                have HM7 := Lib.hid ((HMY.out.2).grown hgrow1 (fun z hz e => by
                  injection e with e
                  simp only [List.mem_cons, List.not_mem_nil, or_false] at hz
                  rcases hz with rfl | rfl | rfl | rfl <;> dsimp only at e <;> omega))
                have HO7 := Lib.hid (HOOY.out.kept hgrow1 (.inr (by intro e; have := (HOOY.out.lt _ e).1; omega)))
                go_roundw
                case rel =>
                  refine ⟨k + 1, O, n, c, _, by go_num, by omega, ?_, ?_, hown1, HB7.out, HM7.out, ?_⟩
                  · show _ = _
                    rw [HFS.out, HKP.out, HN.out]
                    simp
                  · rw [HFS.out, HKP.out]
                    simpa using HO7.out
                  · show _ ≤ _
                    omega
                case measure => simp [intOf]; omega
              ·
                have HS : Hid ((y.path == x.src) = true) := by
                  show _ = _
                  rw [← path_tl]
                  exact hs2
                have HKP : Hid (keepE x y = false) := by
                  show _ = _
                  unfold keepE; rw [HPF.out]; rfl
                -- MARKC
                go_wp2_with (at_mapUpdate; go_loud (refine wpList_mapUpdate_own _ rfl _ _ _ 87 rfl 89 4 targ_keyed Tryz.underlying87 _ w5.heap.size k D rfl HOMY.out (by unfold maxLen; omega) _ _ kl rfl rfl hkey _ [] (plainElem_bool Tryz.underlying4 _) ?_); intro w7 hown1 hgrow1)
                -- MARKD
                have hs7 := hgrow1.size
                have HB7 := Lib.hid (HBY.out.grown hgrow1 HBY.out.size (fun j e => by cases e; omega))
                have HM7 := Lib.hid ((HMY.out.2).grown hgrow1 (fun z hz e => by
                  injection e with e
                  simp only [List.mem_cons, List.not_mem_nil, or_false] at hz
                  rcases hz with rfl | rfl | rfl | rfl <;> dsimp only at e <;> omega))
                have HO7 := Lib.hid (HOOY.out.kept hgrow1 (.inr (by intro e; have := (HOOY.out.lt _ e).1; omega)))
                go_roundw
                case rel =>
                  refine ⟨k + 1, O, n, c, _, by go_num, by omega, ?_, ?_, hown1, HB7.out, HM7.out, ?_⟩
                  · show _ = _
                    rw [HFS.out, HKP.out, HN.out]
                    simp
                  · rw [HFS.out, HKP.out]
                    simpa using HO7.out
                  · show _ ≤ _
                    omega
                case measure => simp [intOf]; omega
            ·
              have y5a : (y.act == 5) = false := by simpa using hy5
              have y5b : decide (y.act = 5) = false := by simpa using hy5
              have y5n : ¬ y.act = 5 := hy5
              have HKP : Hid (keepE x y = false) := by
                show _ = _
                unfold keepE; rw [HPF.out]; rfl
              -- MARKC
              go_wp2_with (at_mapUpdate; go_loud (refine wpList_mapUpdate_own _ rfl _ _ _ 87 rfl 89 4 targ_keyed Tryz.underlying87 _ w5.heap.size k D rfl HOMY.out (by unfold maxLen; omega) _ _ kl rfl rfl hkey _ [] (plainElem_bool Tryz.underlying4 _) ?_); intro w7 hown1 hgrow1)
              -- MARKD
              have hs7 := hgrow1.size
              have HB7 := Lib.hid (HBY.out.grown hgrow1 HBY.out.size (fun j e => by cases e; omega))
              have HM7 := Lib.hid ((HMY.out.2).grown hgrow1 (fun z hz e => by
                injection e with e
                simp only [List.mem_cons, List.not_mem_nil, or_false] at hz
                rcases hz with rfl | rfl | rfl | rfl <;> dsimp only at e <;> omega))
              have HO7 := Lib.hid (HOOY.out.kept hgrow1 (.inr (by intro e; have := (HOOY.out.lt _ e).1; omega)))
              go_roundw
              case rel =>
                refine ⟨k + 1, O, n, c, _, by go_num, by omega, ?_, ?_, hown1, HB7.out, HM7.out, ?_⟩
                · show _ = _
                  rw [HFS.out, HKP.out, HN.out]
                  simp
                · rw [HFS.out, HKP.out]
                  simpa using HO7.out
                · show _ ≤ _
                  omega
              case measure => simp [intOf]; omega
          · by_cases hx5 : x.act = 5
            ·
              have x4a : (x.act == 4) = false := by simpa using hx4
              have x4b : decide (x.act = 4) = false := by simpa using hx4
              have x4n : ¬ x.act = 4 := hx4
              have x5a : (x.act == 5) = true := by simpa using hx5
              have x5b : decide (x.act = 5) = true := by simpa using hx5
              have x5n : True := trivial
              clear hx5 x5n
              by_cases hy4 : y.act = 4
              ·
                have y4a : (y.act == 4) = true := by simpa using hy4
                have y4b : decide (y.act = 4) = true := by simpa using hy4
                have y4n : True := trivial
                clear hy4 y4n
                cases hs2 : (y.src.toList == s.toList)
                ·
                  have HS : Hid ((y.src == x.path) = false) := by
                    show _ = _
                    rw [← path_tl, HXS.out]
                    exact hs2
                  have HKP : Hid (keepE x y = false) := by
                    show _ = _
                    unfold keepE; rw [HPF.out]; rfl
                  -- MARKC
                  go_wp2_with (at_mapUpdate; go_loud (refine wpList_mapUpdate_own _ rfl _ _ _ 87 rfl 89 4 targ_keyed Tryz.underlying87 _ w5.heap.size k D rfl HOMY.out (by unfold maxLen; omega) _ _ kl rfl rfl hkey _ [] (plainElem_bool Tryz.underlying4 _) ?_); intro w7 hown1 hgrow1)
                  -- MARKD
                  have hs7 := hgrow1.size
                  have HB7 := Lib.hid (HBY.out.grown hgrow1 HBY.out.size (fun j e => by cases e; omega))
                  have HM7 := Lib.hid ((HMY.out.2).grown hgrow1 (fun z hz e => by
                    injection e with e
                    simp only [List.mem_cons, List.not_mem_nil, or_false] at hz
                    rcases hz with rfl | rfl | rfl | rfl <;> dsimp only at e <;> omega))
                  have HO7 := Lib.hid (HOOY.out.kept hgrow1 (.inr (by intro e; have := (HOOY.out.lt _ e).1; omega)))
                  go_roundw
                  case rel =>
                    refine ⟨k + 1, O, n, c, _, by go_num, by omega, ?_, ?_, hown1, HB7.out, HM7.out, ?_⟩
                    · show _ = _
                      rw [HFS.out, HKP.out, HN.out]
                      simp
                    · rw [HFS.out, HKP.out]
                      simpa using HO7.out
                    · show _ ≤ _
                      omega
                  case measure => simp [intOf]; omega
                ·
                  have HS : Hid ((y.src == x.path) = true) := by
                    show _ = _
                    rw [← path_tl, HXS.out]
                    exact hs2
                  have HKP : Hid (keepE x y = false) := by
                    show _ = _
                    unfold keepE; rw [HPF.out]; rfl
                  -- MARKC
                  go_wp2_with (at_mapUpdate; go_loud (refine wpList_mapUpdate_own _ rfl _ _ _ 87 rfl 89 4 targ_keyed Tryz.underlying87 _ w5.heap.size k D rfl HOMY.out (by unfold maxLen; omega) _ _ kl rfl rfl hkey _ [] (plainElem_bool Tryz.underlying4 _) ?_); intro w7 hown1 hgrow1)
                  -- MARKD
                  have hs7 := hgrow1.size
                  have HB7 := Lib.hid (HBY.out.grown hgrow1 HBY.out.size (fun j e => by cases e; omega))
                  have HM7 := Lib.hid ((HMY.out.2).grown hgrow1 (fun z hz e => by
                    injection e with e
                    simp only [List.mem_cons, List.not_mem_nil, or_false] at hz
                    rcases hz with rfl | rfl | rfl | rfl <;> dsimp only at e <;> omega))
                  have HO7 := Lib.hid (HOOY.out.kept hgrow1 (.inr (by intro e; have := (HOOY.out.lt _ e).1; omega)))
                  go_roundw
                  case rel =>
                    refine ⟨k + 1, O, n, c, _, by go_num, by omega, ?_, ?_, hown1, HB7.out, HM7.out, ?_⟩
                    · show _ = _
                      rw [HFS.out, HKP.out, HN.out]
                      simp
                    · rw [HFS.out, HKP.out]
                      simpa using HO7.out
                    · show _ ≤ _
                      omega
                  case measure => simp [intOf]; omega
              ·
                have y4a : (y.act == 4) = false := by simpa using hy4
                have y4b : decide (y.act = 4) = false := by simpa using hy4
                have y4n : ¬ y.act = 4 := hy4
                have HKP : Hid (keepE x y = false) := by
                  show _ = _
                  unfold keepE; rw [HPF.out]; rfl
                -- MARKC
                go_wp2_with (at_mapUpdate; go_loud (refine wpList_mapUpdate_own _ rfl _ _ _ 87 rfl 89 4 targ_keyed Tryz.underlying87 _ w5.heap.size k D rfl HOMY.out (by unfold maxLen; omega) _ _ kl rfl rfl hkey _ [] (plainElem_bool Tryz.underlying4 _) ?_); intro w7 hown1 hgrow1)
                -- MARKD
                have hs7 := hgrow1.size
                have HB7 := Lib.hid (HBY.out.grown hgrow1 HBY.out.size (fun j e => by cases e; omega))
                have HM7 := Lib.hid ((HMY.out.2).grown hgrow1 (fun z hz e => by
                  injection e with e
                  simp only [List.mem_cons, List.not_mem_nil, or_false] at hz
                  rcases hz with rfl | rfl | rfl | rfl <;> dsimp only at e <;> omega))
                have HO7 := Lib.hid (HOOY.out.kept hgrow1 (.inr (by intro e; have := (HOOY.out.lt _ e).1; omega)))
                go_roundw
                case rel =>
                  refine ⟨k + 1, O, n, c, _, by go_num, by omega, ?_, ?_, hown1, HB7.out, HM7.out, ?_⟩
                  · show _ = _
                    rw [HFS.out, HKP.out, HN.out]
                    simp
                  · rw [HFS.out, HKP.out]
                    simpa using HO7.out
                  · show _ ≤ _
                    omega
                case measure => simp [intOf]; omega
            ·
              have x4a : (x.act == 4) = false := by simpa using hx4
              have x4b : decide (x.act = 4) = false := by simpa using hx4
              have x4n : ¬ x.act = 4 := hx4
              have x5a : (x.act == 5) = false := by simpa using hx5
              have x5b : decide (x.act = 5) = false := by simpa using hx5
              have x5n : ¬ x.act = 5 := hx5
              have HKP : Hid (keepE x y = false) := by
                show _ = _
                unfold keepE; rw [HPF.out]; rfl
              -- MARKC
              go_wp2_with (at_mapUpdate; go_loud (refine wpList_mapUpdate_own _ rfl _ _ _ 87 rfl 89 4 targ_keyed Tryz.underlying87 _ w5.heap.size k D rfl HOMY.out (by unfold maxLen; omega) _ _ kl rfl rfl hkey _ [] (plainElem_bool Tryz.underlying4 _) ?_); intro w7 hown1 hgrow1)
              -- MARKD
              have hs7 := hgrow1.size
              have HB7 := Lib.hid (HBY.out.grown hgrow1 HBY.out.size (fun j e => by cases e; omega))
              have HM7 := Lib.hid ((HMY.out.2).grown hgrow1 (fun z hz e => by
                injection e with e
                simp only [List.mem_cons, List.not_mem_nil, or_false] at hz
                rcases hz with rfl | rfl | rfl | rfl <;> dsimp only at e <;> omega))
              have HO7 := Lib.hid (HOOY.out.kept hgrow1 (.inr (by intro e; have := (HOOY.out.lt _ e).1; omega)))
              go_roundw
              case rel =>
                refine ⟨k + 1, O, n, c, _, by go_num, by omega, ?_, ?_, hown1, HB7.out, HM7.out, ?_⟩
                · show _ = _
                  rw [HFS.out, HKP.out, HN.out]
                  simp
                · rw [HFS.out, HKP.out]
                  simpa using HO7.out
                · show _ ≤ _
                  omega
              case measure => simp [intOf]; omega
      · obtain rfl : k = V.length := by omega
        obtain ⟨p0, p1, p2, p3, p4, p5⟩ := HM.out.2.2.2.1.c6
        go_wp2_with fail
        clear p0 p1 p2 p3 p4 p5
        obtain ⟨wo, hwo⟩ : ∃ y, y = wr := ⟨_, rfl⟩
        go_loopw [97] (fun i wx => i = .int .i64 0 ∧ wx = wo) (fun _ _ => 0)
        case atStart => exact ⟨rfl, hwo.symm⟩
        case round =>
          obtain ⟨rfl, rfl⟩ := hrel
          subst hwo
          obtain ⟨p0, p1, p2, p3, p4, p5⟩ := HM.out.1.c6
          obtain ⟨z0, z1, z2, z3, z4, z5⟩ := HM.out.2.2.1.c6
          have f0 := HM.out.2.2.1.fz 0
          have f1 := HM.out.2.2.1.fz 1
          have f2 := HM.out.2.2.1.fz 2
          have f3 := HM.out.2.2.1.fz 3
          have f4 := HM.out.2.2.1.fz 4
          have f5 := HM.out.2.2.1.fz 5
          go_wp2_with fail
          have KZ := Lib.hid (zero_put HM.out.2.2.1 (.int .i64 pn) (.string pc) (.string pt) (.bool ps) (.slice O n c) (.slice none 0 0))
          have HBZ := Lib.hid (below_put6 HB.out (b := w.heap.size + 1) (by omega) (.int .i64 pn) (.string pc) (.string pt) (.bool ps) (.slice O n c) (.slice none 0 0))
          have HOZ := Lib.hid (own_put6 HOO.out (b := w.heap.size + 1) (by intro e; have := HOO.out.lt _ e; omega) (.int .i64 pn) (.string pc) (.string pt) (.bool ps) (.slice O n c) (.slice none 0 0))
          (generalize World.setCell (World.setCell (World.setCell (World.setCell (World.setCell (World.setCell _ _ _) _ _) _ _) _ _) _ _) _ _ = wz at *)
          obtain ⟨y0, y1, y2, y3, y4, y5⟩ := KZ.out.c6
          refine bodyPost_ret (v := .tuple #[.agg #[.int .i64 pn, .string pc, .string pt, .bool ps, .slice O n c, .slice none 0 0], .int .i64 0]) (by simp [results, Tryz.results12, go_sem, y0, y1, y2, y3, y4, y5]) rfl ?_
          have hn := HN.out
          have ho := HOZ.out
          rw [List.take_length] at hn ho
          subst hn
          exact PRet.yes HQ1.out ho HBZ.out (by omega)
end Go.Proofs.YtocffknoeknabaaGreatDoor
