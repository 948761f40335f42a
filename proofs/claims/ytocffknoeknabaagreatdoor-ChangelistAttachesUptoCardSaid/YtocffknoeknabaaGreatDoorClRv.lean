/-
  The walk of the reference's Revert (printed by mkrrev.py).
-/
import Derived.Test.YtocffknoeknabaaGreatDoorClF
import Derived.Test.YtocffknoeknabaaGreatDoorCgE
namespace Go.Proofs.YtocffknoeknabaaGreatDoor
open Go.RowKit

set_option maxRecDepth 100000 in
set_option maxHeartbeats 12800000 in
theorem rrev_any (p : Pnd) (s : ByteArray) (E R : Option Addr) (ec rc : Nat) (w : World) (hE : edtK.In E p.edits w) (hok : EOk p.edits) :
    Calls Tryz.prog 73 #[pndV p E ec R rc, .string s] w (PRet (revP p s) w) := by
  have HIE := Lib.hid hE
  have HOK := Lib.hid hok
  have hlen := hok.len
  obtain ⟨i0, hi0, hz0, hz1, hz2⟩ := info_parts Tryz.infoEdit
  obtain ⟨q, hq⟩ : ∃ q, revP p s = q := ⟨_, rfl⟩
  rw [hq]
  have HQ := Lib.hid hq
  have HFI := Lib.hid (fun w h => find_any p s E R ec rc w h hok.srt (by omega))
  clear hE hok hq
  obtain ⟨pn, pc, pt, ps, V⟩ := p
  unfold pndV pndC at *
  dsimp only at *
  go_enter Tryz.func73, Tryz.ntmps73
  go_upto_region 1 with fail
  generalize hw1 : World.alloc _ (.cells #[.int .i64 0, .string ⟨#[]⟩, .string ⟨#[]⟩, .bool false, .slice none 0 0, .slice none 0 0] 41) = w1
  have HM1 : Hid (Bs [(w.heap.size + 1, 41, [.int .i64 0, .string ⟨#[]⟩, .string ⟨#[]⟩, .bool false, .slice none 0 0, .slice none 0 0]), (w.heap.size, 41, [.int .i64 pn, .string pc, .string pt, .bool ps, .slice E V.length ec, .slice R 0 rc])] w1) := by
    show Bs _ _
    rw [← hw1]
    exact ⟨Blk.new1 _ _ _ _, (Blk.new _ _ _).alloc _, trivial⟩
  have HB1 : Hid (Below w.heap.size w w1) := by
    show Below _ _ _
    rw [← hw1]
    (repeat (first | (with_reducible exact Below.refl _ _) | (with_reducible assumption) | (with_reducible refine Below.setCell ?_ ?_ _; rotate_left; focus (first | exact Nat.le_refl _ | (dsimp only; omega))) | (with_reducible refine Below.drew ?_) | (with_reducible refine below_drewN ?_ _) | (with_reducible refine Below.alloc ?_ ?_ _; rotate_left; focus (first | exact Nat.le_refl _ | (simp; done) | (simp; omega)))))
  clear hw1
  obtain ⟨p0, p1, p2, p3, p4, p5⟩ := HM1.out.2.1.c6
  go_wp2_with fail
  refine (HFI.out _ (HIE.out.below HB1.out)).mono ?_
  rintro e w2 ⟨rfl, hb2⟩
  have HM2 := Lib.hid (HM1.out.below hb2)
  have HB2 := Lib.hid (HB1.out.trans (hb2.mono HB1.out.size))
  have lt2 := HM2.out.1.lt
  clear hb2 HM1 HB1 p0 p1 p2 p3 p4 p5
  cases hf : fndE V s with
  | none =>
    have hfi : findI V s = -1 := by unfold findI; rw [hf]
    have hqq : q = (zeroP, 182) := by rw [← HQ.out]; unfold revP; rw [hf]
    rw [hfi]
    clear hfi hf
    (obtain ⟨z0, z1, z2, z3, z4, z5⟩ := (HM2.out.1).c6; have f0 := (HM2.out.1).fz 0; have f1 := (HM2.out.1).fz 1; have f2 := (HM2.out.1).fz 2; have f3 := (HM2.out.1).fz 3; have f4 := (HM2.out.1).fz 4; have f5 := (HM2.out.1).fz 5; go_wp2_with fail; have KZ := Lib.hid (zero_put (HM2.out.1) (.int .i64 0) (.string ⟨#[]⟩) (.string ⟨#[]⟩) (.bool false) (.slice none 0 0) (.slice none 0 0)); have HBZ := Lib.hid (below_put6 (HB2.out) (b := w.heap.size + 1) (by omega) (.int .i64 0) (.string ⟨#[]⟩) (.string ⟨#[]⟩) (.bool false) (.slice none 0 0) (.slice none 0 0)); generalize World.setCell (World.setCell (World.setCell (World.setCell (World.setCell (World.setCell _ _ _) _ _) _ _) _ _) _ _) _ _ = wz at *; obtain ⟨y0, y1, y2, y3, y4, y5⟩ := KZ.out.c6; exact bodyPost_ret (v := .tuple #[.agg #[.int .i64 0, .string ⟨#[]⟩, .string ⟨#[]⟩, .bool false, .slice none 0 0, .slice none 0 0], .int .i64 _]) (by simp [results, Tryz.results73, go_sem, y0, y1, y2, y3, y4, y5]) rfl (PRet.no (hqq) HBZ.out))
  | some x =>
    have hfi : findI V s = (posE V s : Int) := by unfold findI; rw [hf]
    have hph := pos_has HOK.out.srt hf
    have HQ1 : Hid (q = (⟨pn, pc, pt, ps, V.filter (keepE x)⟩, 0)) := by
      show _ = _
      rw [← HQ.out]
      unfold revP
      rw [hf]
    rw [hfi]
    generalize posE V s = kp at *
    have hkl := hph.1
    have hkn : (kp : Int) < (V.length : Int) := by omega
    have hk0 : ¬ (kp : Int) < 0 := by omega
    have HPI : Hid (∀ k (hk : k < V.length), (V[k].path == x.path) = decide (k = kp)) := fun k hk => by
      have h1 := (List.getElem?_eq_some_iff.1 hph.2)
      by_cases e : k = kp
      · subst e
        rw [h1.2, ba_self]
        simp
      · have hne : ¬ V[k].path = x.path := fun h => by
          have h2 := List.pairwise_iff_getElem.1 HOK.out.srt
          rcases Nat.lt_or_gt_of_ne e with h3 | h3
          · have := h2 k kp hk hkl h3
            rw [h1.2, h, ordH_self] at this
            omega
          · have := h2 kp k hkl hk h3
            rw [h1.2, h, ordH_self] at this
            omega
        cases hb : (V[k].path == x.path)
        · simp [e]
        · exact absurd ((ba_beq _ _).1 hb) hne
    obtain ⟨b, off, rfl, hbl, hat⟩ := (HIE.out.below HB2.out) (by omega)
    (have hcv := fun j (u : Value) (hj : (x).cells[j]? = some u) => ((hat).get hph.2 hj); have c0 := hcv 0 _ rfl; have c1 := hcv 1 _ rfl; have c2 := hcv 2 _ rfl; have c3 := hcv 3 _ rfl; have c4 := hcv 4 _ rfl; have c5 := hcv 5 _ rfl; have c6 := hcv 6 _ rfl; have c7 := hcv 7 _ rfl; have c8 := hcv 8 _ rfl; have c9 := hcv 9 _ rfl; have c10 := hcv 10 _ rfl; have c11 := hcv 11 _ rfl; have e12 : edtK.n = 12 := rfl; simp only [e12, Nat.add_zero] at c0 c1 c2 c3 c4 c5 c6 c7 c8 c9 c10 c11; clear hcv e12)
    have HPH := Lib.hid hph.2
    clear hf hfi hph hat HQ
    obtain ⟨p0, p1, p2, p3, p4, p5⟩ := HM2.out.2.1.c6
    have HM3 : Hid (Bs [(w2.heap.size, 44, [.string x.path, .int .i64 x.act, .int .i64 x.ty.base, .bool x.ty.kw, .bool x.ty.ex, .bool x.ty.xe, .int .u64 x.con.sum, .int .i64 x.con.size, .int .i64 x.base, .string x.src, .int .i64 x.srcn, .int .i64 x.fence]), (w.heap.size + 1, 41, [.int .i64 0, .string ⟨#[]⟩, .string ⟨#[]⟩, .bool false, .slice none 0 0, .slice none 0 0]), (w.heap.size, 41, [.int .i64 pn, .string pc, .string pt, .bool ps, .slice (some ⟨b, off, none⟩) V.length ec, .slice R 0 rc])] (w2.alloc (.cells [.string x.path, .int .i64 x.act, .int .i64 x.ty.base, .bool x.ty.kw, .bool x.ty.ex, .bool x.ty.xe, .int .u64 x.con.sum, .int .i64 x.con.size, .int .i64 x.base, .string x.src, .int .i64 x.srcn, .int .i64 x.fence].toArray 44))) := Bs.cons (Blk.new w2 44 [.string x.path, .int .i64 x.act, .int .i64 x.ty.base, .bool x.ty.kw, .bool x.ty.ex, .bool x.ty.xe, .int .u64 x.con.sum, .int .i64 x.con.size, .int .i64 x.base, .string x.src, .int .i64 x.srcn, .int .i64 x.fence]) (HM2.out.alloc _)
    have HB3 : Hid (Below w.heap.size w (w2.alloc (.cells [.string x.path, .int .i64 x.act, .int .i64 x.ty.base, .bool x.ty.kw, .bool x.ty.ex, .bool x.ty.xe, .int .u64 x.con.sum, .int .i64 x.con.size, .int .i64 x.base, .string x.src, .int .i64 x.srcn, .int .i64 x.fence].toArray 44))) := HB2.out.alloc HB2.out.size _
    go_upto_region 5 with fail
    generalize hw3 : World.alloc w2 (.cells #[.string x.path, .int .i64 x.act, .int .i64 x.ty.base, .bool x.ty.kw, .bool x.ty.ex, .bool x.ty.xe, .int .u64 x.con.sum, .int .i64 x.con.size, .int .i64 x.base, .string x.src, .int .i64 x.srcn, .int .i64 x.fence] 44) = w3 at *
    clear hw3 HM2 HB2 p0 p1 p2 p3 p4 p5 c0 c1 c2 c3 c4 c5 c6 c7 c8 c9 c10 c11
    have lt3 := HM3.out.1.lt
    have ltp := HM3.out.2.2.1.lt
    obtain ⟨p0, p1, p2, p3, p4, p5⟩ := HM3.out.2.2.1.c6
    have HM4 : Hid (Bs [(w3.heap.size, 41, [.int .i64 pn, .string pc, .string pt, .bool ps, .slice (some ⟨b, off, none⟩) V.length ec, .slice R 0 rc]), (w2.heap.size, 44, [.string x.path, .int .i64 x.act, .int .i64 x.ty.base, .bool x.ty.kw, .bool x.ty.ex, .bool x.ty.xe, .int .u64 x.con.sum, .int .i64 x.con.size, .int .i64 x.base, .string x.src, .int .i64 x.srcn, .int .i64 x.fence]), (w.heap.size + 1, 41, [.int .i64 0, .string ⟨#[]⟩, .string ⟨#[]⟩, .bool false, .slice none 0 0, .slice none 0 0]), (w.heap.size, 41, [.int .i64 pn, .string pc, .string pt, .bool ps, .slice (some ⟨b, off, none⟩) V.length ec, .slice R 0 rc])] (w3.alloc (.cells [.int .i64 pn, .string pc, .string pt, .bool ps, .slice (some ⟨b, off, none⟩) V.length ec, .slice R 0 rc].toArray 41))) := Bs.cons (Blk.new w3 41 [.int .i64 pn, .string pc, .string pt, .bool ps, .slice (some ⟨b, off, none⟩) V.length ec, .slice R 0 rc]) (HM3.out.alloc _)
    have HB4 : Hid (Below w.heap.size w (w3.alloc (.cells [.int .i64 pn, .string pc, .string pt, .bool ps, .slice (some ⟨b, off, none⟩) V.length ec, .slice R 0 rc].toArray 41))) := HB3.out.alloc HB3.out.size _
    go_upto_region 6 with fail
    generalize hw4 : World.alloc w3 (.cells #[.int .i64 pn, .string pc, .string pt, .bool ps, .slice (some ⟨b, off, none⟩) V.length ec, .slice R 0 rc] 41) = w4 at *
    clear hw4 HM3 HB3 p0 p1 p2 p3 p4 p5
    have lt4 := HM4.out.1.lt
    obtain ⟨p0, p1, p2, p3, p4, p5⟩ := HM4.out.1.c6
    have g4 := HM4.out.1.fz 4
    have g5 := HM4.out.1.fz 5
    have HMP := Lib.hid (show Bs [(w3.heap.size, 41, [.int .i64 pn, .string pc, .string pt, .bool ps, .slice none 0 0, .slice none 0 0]), (w2.heap.size, 44, [.string x.path, .int .i64 x.act, .int .i64 x.ty.base, .bool x.ty.kw, .bool x.ty.ex, .bool x.ty.xe, .int .u64 x.con.sum, .int .i64 x.con.size, .int .i64 x.base, .string x.src, .int .i64 x.srcn, .int .i64 x.fence]), (w.heap.size + 1, 41, [.int .i64 0, .string ⟨#[]⟩, .string ⟨#[]⟩, .bool false, .slice none 0 0, .slice none 0 0]), (w.heap.size, 41, [.int .i64 pn, .string pc, .string pt, .bool ps, .slice (some ⟨b, off, none⟩) V.length ec, .slice R 0 rc])] _ from ⟨(HM4.out.1.set 4 (.slice none 0 0)).set 5 (.slice none 0 0), (HM4.out.2.1.far (p := ⟨w3.heap.size, 4, none⟩) (by dsimp only; omega) (.slice none 0 0)).far (p := ⟨w3.heap.size, 5, none⟩) (by dsimp only; omega) (.slice none 0 0), (HM4.out.2.2.1.far (p := ⟨w3.heap.size, 4, none⟩) (by dsimp only; omega) (.slice none 0 0)).far (p := ⟨w3.heap.size, 5, none⟩) (by dsimp only; omega) (.slice none 0 0), (HM4.out.2.2.2.1.far (p := ⟨w3.heap.size, 4, none⟩) (by dsimp only; omega) (.slice none 0 0)).far (p := ⟨w3.heap.size, 5, none⟩) (by dsimp only; omega) (.slice none 0 0), trivial⟩)
    have HBP := Lib.hid ((HB4.out.setCell (p := ⟨w3.heap.size, 4, none⟩) (by dsimp only; omega) (.slice none 0 0)).setCell (p := ⟨w3.heap.size, 5, none⟩) (by dsimp only; omega) (.slice none 0 0))
    go_upto_region 7 with fail
    (generalize World.setCell (World.setCell _ _ _) _ _ = w5 at *)
    clear HM4 HB4 p0 p1 p2 p3 p4 p5 g4 g5
    have lt5 := HMP.out.1.lt
    obtain ⟨p0, p1, p2, p3, p4, p5⟩ := HMP.out.2.2.2.1.c6
    go_wp2_with fail
    clear p0 p1 p2 p3 p4 p5
    go_loopw [9, 34] (fun gv i wr => ∃ (k m : Nat) (xs : List Value) (O : Option Addr) (n c : Nat), i = .int .i64 k ∧ k ≤ V.length ∧ m ≤ k ∧ wr.ownsRow w5.heap.size 44 12 gv m xs ∧ Hid (n = ((V.take k).filter (keepE x)).length) ∧ wr.ownsRow w5.heap.size 44 12 (.slice O n c) n (edtK.flat ((V.take k).filter (keepE x))) ∧ (∀ j, gv.ownBlock = some j → (Value.slice O n c).ownBlock ≠ some j) ∧ Below w.heap.size w wr ∧ Bs [(w3.heap.size, 41, [.int .i64 pn, .string pc, .string pt, .bool ps, .slice O n c, .slice none 0 0]), (w2.heap.size, 44, [.string x.path, .int .i64 x.act, .int .i64 x.ty.base, .bool x.ty.kw, .bool x.ty.ex, .bool x.ty.xe, .int .u64 x.con.sum, .int .i64 x.con.size, .int .i64 x.base, .string x.src, .int .i64 x.srcn, .int .i64 x.fence]), (w.heap.size + 1, 41, [.int .i64 0, .string ⟨#[]⟩, .string ⟨#[]⟩, .bool false, .slice none 0 0, .slice none 0 0]), (w.heap.size, 41, [.int .i64 pn, .string pc, .string pt, .bool ps, .slice (some ⟨b, off, none⟩) V.length ec, .slice R 0 rc])] wr ∧ Hid (w5.heap.size ≤ wr.heap.size)) (fun _ i _ => V.length - (intOf i).toNat)
    case atStart => exact ⟨0, 0, [], none, 0, 0, rfl, Nat.zero_le _, Nat.le_refl _, ⟨rfl, .inl ⟨rfl, rfl⟩⟩, rfl, ⟨rfl, .inl ⟨rfl, rfl⟩⟩, (fun j e => by cases e), HBP.out, HMP.out, Nat.le_refl _⟩
    case round =>
      obtain ⟨k, m, xs, O, n, c, rfl, hk, hm, hog, HN, hoo, hdj, hB, hM, HSZ⟩ := hrel
      have HB := Lib.hid hB
      have HM := Lib.hid hM
      have HOG := Lib.hid hog
      have HOO := Lib.hid hoo
      have HDJ := Lib.hid hdj
      clear hB hM hog hoo hdj HBP HMP
      by_cases hlt : k < V.length
      · have HNV : Hid (n ≤ k) := by
          show _ ≤ _
          rw [HN.out]
          exact Nat.le_trans (List.length_filter_le _ _) (by rw [List.length_take]; omega)
        have hnv := HNV.out
        have hw5 : w5.heap.size ≤ wr.heap.size := HSZ.out
        have HFS : Hid ((V.take (k + 1)).filter (keepE x) = (V.take k).filter (keepE x) ++ if keepE x V[k] = true then [V[k]] else []) := by
          show _ = _
          rw [List.take_succ_eq_append_getElem hlt, List.filter_append]
          congr 1
          cases hkk : keepE x V[k] <;> simp [hkk]
        have HPK := Lib.hid (HPI.out k hlt)
        have hg := List.getElem?_eq_getElem hlt
        obtain ⟨b', off', hbb, hbl', hat'⟩ := (HIE.out.below HB.out) (by omega)
        injection hbb with hbb
        injection hbb with hb1 hb2
        subst hb1 hb2
        generalize V[k] = y at *
        (have hcv := fun j (u : Value) (hj : (y).cells[j]? = some u) => ((hat').get hg hj); have c0 := hcv 0 _ rfl; have c1 := hcv 1 _ rfl; have c2 := hcv 2 _ rfl; have c3 := hcv 3 _ rfl; have c4 := hcv 4 _ rfl; have c5 := hcv 5 _ rfl; have c6 := hcv 6 _ rfl; have c7 := hcv 7 _ rfl; have c8 := hcv 8 _ rfl; have c9 := hcv 9 _ rfl; have c10 := hcv 10 _ rfl; have c11 := hcv 11 _ rfl; have e12 : edtK.n = 12 := rfl; simp only [e12, Nat.add_zero] at c0 c1 c2 c3 c4 c5 c6 c7 c8 c9 c10 c11; clear hcv e12)
        clear hat' hg hbl'
        have hkln : (k : Int) < (V.length : Int) := by omega
        have HMY : Hid (Bs [(wr.heap.size, 44, [.string y.path, .int .i64 y.act, .int .i64 y.ty.base, .bool y.ty.kw, .bool y.ty.ex, .bool y.ty.xe, .int .u64 y.con.sum, .int .i64 y.con.size, .int .i64 y.base, .string y.src, .int .i64 y.srcn, .int .i64 y.fence]), (w3.heap.size, 41, [.int .i64 pn, .string pc, .string pt, .bool ps, .slice O n c, .slice none 0 0]), (w2.heap.size, 44, [.string x.path, .int .i64 x.act, .int .i64 x.ty.base, .bool x.ty.kw, .bool x.ty.ex, .bool x.ty.xe, .int .u64 x.con.sum, .int .i64 x.con.size, .int .i64 x.base, .string x.src, .int .i64 x.srcn, .int .i64 x.fence]), (w.heap.size + 1, 41, [.int .i64 0, .string ⟨#[]⟩, .string ⟨#[]⟩, .bool false, .slice none 0 0, .slice none 0 0]), (w.heap.size, 41, [.int .i64 pn, .string pc, .string pt, .bool ps, .slice (some ⟨b, off, none⟩) V.length ec, .slice R 0 rc])] (wr.alloc (.cells [.string y.path, .int .i64 y.act, .int .i64 y.ty.base, .bool y.ty.kw, .bool y.ty.ex, .bool y.ty.xe, .int .u64 y.con.sum, .int .i64 y.con.size, .int .i64 y.base, .string y.src, .int .i64 y.srcn, .int .i64 y.fence].toArray 44))) := Bs.cons (Blk.new wr 44 [.string y.path, .int .i64 y.act, .int .i64 y.ty.base, .bool y.ty.kw, .bool y.ty.ex, .bool y.ty.xe, .int .u64 y.con.sum, .int .i64 y.con.size, .int .i64 y.base, .string y.src, .int .i64 y.srcn, .int .i64 y.fence]) (HM.out.alloc _)
        have HBY : Hid (Below w.heap.size w (wr.alloc (.cells [.string y.path, .int .i64 y.act, .int .i64 y.ty.base, .bool y.ty.kw, .bool y.ty.ex, .bool y.ty.xe, .int .u64 y.con.sum, .int .i64 y.con.size, .int .i64 y.base, .string y.src, .int .i64 y.srcn, .int .i64 y.fence].toArray 44))) := HB.out.alloc HB.out.size _
        have HOGY := Lib.hid (HOG.out.alloc (.cells [.string y.path, .int .i64 y.act, .int .i64 y.ty.base, .bool y.ty.kw, .bool y.ty.ex, .bool y.ty.xe, .int .u64 y.con.sum, .int .i64 y.con.size, .int .i64 y.base, .string y.src, .int .i64 y.srcn, .int .i64 y.fence].toArray 44))
        have HOOY := Lib.hid (HOO.out.alloc (.cells [.string y.path, .int .i64 y.act, .int .i64 y.ty.base, .bool y.ty.kw, .bool y.ty.ex, .bool y.ty.xe, .int .u64 y.con.sum, .int .i64 y.con.size, .int .i64 y.base, .string y.src, .int .i64 y.srcn, .int .i64 y.fence].toArray 44))
        have HGL : Hid (∀ j, u9.ownBlock = some j → j < wr.heap.size) := fun j e => (HOG.out.lt j e).2
        have HOL : Hid (∀ j, (Value.slice O n c).ownBlock = some j → j < wr.heap.size) := fun j e => (HOO.out.lt j e).2
        -- MARKA
        go_upto_region 11 with fail
        -- MARKB
        have hszy : wr.heap.size < (wr.alloc (.cells [.string y.path, .int .i64 y.act, .int .i64 y.ty.base, .bool y.ty.kw, .bool y.ty.ex, .bool y.ty.xe, .int .u64 y.con.sum, .int .i64 y.con.size, .int .i64 y.base, .string y.src, .int .i64 y.srcn, .int .i64 y.fence].toArray 44)).heap.size := by simp
        generalize hwy : World.alloc wr (.cells #[.string y.path, .int .i64 y.act, .int .i64 y.ty.base, .bool y.ty.kw, .bool y.ty.ex, .bool y.ty.xe, .int .u64 y.con.sum, .int .i64 y.con.size, .int .i64 y.base, .string y.src, .int .i64 y.srcn, .int .i64 y.fence] 44) = wy at *
        clear hwy HM HB HOG HOO c0 c1 c2 c3 c4 c5 c6 c7 c8 c9 c10 c11
        have lt6 := HMY.out.2.1.lt
        obtain ⟨y0, y1, y2, y3, y4, y5, y6, y7, y8, y9, y10, y11⟩ := HMY.out.1.c12
        obtain ⟨q0, q1, q2, q3, q4, q5, q6, q7, q8, q9, q10, q11⟩ := HMY.out.2.2.1.c12
        have HLT := Lib.hid (RowK.lit edtK wy y 44)
        have p4 := HMY.out.2.1.cell 4
        have g4 := HMY.out.2.1.fz 4
        by_cases hkk : k = kp
        · subst hkk
          clear hk0
          have HKP : Hid (keepE x y = false) := by
            show _ = _
            unfold keepE; rw [HPK.out]; simp
          -- MARKC
          go_wp2_with (at_builtin; go_loud (refine wpList_append_near rfl _ _ 39 rfl w5.heap.size 44 i0 zeroEdt.val 12 96 Tryz.underlying39 hi0 hz0 hz1 hz2 rfl (by decide) u9 m xs rfl (HOGY.out.alloc _) ⟨wy.heap.size, 0, none⟩ 1 1 y.cells rfl rfl HLT.out.1 HLT.out.2 (by unfold maxLen; omega) (by omega) (by simp; omega) (by decide) ?_; intro v2 w6 ho6 hg6 hn6)
            )
          have hs6 := hg6.size
          have hsa : (wy.alloc (.cells [.string y.path, .int .i64 y.act, .int .i64 y.ty.base, .bool y.ty.kw, .bool y.ty.ex, .bool y.ty.xe, .int .u64 y.con.sum, .int .i64 y.con.size, .int .i64 y.base, .string y.src, .int .i64 y.srcn, .int .i64 y.fence].toArray 44)).heap.size = wy.heap.size + 1 := by simp
          have HB6 := Lib.hid ((HBY.out.alloc HBY.out.size (.cells [.string y.path, .int .i64 y.act, .int .i64 y.ty.base, .bool y.ty.kw, .bool y.ty.ex, .bool y.ty.xe, .int .u64 y.con.sum, .int .i64 y.con.size, .int .i64 y.base, .string y.src, .int .i64 y.srcn, .int .i64 y.fence].toArray 44)).grown hg6 (by rw [hsa]; have := HBY.out.size; omega) (fun j e => by have := (HOGY.out.lt j e).1; have := HSZ.out; omega))
          have HM6 := Lib.hid ((Bs.alloc HMY.out.2 (.cells [.string y.path, .int .i64 y.act, .int .i64 y.ty.base, .bool y.ty.kw, .bool y.ty.ex, .bool y.ty.xe, .int .u64 y.con.sum, .int .i64 y.con.size, .int .i64 y.base, .string y.src, .int .i64 y.srcn, .int .i64 y.fence].toArray 44)).grown hg6 (fun z hz e => by
            have h1 := (HOGY.out.lt _ e).1
            simp only [List.mem_cons, List.not_mem_nil, or_false] at hz
            rcases hz with rfl | rfl | rfl | rfl <;> dsimp only at h1 <;> omega))
          have HO6 := Lib.hid ((HOOY.out.alloc (.cells [.string y.path, .int .i64 y.act, .int .i64 y.ty.base, .bool y.ty.kw, .bool y.ty.ex, .bool y.ty.xe, .int .u64 y.con.sum, .int .i64 y.con.size, .int .i64 y.base, .string y.src, .int .i64 y.srcn, .int .i64 y.fence].toArray 44)).kept hg6 (by
            cases e : (Value.slice O n c).ownBlock with
            | none => exact .inl rfl
            | some j => exact .inr (fun e2 => HDJ.out j e2.symm e)))
          -- MARKD
          go_roundw
          case rel =>
            refine ⟨k + 1, m + 1, _, O, n, c, by go_num, by omega, by omega, ho6, ?_, ?_, ?_, HB6.out, HM6.out, ?_⟩
            · show _ = _
              rw [HFS.out, HKP.out, HN.out]
              simp
            · rw [HFS.out, HKP.out]
              simpa using HO6.out
            · intro j e e2
              rcases hn6 j e with h | h
              · exact HDJ.out j h e2
              · have := HOL.out j e2
                rw [hsa] at h
                omega
            · show _ ≤ _
              omega
          case measure => simp [intOf]; omega
        · have hkka : ¬ (k : Int) = (kp : Int) := by omega
          have hkkb : ((k : Int) == (kp : Int)) = false := by simpa using hkka
          have hkkc : decide ((k : Int) = (kp : Int)) = false := by simpa using hkka
          have HPF : Hid ((y.path == x.path) = false) := by
            show _ = _
            rw [HPK.out]
            simpa using hkk
          by_cases hx4 : x.act = 4
          · have hx5 : ¬ x.act = 5 := by omega
            have x4a : (x.act == 4) = true := by simpa using hx4
            have x4b : decide (x.act = 4) = true := by simpa using hx4
            have x4n : True := trivial
            have x5a : (x.act == 5) = false := by simpa using hx5
            have x5b : decide (x.act = 5) = false := by simpa using hx5
            have x5n : ¬ x.act = 5 := hx5
            have HX4 := Lib.hid hx4
            clear hx4 x4n
            by_cases hy5 : y.act = 5
            ·
              have y5a : (y.act == 5) = true := by simpa using hy5
              have y5b : decide (y.act = 5) = true := by simpa using hy5
              have y5n : True := trivial
              clear hy5 y5n
              cases hs : (y.path.toList == x.src.toList)
              ·
                have HS : Hid ((y.path == x.src) = false) := by
                  show _ = _
                  rw [← path_tl]
                  exact hs
                have HKP : Hid (keepE x y = true) := by
                  show _ = _
                  unfold keepE ctrE; rw [HPF.out, x4a, x5a, y5a, HS.out]; rfl
                -- MARKE
                go_wp2_with (at_builtin; go_loud (refine wpList_append_near rfl _ _ 39 rfl w5.heap.size 44 i0 zeroEdt.val 12 96 Tryz.underlying39 hi0 hz0 hz1 hz2 rfl (by decide) (.slice O n c) n (edtK.flat ((V.take k).filter (keepE x))) rfl (HOOY.out.alloc _) ⟨wy.heap.size, 0, none⟩ 1 1 y.cells rfl rfl HLT.out.1 HLT.out.2 (by unfold maxLen; omega) (by omega) (by simp; omega) (by decide) ?_; intro v2 w6 ho6 hg6 hn6); obtain ⟨A6, c6, rfl⟩ := ownsRow_slice ho6; have hs6 := hg6.size; have hsa : (wy.alloc (.cells [.string y.path, .int .i64 y.act, .int .i64 y.ty.base, .bool y.ty.kw, .bool y.ty.ex, .bool y.ty.xe, .int .u64 y.con.sum, .int .i64 y.con.size, .int .i64 y.base, .string y.src, .int .i64 y.srcn, .int .i64 y.fence].toArray 44)).heap.size = wy.heap.size + 1 := (by simp); have HB6 := Lib.hid ((HBY.out.alloc HBY.out.size (.cells [.string y.path, .int .i64 y.act, .int .i64 y.ty.base, .bool y.ty.kw, .bool y.ty.ex, .bool y.ty.xe, .int .u64 y.con.sum, .int .i64 y.con.size, .int .i64 y.base, .string y.src, .int .i64 y.srcn, .int .i64 y.fence].toArray 44)).grown hg6 (by rw [hsa]; have := HBY.out.size; omega) (fun j e => by have := (HOOY.out.lt j e).1; have := HSZ.out; omega)); have HM6 := Lib.hid ((Bs.alloc HMY.out.2 (.cells [.string y.path, .int .i64 y.act, .int .i64 y.ty.base, .bool y.ty.kw, .bool y.ty.ex, .bool y.ty.xe, .int .u64 y.con.sum, .int .i64 y.con.size, .int .i64 y.base, .string y.src, .int .i64 y.srcn, .int .i64 y.fence].toArray 44)).grown hg6 (fun z hz e => by
                    have h1 := (HOOY.out.lt _ e).1
                    simp only [List.mem_cons, List.not_mem_nil, or_false] at hz
                    rcases hz with rfl | rfl | rfl | rfl <;> dsimp only at h1 <;> omega)); have HG6 := Lib.hid ((HOGY.out.alloc (.cells [.string y.path, .int .i64 y.act, .int .i64 y.ty.base, .bool y.ty.kw, .bool y.ty.ex, .bool y.ty.xe, .int .u64 y.con.sum, .int .i64 y.con.size, .int .i64 y.base, .string y.src, .int .i64 y.srcn, .int .i64 y.fence].toArray 44)).kept hg6 (by
                    cases e : u9.ownBlock with
                    | none => exact .inl rfl
                    | some j => exact .inr (fun e2 => HDJ.out j e e2.symm))); have HO6 := Lib.hid ho6; clear ho6 hg6 p4 g4; have p4 := HM6.out.1.cell 4; have g4 := HM6.out.1.fz 4; have lt7 := HM6.out.1.lt)
                -- MARKF
                go_roundw
                case rel =>
                  refine ⟨k + 1, m, _, A6, n + 1, c6, by go_num, by omega, by omega, ownsRow_set HG6.out (p := ⟨w3.heap.size, 4, none⟩) (by dsimp only; omega) (.slice A6 (n + 1) c6), ?_, ?_, ?_, HB6.out.setCell (p := ⟨w3.heap.size, 4, none⟩) (by dsimp only; omega) (.slice A6 (n + 1) c6), ⟨HM6.out.1.set 4 (.slice A6 (n + 1) c6), HM6.out.2.1.far (p := ⟨w3.heap.size, 4, none⟩) (by dsimp only; omega) (.slice A6 (n + 1) c6), HM6.out.2.2.1.far (p := ⟨w3.heap.size, 4, none⟩) (by dsimp only; omega) (.slice A6 (n + 1) c6), HM6.out.2.2.2.1.far (p := ⟨w3.heap.size, 4, none⟩) (by dsimp only; omega) (.slice A6 (n + 1) c6), trivial⟩, ?_⟩
                  · show _ = _
                    rw [HFS.out, HKP.out, HN.out]
                    simp
                  · have h := ownsRow_set HO6.out (p := ⟨w3.heap.size, 4, none⟩) (by dsimp only; omega) (.slice A6 (n + 1) c6)
                    rw [show y.cells = edtK.cells y from rfl, RowK.flat_snoc] at h
                    rw [HFS.out, HKP.out]
                    simpa using h
                  · intro j e e2
                    rcases hn6 j e2 with h | h
                    · exact HDJ.out j e h
                    · have := HGL.out j e
                      rw [hsa] at h
                      omega
                  · show _ ≤ _
                    have : (w6.setCell ⟨w3.heap.size, 4, none⟩ (.slice A6 (n + 1) c6)).heap.size = w6.heap.size := by simp [World.setCell]
                    omega
                case measure => simp [intOf]; omega
              ·
                have HS : Hid ((y.path == x.src) = true) := by
                  show _ = _
                  rw [← path_tl]
                  exact hs
                have HKP : Hid (keepE x y = false) := by
                  show _ = _
                  unfold keepE ctrE; rw [HPF.out, x4a, x5a, y5a, HS.out]; rfl
                -- MARKC
                go_wp2_with (at_builtin; go_loud (refine wpList_append_near rfl _ _ 39 rfl w5.heap.size 44 i0 zeroEdt.val 12 96 Tryz.underlying39 hi0 hz0 hz1 hz2 rfl (by decide) u9 m xs rfl (HOGY.out.alloc _) ⟨wy.heap.size, 0, none⟩ 1 1 y.cells rfl rfl HLT.out.1 HLT.out.2 (by unfold maxLen; omega) (by omega) (by simp; omega) (by decide) ?_; intro v2 w6 ho6 hg6 hn6)
                  )
                have hs6 := hg6.size
                have hsa : (wy.alloc (.cells [.string y.path, .int .i64 y.act, .int .i64 y.ty.base, .bool y.ty.kw, .bool y.ty.ex, .bool y.ty.xe, .int .u64 y.con.sum, .int .i64 y.con.size, .int .i64 y.base, .string y.src, .int .i64 y.srcn, .int .i64 y.fence].toArray 44)).heap.size = wy.heap.size + 1 := by simp
                have HB6 := Lib.hid ((HBY.out.alloc HBY.out.size (.cells [.string y.path, .int .i64 y.act, .int .i64 y.ty.base, .bool y.ty.kw, .bool y.ty.ex, .bool y.ty.xe, .int .u64 y.con.sum, .int .i64 y.con.size, .int .i64 y.base, .string y.src, .int .i64 y.srcn, .int .i64 y.fence].toArray 44)).grown hg6 (by rw [hsa]; have := HBY.out.size; omega) (fun j e => by have := (HOGY.out.lt j e).1; have := HSZ.out; omega))
                have HM6 := Lib.hid ((Bs.alloc HMY.out.2 (.cells [.string y.path, .int .i64 y.act, .int .i64 y.ty.base, .bool y.ty.kw, .bool y.ty.ex, .bool y.ty.xe, .int .u64 y.con.sum, .int .i64 y.con.size, .int .i64 y.base, .string y.src, .int .i64 y.srcn, .int .i64 y.fence].toArray 44)).grown hg6 (fun z hz e => by
                  have h1 := (HOGY.out.lt _ e).1
                  simp only [List.mem_cons, List.not_mem_nil, or_false] at hz
                  rcases hz with rfl | rfl | rfl | rfl <;> dsimp only at h1 <;> omega))
                have HO6 := Lib.hid ((HOOY.out.alloc (.cells [.string y.path, .int .i64 y.act, .int .i64 y.ty.base, .bool y.ty.kw, .bool y.ty.ex, .bool y.ty.xe, .int .u64 y.con.sum, .int .i64 y.con.size, .int .i64 y.base, .string y.src, .int .i64 y.srcn, .int .i64 y.fence].toArray 44)).kept hg6 (by
                  cases e : (Value.slice O n c).ownBlock with
                  | none => exact .inl rfl
                  | some j => exact .inr (fun e2 => HDJ.out j e2.symm e)))
                -- MARKD
                go_roundw
                case rel =>
                  refine ⟨k + 1, m + 1, _, O, n, c, by go_num, by omega, by omega, ho6, ?_, ?_, ?_, HB6.out, HM6.out, ?_⟩
                  · show _ = _
                    rw [HFS.out, HKP.out, HN.out]
                    simp
                  · rw [HFS.out, HKP.out]
                    simpa using HO6.out
                  · intro j e e2
                    rcases hn6 j e with h | h
                    · exact HDJ.out j h e2
                    · have := HOL.out j e2
                      rw [hsa] at h
                      omega
                  · show _ ≤ _
                    omega
                case measure => simp [intOf]; omega
            ·
              have y5a : (y.act == 5) = false := by simpa using hy5
              have y5b : decide (y.act = 5) = false := by simpa using hy5
              have y5n : ¬ y.act = 5 := hy5
              have HKP : Hid (keepE x y = true) := by
                show _ = _
                unfold keepE ctrE; rw [HPF.out, x4a, x5a, y5a]; rfl
              -- MARKE
              go_wp2_with (at_builtin; go_loud (refine wpList_append_near rfl _ _ 39 rfl w5.heap.size 44 i0 zeroEdt.val 12 96 Tryz.underlying39 hi0 hz0 hz1 hz2 rfl (by decide) (.slice O n c) n (edtK.flat ((V.take k).filter (keepE x))) rfl (HOOY.out.alloc _) ⟨wy.heap.size, 0, none⟩ 1 1 y.cells rfl rfl HLT.out.1 HLT.out.2 (by unfold maxLen; omega) (by omega) (by simp; omega) (by decide) ?_; intro v2 w6 ho6 hg6 hn6); obtain ⟨A6, c6, rfl⟩ := ownsRow_slice ho6; have hs6 := hg6.size; have hsa : (wy.alloc (.cells [.string y.path, .int .i64 y.act, .int .i64 y.ty.base, .bool y.ty.kw, .bool y.ty.ex, .bool y.ty.xe, .int .u64 y.con.sum, .int .i64 y.con.size, .int .i64 y.base, .string y.src, .int .i64 y.srcn, .int .i64 y.fence].toArray 44)).heap.size = wy.heap.size + 1 := (by simp); have HB6 := Lib.hid ((HBY.out.alloc HBY.out.size (.cells [.string y.path, .int .i64 y.act, .int .i64 y.ty.base, .bool y.ty.kw, .bool y.ty.ex, .bool y.ty.xe, .int .u64 y.con.sum, .int .i64 y.con.size, .int .i64 y.base, .string y.src, .int .i64 y.srcn, .int .i64 y.fence].toArray 44)).grown hg6 (by rw [hsa]; have := HBY.out.size; omega) (fun j e => by have := (HOOY.out.lt j e).1; have := HSZ.out; omega)); have HM6 := Lib.hid ((Bs.alloc HMY.out.2 (.cells [.string y.path, .int .i64 y.act, .int .i64 y.ty.base, .bool y.ty.kw, .bool y.ty.ex, .bool y.ty.xe, .int .u64 y.con.sum, .int .i64 y.con.size, .int .i64 y.base, .string y.src, .int .i64 y.srcn, .int .i64 y.fence].toArray 44)).grown hg6 (fun z hz e => by
                  have h1 := (HOOY.out.lt _ e).1
                  simp only [List.mem_cons, List.not_mem_nil, or_false] at hz
                  rcases hz with rfl | rfl | rfl | rfl <;> dsimp only at h1 <;> omega)); have HG6 := Lib.hid ((HOGY.out.alloc (.cells [.string y.path, .int .i64 y.act, .int .i64 y.ty.base, .bool y.ty.kw, .bool y.ty.ex, .bool y.ty.xe, .int .u64 y.con.sum, .int .i64 y.con.size, .int .i64 y.base, .string y.src, .int .i64 y.srcn, .int .i64 y.fence].toArray 44)).kept hg6 (by
                  cases e : u9.ownBlock with
                  | none => exact .inl rfl
                  | some j => exact .inr (fun e2 => HDJ.out j e e2.symm))); have HO6 := Lib.hid ho6; clear ho6 hg6 p4 g4; have p4 := HM6.out.1.cell 4; have g4 := HM6.out.1.fz 4; have lt7 := HM6.out.1.lt)
              -- MARKF
              go_roundw
              case rel =>
                refine ⟨k + 1, m, _, A6, n + 1, c6, by go_num, by omega, by omega, ownsRow_set HG6.out (p := ⟨w3.heap.size, 4, none⟩) (by dsimp only; omega) (.slice A6 (n + 1) c6), ?_, ?_, ?_, HB6.out.setCell (p := ⟨w3.heap.size, 4, none⟩) (by dsimp only; omega) (.slice A6 (n + 1) c6), ⟨HM6.out.1.set 4 (.slice A6 (n + 1) c6), HM6.out.2.1.far (p := ⟨w3.heap.size, 4, none⟩) (by dsimp only; omega) (.slice A6 (n + 1) c6), HM6.out.2.2.1.far (p := ⟨w3.heap.size, 4, none⟩) (by dsimp only; omega) (.slice A6 (n + 1) c6), HM6.out.2.2.2.1.far (p := ⟨w3.heap.size, 4, none⟩) (by dsimp only; omega) (.slice A6 (n + 1) c6), trivial⟩, ?_⟩
                · show _ = _
                  rw [HFS.out, HKP.out, HN.out]
                  simp
                · have h := ownsRow_set HO6.out (p := ⟨w3.heap.size, 4, none⟩) (by dsimp only; omega) (.slice A6 (n + 1) c6)
                  rw [show y.cells = edtK.cells y from rfl, RowK.flat_snoc] at h
                  rw [HFS.out, HKP.out]
                  simpa using h
                · intro j e e2
                  rcases hn6 j e2 with h | h
                  · exact HDJ.out j e h
                  · have := HGL.out j e
                    rw [hsa] at h
                    omega
                · show _ ≤ _
                  have : (w6.setCell ⟨w3.heap.size, 4, none⟩ (.slice A6 (n + 1) c6)).heap.size = w6.heap.size := by simp [World.setCell]
                  omega
              case measure => simp [intOf]; omega
          · by_cases hx5 : x.act = 5
            ·
              have x4a : (x.act == 4) = false := by simpa using hx4
              have x4b : decide (x.act = 4) = false := by simpa using hx4
              have x4n : ¬ x.act = 4 := hx4
              have x5a : (x.act == 5) = true := by simpa using hx5
              have x5b : decide (x.act = 5) = true := by simpa using hx5
              have x5n : True := trivial
              clear hx5 x5n
              by_cases hy4 : y.act = 4
              ·
                have y4a : (y.act == 4) = true := by simpa using hy4
                have y4b : decide (y.act = 4) = true := by simpa using hy4
                have y4n : True := trivial
                clear hy4 y4n
                cases hs : (y.src.toList == x.path.toList)
                ·
                  have HS : Hid ((y.src == x.path) = false) := by
                    show _ = _
                    rw [← path_tl]
                    exact hs
                  have HKP : Hid (keepE x y = true) := by
                    show _ = _
                    unfold keepE ctrE; rw [HPF.out, x4a, x5a, y4a, HS.out]; rfl
                  -- MARKE
                  go_wp2_with (at_builtin; go_loud (refine wpList_append_near rfl _ _ 39 rfl w5.heap.size 44 i0 zeroEdt.val 12 96 Tryz.underlying39 hi0 hz0 hz1 hz2 rfl (by decide) (.slice O n c) n (edtK.flat ((V.take k).filter (keepE x))) rfl (HOOY.out.alloc _) ⟨wy.heap.size, 0, none⟩ 1 1 y.cells rfl rfl HLT.out.1 HLT.out.2 (by unfold maxLen; omega) (by omega) (by simp; omega) (by decide) ?_; intro v2 w6 ho6 hg6 hn6); obtain ⟨A6, c6, rfl⟩ := ownsRow_slice ho6; have hs6 := hg6.size; have hsa : (wy.alloc (.cells [.string y.path, .int .i64 y.act, .int .i64 y.ty.base, .bool y.ty.kw, .bool y.ty.ex, .bool y.ty.xe, .int .u64 y.con.sum, .int .i64 y.con.size, .int .i64 y.base, .string y.src, .int .i64 y.srcn, .int .i64 y.fence].toArray 44)).heap.size = wy.heap.size + 1 := (by simp); have HB6 := Lib.hid ((HBY.out.alloc HBY.out.size (.cells [.string y.path, .int .i64 y.act, .int .i64 y.ty.base, .bool y.ty.kw, .bool y.ty.ex, .bool y.ty.xe, .int .u64 y.con.sum, .int .i64 y.con.size, .int .i64 y.base, .string y.src, .int .i64 y.srcn, .int .i64 y.fence].toArray 44)).grown hg6 (by rw [hsa]; have := HBY.out.size; omega) (fun j e => by have := (HOOY.out.lt j e).1; have := HSZ.out; omega)); have HM6 := Lib.hid ((Bs.alloc HMY.out.2 (.cells [.string y.path, .int .i64 y.act, .int .i64 y.ty.base, .bool y.ty.kw, .bool y.ty.ex, .bool y.ty.xe, .int .u64 y.con.sum, .int .i64 y.con.size, .int .i64 y.base, .string y.src, .int .i64 y.srcn, .int .i64 y.fence].toArray 44)).grown hg6 (fun z hz e => by
                      have h1 := (HOOY.out.lt _ e).1
                      simp only [List.mem_cons, List.not_mem_nil, or_false] at hz
                      rcases hz with rfl | rfl | rfl | rfl <;> dsimp only at h1 <;> omega)); have HG6 := Lib.hid ((HOGY.out.alloc (.cells [.string y.path, .int .i64 y.act, .int .i64 y.ty.base, .bool y.ty.kw, .bool y.ty.ex, .bool y.ty.xe, .int .u64 y.con.sum, .int .i64 y.con.size, .int .i64 y.base, .string y.src, .int .i64 y.srcn, .int .i64 y.fence].toArray 44)).kept hg6 (by
                      cases e : u9.ownBlock with
                      | none => exact .inl rfl
                      | some j => exact .inr (fun e2 => HDJ.out j e e2.symm))); have HO6 := Lib.hid ho6; clear ho6 hg6 p4 g4; have p4 := HM6.out.1.cell 4; have g4 := HM6.out.1.fz 4; have lt7 := HM6.out.1.lt)
                  -- MARKF
                  go_roundw
                  case rel =>
                    refine ⟨k + 1, m, _, A6, n + 1, c6, by go_num, by omega, by omega, ownsRow_set HG6.out (p := ⟨w3.heap.size, 4, none⟩) (by dsimp only; omega) (.slice A6 (n + 1) c6), ?_, ?_, ?_, HB6.out.setCell (p := ⟨w3.heap.size, 4, none⟩) (by dsimp only; omega) (.slice A6 (n + 1) c6), ⟨HM6.out.1.set 4 (.slice A6 (n + 1) c6), HM6.out.2.1.far (p := ⟨w3.heap.size, 4, none⟩) (by dsimp only; omega) (.slice A6 (n + 1) c6), HM6.out.2.2.1.far (p := ⟨w3.heap.size, 4, none⟩) (by dsimp only; omega) (.slice A6 (n + 1) c6), HM6.out.2.2.2.1.far (p := ⟨w3.heap.size, 4, none⟩) (by dsimp only; omega) (.slice A6 (n + 1) c6), trivial⟩, ?_⟩
                    · show _ = _
                      rw [HFS.out, HKP.out, HN.out]
                      simp
                    · have h := ownsRow_set HO6.out (p := ⟨w3.heap.size, 4, none⟩) (by dsimp only; omega) (.slice A6 (n + 1) c6)
                      rw [show y.cells = edtK.cells y from rfl, RowK.flat_snoc] at h
                      rw [HFS.out, HKP.out]
                      simpa using h
                    · intro j e e2
                      rcases hn6 j e2 with h | h
                      · exact HDJ.out j e h
                      · have := HGL.out j e
                        rw [hsa] at h
                        omega
                    · show _ ≤ _
                      have : (w6.setCell ⟨w3.heap.size, 4, none⟩ (.slice A6 (n + 1) c6)).heap.size = w6.heap.size := by simp [World.setCell]
                      omega
                  case measure => simp [intOf]; omega
                ·
                  have HS : Hid ((y.src == x.path) = true) := by
                    show _ = _
                    rw [← path_tl]
                    exact hs
                  have HKP : Hid (keepE x y = false) := by
                    show _ = _
                    unfold keepE ctrE; rw [HPF.out, x4a, x5a, y4a, HS.out]; rfl
                  -- MARKC
                  go_wp2_with (at_builtin; go_loud (refine wpList_append_near rfl _ _ 39 rfl w5.heap.size 44 i0 zeroEdt.val 12 96 Tryz.underlying39 hi0 hz0 hz1 hz2 rfl (by decide) u9 m xs rfl (HOGY.out.alloc _) ⟨wy.heap.size, 0, none⟩ 1 1 y.cells rfl rfl HLT.out.1 HLT.out.2 (by unfold maxLen; omega) (by omega) (by simp; omega) (by decide) ?_; intro v2 w6 ho6 hg6 hn6)
                    )
                  have hs6 := hg6.size
                  have hsa : (wy.alloc (.cells [.string y.path, .int .i64 y.act, .int .i64 y.ty.base, .bool y.ty.kw, .bool y.ty.ex, .bool y.ty.xe, .int .u64 y.con.sum, .int .i64 y.con.size, .int .i64 y.base, .string y.src, .int .i64 y.srcn, .int .i64 y.fence].toArray 44)).heap.size = wy.heap.size + 1 := by simp
                  have HB6 := Lib.hid ((HBY.out.alloc HBY.out.size (.cells [.string y.path, .int .i64 y.act, .int .i64 y.ty.base, .bool y.ty.kw, .bool y.ty.ex, .bool y.ty.xe, .int .u64 y.con.sum, .int .i64 y.con.size, .int .i64 y.base, .string y.src, .int .i64 y.srcn, .int .i64 y.fence].toArray 44)).grown hg6 (by rw [hsa]; have := HBY.out.size; omega) (fun j e => by have := (HOGY.out.lt j e).1; have := HSZ.out; omega))
                  have HM6 := Lib.hid ((Bs.alloc HMY.out.2 (.cells [.string y.path, .int .i64 y.act, .int .i64 y.ty.base, .bool y.ty.kw, .bool y.ty.ex, .bool y.ty.xe, .int .u64 y.con.sum, .int .i64 y.con.size, .int .i64 y.base, .string y.src, .int .i64 y.srcn, .int .i64 y.fence].toArray 44)).grown hg6 (fun z hz e => by
                    have h1 := (HOGY.out.lt _ e).1
                    simp only [List.mem_cons, List.not_mem_nil, or_false] at hz
                    rcases hz with rfl | rfl | rfl | rfl <;> dsimp only at h1 <;> omega))
                  have HO6 := Lib.hid ((HOOY.out.alloc (.cells [.string y.path, .int .i64 y.act, .int .i64 y.ty.base, .bool y.ty.kw, .bool y.ty.ex, .bool y.ty.xe, .int .u64 y.con.sum, .int .i64 y.con.size, .int .i64 y.base, .string y.src, .int .i64 y.srcn, .int .i64 y.fence].toArray 44)).kept hg6 (by
                    cases e : (Value.slice O n c).ownBlock with
                    | none => exact .inl rfl
                    | some j => exact .inr (fun e2 => HDJ.out j e2.symm e)))
                  -- MARKD
                  go_roundw
                  case rel =>
                    refine ⟨k + 1, m + 1, _, O, n, c, by go_num, by omega, by omega, ho6, ?_, ?_, ?_, HB6.out, HM6.out, ?_⟩
                    · show _ = _
                      rw [HFS.out, HKP.out, HN.out]
                      simp
                    · rw [HFS.out, HKP.out]
                      simpa using HO6.out
                    · intro j e e2
                      rcases hn6 j e with h | h
                      · exact HDJ.out j h e2
                      · have := HOL.out j e2
                        rw [hsa] at h
                        omega
                    · show _ ≤ _
                      omega
                  case measure => simp [intOf]; omega
              ·
                have y4a : (y.act == 4) = false := by simpa using hy4
                have y4b : decide (y.act = 4) = false := by simpa using hy4
                have y4n : ¬ y.act = 4 := hy4
                have HKP : Hid (keepE x y = true) := by
                  show _ = _
                  unfold keepE ctrE; rw [HPF.out, x4a, x5a, y4a]; rfl
                -- MARKE
                go_wp2_with (at_builtin; go_loud (refine wpList_append_near rfl _ _ 39 rfl w5.heap.size 44 i0 zeroEdt.val 12 96 Tryz.underlying39 hi0 hz0 hz1 hz2 rfl (by decide) (.slice O n c) n (edtK.flat ((V.take k).filter (keepE x))) rfl (HOOY.out.alloc _) ⟨wy.heap.size, 0, none⟩ 1 1 y.cells rfl rfl HLT.out.1 HLT.out.2 (by unfold maxLen; omega) (by omega) (by simp; omega) (by decide) ?_; intro v2 w6 ho6 hg6 hn6); obtain ⟨A6, c6, rfl⟩ := ownsRow_slice ho6; have hs6 := hg6.size; have hsa : (wy.alloc (.cells [.string y.path, .int .i64 y.act, .int .i64 y.ty.base, .bool y.ty.kw, .bool y.ty.ex, .bool y.ty.xe, .int .u64 y.con.sum, .int .i64 y.con.size, .int .i64 y.base, .string y.src, .int .i64 y.srcn, .int .i64 y.fence].toArray 44)).heap.size = wy.heap.size + 1 := (by simp); have HB6 := Lib.hid ((HBY.out.alloc HBY.out.size (.cells [.string y.path, .int .i64 y.act, .int .i64 y.ty.base, .bool y.ty.kw, .bool y.ty.ex, .bool y.ty.xe, .int .u64 y.con.sum, .int .i64 y.con.size, .int .i64 y.base, .string y.src, .int .i64 y.srcn, .int .i64 y.fence].toArray 44)).grown hg6 (by rw [hsa]; have := HBY.out.size; omega) (fun j e => by have := (HOOY.out.lt j e).1; have := HSZ.out; omega)); have HM6 := Lib.hid ((Bs.alloc HMY.out.2 (.cells [.string y.path, .int .i64 y.act, .int .i64 y.ty.base, .bool y.ty.kw, .bool y.ty.ex, .bool y.ty.xe, .int .u64 y.con.sum, .int .i64 y.con.size, .int .i64 y.base, .string y.src, .int .i64 y.srcn, .int .i64 y.fence].toArray 44)).grown hg6 (fun z hz e => by
                    have h1 := (HOOY.out.lt _ e).1
                    simp only [List.mem_cons, List.not_mem_nil, or_false] at hz
                    rcases hz with rfl | rfl | rfl | rfl <;> dsimp only at h1 <;> omega)); have HG6 := Lib.hid ((HOGY.out.alloc (.cells [.string y.path, .int .i64 y.act, .int .i64 y.ty.base, .bool y.ty.kw, .bool y.ty.ex, .bool y.ty.xe, .int .u64 y.con.sum, .int .i64 y.con.size, .int .i64 y.base, .string y.src, .int .i64 y.srcn, .int .i64 y.fence].toArray 44)).kept hg6 (by
                    cases e : u9.ownBlock with
                    | none => exact .inl rfl
                    | some j => exact .inr (fun e2 => HDJ.out j e e2.symm))); have HO6 := Lib.hid ho6; clear ho6 hg6 p4 g4; have p4 := HM6.out.1.cell 4; have g4 := HM6.out.1.fz 4; have lt7 := HM6.out.1.lt)
                -- MARKF
                go_roundw
                case rel =>
                  refine ⟨k + 1, m, _, A6, n + 1, c6, by go_num, by omega, by omega, ownsRow_set HG6.out (p := ⟨w3.heap.size, 4, none⟩) (by dsimp only; omega) (.slice A6 (n + 1) c6), ?_, ?_, ?_, HB6.out.setCell (p := ⟨w3.heap.size, 4, none⟩) (by dsimp only; omega) (.slice A6 (n + 1) c6), ⟨HM6.out.1.set 4 (.slice A6 (n + 1) c6), HM6.out.2.1.far (p := ⟨w3.heap.size, 4, none⟩) (by dsimp only; omega) (.slice A6 (n + 1) c6), HM6.out.2.2.1.far (p := ⟨w3.heap.size, 4, none⟩) (by dsimp only; omega) (.slice A6 (n + 1) c6), HM6.out.2.2.2.1.far (p := ⟨w3.heap.size, 4, none⟩) (by dsimp only; omega) (.slice A6 (n + 1) c6), trivial⟩, ?_⟩
                  · show _ = _
                    rw [HFS.out, HKP.out, HN.out]
                    simp
                  · have h := ownsRow_set HO6.out (p := ⟨w3.heap.size, 4, none⟩) (by dsimp only; omega) (.slice A6 (n + 1) c6)
                    rw [show y.cells = edtK.cells y from rfl, RowK.flat_snoc] at h
                    rw [HFS.out, HKP.out]
                    simpa using h
                  · intro j e e2
                    rcases hn6 j e2 with h | h
                    · exact HDJ.out j e h
                    · have := HGL.out j e
                      rw [hsa] at h
                      omega
                  · show _ ≤ _
                    have : (w6.setCell ⟨w3.heap.size, 4, none⟩ (.slice A6 (n + 1) c6)).heap.size = w6.heap.size := by simp [World.setCell]
                    omega
                case measure => simp [intOf]; omega
            ·
              have x4a : (x.act == 4) = false := by simpa using hx4
              have x4b : decide (x.act = 4) = false := by simpa using hx4
              have x4n : ¬ x.act = 4 := hx4
              have x5a : (x.act == 5) = false := by simpa using hx5
              have x5b : decide (x.act = 5) = false := by simpa using hx5
              have x5n : ¬ x.act = 5 := hx5
              have HKP : Hid (keepE x y = true) := by
                show _ = _
                unfold keepE ctrE; rw [HPF.out, x4a, x5a]; rfl
              -- MARKE
              go_wp2_with (at_builtin; go_loud (refine wpList_append_near rfl _ _ 39 rfl w5.heap.size 44 i0 zeroEdt.val 12 96 Tryz.underlying39 hi0 hz0 hz1 hz2 rfl (by decide) (.slice O n c) n (edtK.flat ((V.take k).filter (keepE x))) rfl (HOOY.out.alloc _) ⟨wy.heap.size, 0, none⟩ 1 1 y.cells rfl rfl HLT.out.1 HLT.out.2 (by unfold maxLen; omega) (by omega) (by simp; omega) (by decide) ?_; intro v2 w6 ho6 hg6 hn6); obtain ⟨A6, c6, rfl⟩ := ownsRow_slice ho6; have hs6 := hg6.size; have hsa : (wy.alloc (.cells [.string y.path, .int .i64 y.act, .int .i64 y.ty.base, .bool y.ty.kw, .bool y.ty.ex, .bool y.ty.xe, .int .u64 y.con.sum, .int .i64 y.con.size, .int .i64 y.base, .string y.src, .int .i64 y.srcn, .int .i64 y.fence].toArray 44)).heap.size = wy.heap.size + 1 := (by simp); have HB6 := Lib.hid ((HBY.out.alloc HBY.out.size (.cells [.string y.path, .int .i64 y.act, .int .i64 y.ty.base, .bool y.ty.kw, .bool y.ty.ex, .bool y.ty.xe, .int .u64 y.con.sum, .int .i64 y.con.size, .int .i64 y.base, .string y.src, .int .i64 y.srcn, .int .i64 y.fence].toArray 44)).grown hg6 (by rw [hsa]; have := HBY.out.size; omega) (fun j e => by have := (HOOY.out.lt j e).1; have := HSZ.out; omega)); have HM6 := Lib.hid ((Bs.alloc HMY.out.2 (.cells [.string y.path, .int .i64 y.act, .int .i64 y.ty.base, .bool y.ty.kw, .bool y.ty.ex, .bool y.ty.xe, .int .u64 y.con.sum, .int .i64 y.con.size, .int .i64 y.base, .string y.src, .int .i64 y.srcn, .int .i64 y.fence].toArray 44)).grown hg6 (fun z hz e => by
                  have h1 := (HOOY.out.lt _ e).1
                  simp only [List.mem_cons, List.not_mem_nil, or_false] at hz
                  rcases hz with rfl | rfl | rfl | rfl <;> dsimp only at h1 <;> omega)); have HG6 := Lib.hid ((HOGY.out.alloc (.cells [.string y.path, .int .i64 y.act, .int .i64 y.ty.base, .bool y.ty.kw, .bool y.ty.ex, .bool y.ty.xe, .int .u64 y.con.sum, .int .i64 y.con.size, .int .i64 y.base, .string y.src, .int .i64 y.srcn, .int .i64 y.fence].toArray 44)).kept hg6 (by
                  cases e : u9.ownBlock with
                  | none => exact .inl rfl
                  | some j => exact .inr (fun e2 => HDJ.out j e e2.symm))); have HO6 := Lib.hid ho6; clear ho6 hg6 p4 g4; have p4 := HM6.out.1.cell 4; have g4 := HM6.out.1.fz 4; have lt7 := HM6.out.1.lt)
              -- MARKF
              go_roundw
              case rel =>
                refine ⟨k + 1, m, _, A6, n + 1, c6, by go_num, by omega, by omega, ownsRow_set HG6.out (p := ⟨w3.heap.size, 4, none⟩) (by dsimp only; omega) (.slice A6 (n + 1) c6), ?_, ?_, ?_, HB6.out.setCell (p := ⟨w3.heap.size, 4, none⟩) (by dsimp only; omega) (.slice A6 (n + 1) c6), ⟨HM6.out.1.set 4 (.slice A6 (n + 1) c6), HM6.out.2.1.far (p := ⟨w3.heap.size, 4, none⟩) (by dsimp only; omega) (.slice A6 (n + 1) c6), HM6.out.2.2.1.far (p := ⟨w3.heap.size, 4, none⟩) (by dsimp only; omega) (.slice A6 (n + 1) c6), HM6.out.2.2.2.1.far (p := ⟨w3.heap.size, 4, none⟩) (by dsimp only; omega) (.slice A6 (n + 1) c6), trivial⟩, ?_⟩
                · show _ = _
                  rw [HFS.out, HKP.out, HN.out]
                  simp
                · have h := ownsRow_set HO6.out (p := ⟨w3.heap.size, 4, none⟩) (by dsimp only; omega) (.slice A6 (n + 1) c6)
                  rw [show y.cells = edtK.cells y from rfl, RowK.flat_snoc] at h
                  rw [HFS.out, HKP.out]
                  simpa using h
                · intro j e e2
                  rcases hn6 j e2 with h | h
                  · exact HDJ.out j e h
                  · have := HGL.out j e
                    rw [hsa] at h
                    omega
                · show _ ≤ _
                  have : (w6.setCell ⟨w3.heap.size, 4, none⟩ (.slice A6 (n + 1) c6)).heap.size = w6.heap.size := by simp [World.setCell]
                  omega
              case measure => simp [intOf]; omega
      · obtain rfl : k = V.length := by omega
        obtain ⟨p0, p1, p2, p3, p4, p5⟩ := HM.out.2.2.2.1.c6
        go_wp2_with fail
        clear p0 p1 p2 p3 p4 p5
        obtain ⟨wo, hwo⟩ : ∃ y, y = wr := ⟨_, rfl⟩
        go_loopw [90] (fun i wx => i = .int .i64 0 ∧ wx = wo) (fun _ _ => 0)
        case atStart => exact ⟨rfl, hwo.symm⟩
        case round =>
          obtain ⟨rfl, rfl⟩ := hrel
          subst hwo
          obtain ⟨p0, p1, p2, p3, p4, p5⟩ := HM.out.1.c6
          obtain ⟨z0, z1, z2, z3, z4, z5⟩ := HM.out.2.2.1.c6
          have f0 := HM.out.2.2.1.fz 0
          have f1 := HM.out.2.2.1.fz 1
          have f2 := HM.out.2.2.1.fz 2
          have f3 := HM.out.2.2.1.fz 3
          have f4 := HM.out.2.2.1.fz 4
          have f5 := HM.out.2.2.1.fz 5
          go_wp2_with fail
          have KZ := Lib.hid (zero_put HM.out.2.2.1 (.int .i64 pn) (.string pc) (.string pt) (.bool ps) (.slice O n c) (.slice none 0 0))
          have HBZ := Lib.hid (below_put6 HB.out (b := w.heap.size + 1) (by omega) (.int .i64 pn) (.string pc) (.string pt) (.bool ps) (.slice O n c) (.slice none 0 0))
          have HOZ := Lib.hid (own_put6 HOO.out (b := w.heap.size + 1) (by intro e; have := HOO.out.lt _ e; omega) (.int .i64 pn) (.string pc) (.string pt) (.bool ps) (.slice O n c) (.slice none 0 0))
          (generalize World.setCell (World.setCell (World.setCell (World.setCell (World.setCell (World.setCell _ _ _) _ _) _ _) _ _) _ _) _ _ = wz at *)
          obtain ⟨y0, y1, y2, y3, y4, y5⟩ := KZ.out.c6
          refine bodyPost_ret (v := .tuple #[.agg #[.int .i64 pn, .string pc, .string pt, .bool ps, .slice O n c, .slice none 0 0], .int .i64 0]) (by simp [results, Tryz.results73, go_sem, y0, y1, y2, y3, y4, y5]) rfl ?_
          have hn := HN.out
          have ho := HOZ.out
          rw [List.take_length] at hn ho
          subst hn
          exact PRet.yes HQ1.out ho HBZ.out (by omega)
end Go.Proofs.YtocffknoeknabaaGreatDoor
