/-
  CreditAlone returns true for all changes and files that are not longer than 1048576 bytes; what was in memory before the call stays as it was (printed by mkalone.py).
-/
import Derived.Test.YthonhikkoabhlaaGreatDoorCrLi
import Derived.Test.YthonhikkoabhlaaGreatDoorCrY
import Derived.Test.YthonhikkoabhlaaGreatDoorCrW
import Derived.Test.YthonhikkoabhlaaGreatDoorDpM
import Derived.Test.YthonhikkoabhlaaGreatDoorDpN
namespace Go.Proofs.YthonhikkoabhlaaGreatDoor
open Go.RowKit

theorem same_len {A B : List Fil} (ha : A.Nodup) (hb : B.Nodup) (h : ∀ g, g ∈ A ↔ g ∈ B) : A.length = B.length :=
  Nat.le_antisymm (nodup_le ha fun x hx => (h x).1 hx) (nodup_le hb fun x hx => (h x).2 hx)
theorem one_list {A : List Fil} {f : Fil} (ha : A.Nodup) (h : ∀ g, g ∈ A ↔ g = f) : A = [f] := by
  cases A with
  | nil => exact absurd ((h f).2 rfl) (by simp)
  | cons x r =>
    obtain rfl := (h x).1 (List.mem_cons_self ..)
    cases r with
    | nil => rfl
    | cons y r =>
      obtain rfl := (h y).1 (List.mem_cons_of_mem _ (List.mem_cons_self ..))
      simp at ha
theorem up_snoc {w : World} {b : Nat} {v : Value} {L : List Rev} {k : Nat} {x : Rev} (hx : L[k]? = some x) (h : w.ownsRow b 47 2 v (k + 1) (filK.flat (upD L k) ++ filK.cells x.fil)) : w.ownsRow b 47 2 v (k + 1) (filK.flat (upD L (k + 1))) := by
  rw [RowK.flat_snoc] at h
  rw [upD_succ hx]
  exact h
theorem upD_len {L : List Rev} {k : Nat} (h : k ≤ L.length) : (upD L k).length = k := by
  unfold upD
  rw [List.length_map, List.length_take]
  omega
set_option maxRecDepth 100000 in
set_option maxHeartbeats 12800000 in
theorem alone_any (l : List Chg) (A : Option Addr) (ca : Nat) (p : ByteArray) (n : Int) (w : World) (hA : ChsIn A l w) (hb : ChBnd l) (hp : p.size ≤ 1048576) (hg : G0 w) :
    Calls Tryz.prog 4 #[.slice A l.length ca, .agg #[.string p, .int .i64 n]] w fun e w' => e = .returned (.bool true) ∧ Below w.heap.size w w' := by
  obtain ⟨i0, hi0, hz0, hz1, hz2⟩ := info_parts Tryz.infoFile
  have HSM := Lib.hid (fun x hx => rsmall_any l A ca x (hA.below hx) hb)
  have HBU := Lib.hid (fun x (hx : Below w.heap.size w x) => rbuild_any l A ca x (hA.below hx) (by have := hb.len; omega) (fun c hc => hb.sz hc) (hg.below hx))
  clear hA hb hg
  go_enter Tryz.func4, Tryz.ntmps4
  go_upto_region 1 with fail
  have HF := Lib.hid (Blk.new w 47 [.string p, .int .i64 n])
  have HB := Lib.hid ((Below.refl w.heap.size w).alloc (Nat.le_refl _) (.cells #[.string p, .int .i64 n] 47))
  generalize World.alloc w _ = w0 at *
  obtain ⟨f0, f1⟩ := HF.out.c2
  have hsm := HSM.out _ HB.out
  go_wp2_with fail
  refine hsm.mono ?_
  rintro e w1 ⟨sm, rfl, -, hb⟩
  clear hsm f0 f1
  replace HB := Lib.hid (HB.out.trans (hb.mono HB.out.size))
  replace HF := Lib.hid (HF.out.below hb)
  clear hb
  obtain ⟨f0, f1⟩ := HF.out.c2
  cases sm
  · go_wp2_with (go_at_call 6; refine (awake14_any _).mono ?_; rintro e w9 ⟨rfl, HB9⟩)
    go_ret
    exact ⟨rfl, HB.out.trans (HB9.mono HB.out.size)⟩
  by_cases h6 : 300 < p.size
  · have h6' : (300 : Int) < (p.size : Int) := by omega
    go_wp2_with (go_at_call 6; refine (awake14_any _).mono ?_; rintro e w9 ⟨rfl, HB9⟩)
    go_ret
    exact ⟨rfl, HB.out.trans (HB9.mono HB.out.size)⟩
  have h6' : ¬ (300 : Int) < (p.size : Int) := by omega
  go_wp2_with fail
  refine (HBU.out _ HB.out).mono ?_
  rintro e w3 ⟨d, DA, DB, da, db, rfl, hblt, hIA, hIB, hb⟩
  clear f0 f1
  have HC := Lib.hid hblt.crd
  have hRl : d.revs.length ≤ 512 := hblt.ok.few
  have hRr : d.recs.length ≤ 512 := hblt.ok.fewr
  have hb4 := (Below.refl w3.heap.size w3).alloc (Nat.le_refl _) (.cells #[.slice DA d.revs.length da, .slice DB d.recs.length db] 28)
  have HI := Lib.hid (hIA.below hb4)
  have HQ := Lib.hid (hIB.below hb4)
  have HM : Hid (Bs [(w3.heap.size, 28, [.slice DA d.revs.length da, .slice DB d.recs.length db])] (w3.alloc (.cells [.slice DA d.revs.length da, .slice DB d.recs.length db].toArray 28))) := ⟨Blk.new w3 28 [.slice DA d.revs.length da, .slice DB d.recs.length db], trivial⟩
  replace HB := Lib.hid (HB.out.trans (hb.mono HB.out.size))
  replace HF := Lib.hid (HF.out.below hb)
  replace HB := Lib.hid (HB.out.trans (hb4.mono HB.out.size))
  replace HF := Lib.hid (HF.out.below hb4)
  clear hb hb4 hIA hIB hblt HSM HBU
  go_upto_region 4 with fail
  generalize World.alloc w3 (.cells #[.slice DA d.revs.length da, .slice DB d.recs.length db] 28) = w4 at *
  generalize w3.heap.size = qb at *
  obtain ⟨d0, d1⟩ := HM.out.1.c2
  obtain ⟨f0, f1⟩ := HF.out.c2
  go_wp2_with fail
  refine (line_any d DA DB da db p n w4 HC.out HI.out).mono ?_
  rintro e w5 ⟨L, AL, cL, rfl, hin, hld, hLn, hb⟩
  clear d0 d1 f0 f1 HF
  replace HB := Lib.hid (HB.out.trans (hb.mono HB.out.size))
  replace HM := Lib.hid (HM.out.below hb)
  replace HI := Lib.hid (HI.out.below hb)
  replace HQ := Lib.hid (HQ.out.below hb)
  have HLN := Lib.hid hin
  have HLD := Lib.hid hld
  clear hb hin hld
  go_wp2_with fail
  go_loopw [40] (fun i wr => ∃ k : Nat, i = .int .i64 k ∧ k ≤ L.length ∧ Below w5.heap.size w5 wr ∧ Hid (∀ (j : Nat) (v : Rev), j < k → L[j]? = some v → recsD d.recs v.fil = [])) (fun i _ => L.length - (intOf i).toNat)
  case atStart => exact ⟨0, rfl, Nat.zero_le _, Below.refl _ _, fun j v h => absurd h (Nat.not_lt_zero _)⟩
  case round =>
    obtain ⟨k, rfl, hk, hbr, hno⟩ := hrel
    have HBR := Lib.hid hbr
    clear hbr
    by_cases hlt : k < L.length
    · obtain ⟨g, off, rfl, hbl, hat⟩ := HLN.out (by omega)
      have hgk := List.getElem?_eq_getElem hlt
      generalize hq : L[k] = v at *
      have HGK := Lib.hid hgk
      have hat := hat.below HBR.out hbl
      obtain ⟨vp, vn, vc, va, ⟨tb, tk, te, tx⟩, ⟨cs, cz⟩, vs, vm⟩ := v
      (have hcv := fun j (u : Value) (hj : ((⟨vp, vn, vc, va, ⟨tb, tk, te, tx⟩, ⟨cs, cz⟩, vs, vm⟩ : Rev)).cells[j]? = some u) => ((hat).get hgk hj); have c0 := hcv 0 _ rfl; have c1 := hcv 1 _ rfl; have c2 := hcv 2 _ rfl; have c3 := hcv 3 _ rfl; have c4 := hcv 4 _ rfl; have c5 := hcv 5 _ rfl; have c6 := hcv 6 _ rfl; have c7 := hcv 7 _ rfl; have c8 := hcv 8 _ rfl; have c9 := hcv 9 _ rfl; have c10 := hcv 10 _ rfl; have c11 := hcv 11 _ rfl; have e12 : revK.n = 12 := rfl; simp only [e12, Nat.add_zero] at c0 c1 c2 c3 c4 c5 c6 c7 c8 c9 c10 c11; clear hcv e12)
      have hb6 := (Below.refl wr.heap.size wr).alloc (Nat.le_refl _) (.cells (#[.string vp, .int .i64 vn, .int .i64 vc, .int .i64 va, .int .i64 tb, .bool tk, .bool te, .bool tx, .int .u64 cs, .int .i64 cz, .string vs, .int .i64 vm]) 43)
      have HV6 := Lib.hid (Blk.new wr 43 ([.string vp, .int .i64 vn, .int .i64 vc, .int .i64 va, .int .i64 tb, .bool tk, .bool te, .bool tx, .int .u64 cs, .int .i64 cz, .string vs, .int .i64 vm]))
      have HB6 := Lib.hid (HBR.out.trans (hb6.mono HBR.out.size))
      have HM6 := Lib.hid (HM.out.below HB6.out)
      have HQ6 := Lib.hid (HQ.out.below HB6.out)
      clear hat hgk hq hb6
      go_upto_region 8 with fail
      generalize World.alloc wr _ = w6 at *
      generalize wr.heap.size = vb at *
      clear c0 c1 c2 c3 c4 c5 c6 c7 c8 c9 c10 c11
      obtain ⟨d0, d1⟩ := HM6.out.1.c2
      go_wp2_with fail
      clear d0 d1
      go_loopw [47] (fun i wx => ∃ m : Nat, i = .int .i64 m ∧ m ≤ d.recs.length ∧ Below w6.heap.size w6 wx ∧ Hid (recsD (d.recs.take m) (vp, vn) = [])) (fun i _ => d.recs.length - (intOf i).toNat)
      case atStart => exact ⟨0, rfl, Nat.zero_le _, Below.refl _ _, rfl⟩
      case round =>
        obtain ⟨m, rfl, hm, hbx, hnr⟩ := hrel
        have HBX := Lib.hid hbx
        clear hbx
        have HV7 := Lib.hid (HV6.out.below HBX.out)
        by_cases hml : m < d.recs.length
        · obtain ⟨g2, off2, rfl, hbl2, hat⟩ := HQ6.out (by omega)
          have hgk := List.getElem?_eq_getElem hml
          have htk : d.recs.take (m + 1) = d.recs.take m ++ [d.recs[m]] := by rw [List.take_succ_eq_append_getElem hml]
          generalize hq : d.recs[m] = r at *
          obtain ⟨rs, rf, rl, rt, rn, rh⟩ := r
          have HTK := Lib.hid htk
          have hat := hat.below HBX.out hbl2
          (have hcv := fun j (u : Value) (hj : ((⟨rs, rf, rl, rt, rn, rh⟩ : Rcd)).cells[j]? = some u) => ((hat).get hgk hj); have c0 := hcv 0 _ rfl; have c1 := hcv 1 _ rfl; have c2 := hcv 2 _ rfl; have c3 := hcv 3 _ rfl; have c4 := hcv 4 _ rfl; have c5 := hcv 5 _ rfl; have e12 : rcdK.n = 6 := rfl; simp only [e12, Nat.add_zero] at c0 c1 c2 c3 c4 c5; clear hcv e12)
          have hb8 := (Below.refl _ wr).alloc (Nat.le_refl _) (.cells #[.string rs, .int .i64 rf, .int .i64 rl, .string rt, .int .i64 rn, .int .i64 rh] 51)
          have HR8 := Lib.hid (Blk.new wr 51 [.string rs, .int .i64 rf, .int .i64 rl, .string rt, .int .i64 rn, .int .i64 rh])
          have HV8 := Lib.hid (HV7.out.below hb8)
          have HB8 := Lib.hid (HBX.out.trans (hb8.mono HBX.out.size))
          clear hat hgk hq htk hb8
          go_upto_region 11 with fail
          generalize World.alloc wr _ = w8 at *
          generalize wr.heap.size = qr at *
          clear c0 c1 c2 c3 c4 c5
          obtain ⟨-, -, -, r3, r4, -⟩ := HR8.out.c6
          obtain ⟨v0, v1, -, -, -, -, -, -, -, -, -, -⟩ := HV8.out.c12
          have skip : ((rt, rn) == ((vp, vn) : Fil)) = false → Hid (recsD (d.recs.take (m + 1)) (vp, vn) = []) := fun h => by
            show _ = _
            rw [HTK.out, recsD_snoc, hnr.out, h]
            rfl
          cases hp2 : (rt == vp)
          · have hp' : (rt.toList == vp.toList) = false := by rw [path_tl]; exact hp2
            have HNX := Lib.hid (skip (by
              have : rt ≠ vp := by simpa using hp2
              simp [this]))
            clear skip hp2
            go_wp2_with fail
            go_roundw
            case rel => exact ⟨m + 1, by go_num, by omega, HB8.out, HNX.out⟩
            case measure => simp [intOf]; omega
          · have hp' : (rt.toList == vp.toList) = true := by rw [path_tl]; exact hp2
            by_cases hn2 : rn = vn
            · have e1 : (rn == vn) = true := by simpa using hn2
              have e1' : decide (rn = vn) = true := by simpa using hn2
              have HB9x := Lib.hid ((HB.out.trans (HB6.out.mono HB.out.size)).trans (HB8.out.mono (Nat.le_trans HB.out.size HB6.out.size)))
              clear skip hp2 hn2
              go_wp2_with (go_at_call 6; refine (awake14_any _).mono ?_; rintro e w9 ⟨rfl, HB9⟩)
              go_ret
              exact ⟨rfl, HB9x.out.trans (HB9.mono HB9x.out.size)⟩
            · have e1 : (rn == vn) = false := by simpa using hn2
              have e1' : decide (rn = vn) = false := by simpa using hn2
              have HNX := Lib.hid (skip (by simp [hn2]))
              clear skip hp2 hn2
              go_wp2_with fail
              go_roundw
              case rel => exact ⟨m + 1, by go_num, by omega, HB8.out, HNX.out⟩
              case measure => simp [intOf]; omega
        · obtain rfl : m = d.recs.length := by omega
          have hnr2 := hnr.out
          rw [List.take_length] at hnr2
          have HN2 : Hid (∀ (j : Nat) (v : Rev), j < k + 1 → L[j]? = some v → recsD d.recs v.fil = []) := fun j v hj h => by
            by_cases e : j = k
            · rw [e, HGK.out] at h
              cases h
              exact hnr2
            · exact hno.out j v (by omega) h
          have HBZ := Lib.hid (HB6.out.trans (HBX.out.mono HB6.out.size))
          clear hnr2 hnr hno
          go_wp2_with fail
          go_roundw
          case rel => exact ⟨k + 1, by go_num, by omega, HBZ.out, HN2⟩
          case measure => simp [intOf]; omega
    · obtain rfl : k = L.length := by omega
      have HNR : Hid (∀ (i : Nat) (v : Rev), L[i]? = some v → recsD d.recs v.fil = []) := fun i v h => hno.out i v (List.getElem?_eq_some_iff.1 h).1 h
      have hb := HBR.out
      clear hno
      have HB := Lib.hid (HB.out.trans (hb.mono HB.out.size))
      have HM := Lib.hid (HM.out.below hb)
      have HI := Lib.hid (HI.out.below hb)
      have HQ := Lib.hid (HQ.out.below hb)
      have HLN := Lib.hid (HLN.out.below hb)
      clear hb
      obtain ⟨wS, hwS⟩ : ∃ x : World, x = wr := ⟨_, rfl⟩
      rw [← hwS] at HB HM HI HQ HLN ⊢
      clear hwS
      generalize wr = wjunk at *
      go_wp2_with fail
      go_loopw [11, 68] (fun x i wr => ∃ k : Nat, i = .int .i64 k ∧ k ≤ L.length ∧ wr.ownsRow wS.heap.size 47 2 x k (filK.flat (upD L k)) ∧ Below wS.heap.size wS wr) (fun _ i _ => L.length - (intOf i).toNat)
      case atStart => exact ⟨0, rfl, Nat.zero_le _, World.ownsRow_nil _ _ _ _, Below.refl _ _⟩
      case round =>
        obtain ⟨k, rfl, hk, hO, hbr⟩ := hrel
        have HO0 := Lib.hid hO
        have HBS := Lib.hid hbr
        clear hO hbr
        by_cases hlt : k < L.length
        · obtain ⟨g, off, rfl, hbl, hat⟩ := HLN.out (by omega)
          have hgk := List.getElem?_eq_getElem hlt
          generalize hq : L[k] = v at *
          have HGK := Lib.hid hgk
          have HMV := Lib.hid (HLD.out.mem k v hgk)
          have HCR := Lib.hid ((HLD.out.sets HC.out.hist HNR.out k v hgk))
          have HCN := Lib.hid (fun f => HLD.out.con HC.out.hist HNR.out hgk f)
          have HOG := Lib.hid (HLD.out.orig HNR.out hgk)
          have HND := Lib.hid (HLD.out.nodup HC.out.hist (k + 1) hlt)
          have HUL := Lib.hid (upD_len (L := L) (k := k + 1) hlt)
          have HOL := Lib.hid (fun j (e : u11.ownBlock = some j) => (HO0.out.lt j e).2)
          have hat := hat.below HBS.out hbl
          obtain ⟨vp, vn, vc, va, ⟨tb, tk, te, tx⟩, ⟨cs, cz⟩, vs, vm⟩ := v
          have hms : (memD d.revs (vp, vn)).isSome = true := by
            have h := HMV.out
            unfold Rev.fil at h
            dsimp only at h
            rw [h]
            rfl
          have HMS := Lib.hid hms
          have HVO := Lib.hid (HC.out.fok hms)
          have HER := Lib.hid (errC_mem (d := d) hms)
          unfold Rev.fil at HCR HCN HOG
          dsimp only at HCR HCN HOG
          (have hcv := fun j (u : Value) (hj : ((⟨vp, vn, vc, va, ⟨tb, tk, te, tx⟩, ⟨cs, cz⟩, vs, vm⟩ : Rev)).cells[j]? = some u) => ((hat).get hgk hj); have c0 := hcv 0 _ rfl; have c1 := hcv 1 _ rfl; have c2 := hcv 2 _ rfl; have c3 := hcv 3 _ rfl; have c4 := hcv 4 _ rfl; have c5 := hcv 5 _ rfl; have c6 := hcv 6 _ rfl; have c7 := hcv 7 _ rfl; have c8 := hcv 8 _ rfl; have c9 := hcv 9 _ rfl; have c10 := hcv 10 _ rfl; have c11 := hcv 11 _ rfl; have e12 : revK.n = 12 := rfl; simp only [e12, Nat.add_zero] at c0 c1 c2 c3 c4 c5 c6 c7 c8 c9 c10 c11; clear hcv e12)
          have hb1 := (Below.refl wr.heap.size wr).alloc (Nat.le_refl _) (.cells (#[.string vp, .int .i64 vn, .int .i64 vc, .int .i64 va, .int .i64 tb, .bool tk, .bool te, .bool tx, .int .u64 cs, .int .i64 cz, .string vs, .int .i64 vm]) 43)
          have HV := Lib.hid (Blk.new wr 43 ([.string vp, .int .i64 vn, .int .i64 vc, .int .i64 va, .int .i64 tb, .bool tk, .bool te, .bool tx, .int .u64 cs, .int .i64 cz, .string vs, .int .i64 vm]))
          replace HBS := Lib.hid (HBS.out.trans (hb1.mono HBS.out.size))
          replace HO0 := Lib.hid (HO0.out.alloc (.cells (#[.string vp, .int .i64 vn, .int .i64 vc, .int .i64 va, .int .i64 tb, .bool tk, .bool te, .bool tx, .int .u64 cs, .int .i64 cz, .string vs, .int .i64 vm]) 43))
          clear hat hgk hq hb1 hms
          go_upto_region 19 with fail
          generalize World.alloc wr _ = w6 at *
          generalize wr.heap.size = vb at *
          clear c0 c1 c2 c3 c4 c5 c6 c7 c8 c9 c10 c11
          obtain ⟨v0, v1, -, -, -, -, -, -, -, -, -, -⟩ := HV.out.c12
          have hb2 := (Below.refl w6.heap.size w6).alloc (Nat.le_refl _) (.cells #[.string vp, .int .i64 vn] 47)
          have HX := Lib.hid (Blk.new w6 47 [.string vp, .int .i64 vn])
          have hvx := HV.out.lt
          replace HBS := Lib.hid (HBS.out.trans (hb2.mono HBS.out.size))
          replace HV := Lib.hid (HV.out.below hb2)
          replace HO0 := Lib.hid (HO0.out.alloc (.cells #[.string vp, .int .i64 vn] 47))
          clear hb2
          go_upto_region 20 with fail
          generalize World.alloc w6 _ = w7 at *
          generalize w6.heap.size = xb at *
          clear v0 v1
          obtain ⟨x0, x1⟩ := HX.out.c2
          have HLT := Lib.hid (filK.lit w7 (vp, vn) 47)
          have hz7 := HBS.out.size
          have hxl := HX.out.lt
          go_upto_region 21 with (at_builtin; go_loud (refine wpList_append_own _ rfl _ _ 30 rfl wS.heap.size 47 i0 (.agg #[.string ⟨#[]⟩, .int .i64 0]) 2 24 Tryz.underlying30 hi0 hz0 hz1 hz2 rfl (by decide) _ _ _ rfl (HO0.out.alloc _) ⟨w7.heap.size, 0, none⟩ 1 1 (filK.cells (vp, vn)) rfl rfl HLT.out.1 HLT.out.2 (by unfold maxLen; omega) (by omega) (by simp; omega) ?_); intro v2 w8 ho2 hg2 _)
          have HO := Lib.hid (up_snoc HGK.out ho2)
          have hB8 : Below wS.heap.size wS w8 := (HBS.out.alloc HBS.out.size _).grown hg2 (by simp; omega) (fun j e => by have := (HO0.out.lt j e).1; omega)
          have hX8 := (HX.out.alloc (.cells #[.string vp, .int .i64 vn] 47)).of (hg2.block _ (by simp; omega) (fun e => by have := HOL.out _ e.symm; omega))
          have hV8 := (HV.out.alloc (.cells #[.string vp, .int .i64 vn] 47)).of (hg2.block _ (by simp; omega) (fun e => by have := HOL.out _ e.symm; omega))
          replace HBS := Lib.hid hB8
          replace HX := Lib.hid hX8
          replace HV := Lib.hid hV8
          clear ho2 hg2 hB8 hX8 hV8 HO0 HLT HOL x0 x1
          have HM := Lib.hid (HM.out.below HBS.out)
          have HI := Lib.hid (HI.out.below HBS.out)
          have HQ := Lib.hid (HQ.out.below HBS.out)
          obtain ⟨d0, d1⟩ := HM.out.1.c2
          obtain ⟨v0, v1, -, -, -, -, -, -, -, -, -, -⟩ := HV.out.c12
          go_wp2_with fail
          refine (pcon_any d DA DB da db vp vn w8 HC.out HI.out HQ.out HVO.out).mono ?_
          rintro e w8' ⟨L1, A1, c1, rfl, hi, hs, hm, hb⟩
          clear d0 d1 v0 v1
          replace HBS := Lib.hid (HBS.out.trans (hb.mono HBS.out.size))
          replace HM := Lib.hid (HM.out.below hb)
          replace HI := Lib.hid (HI.out.below hb)
          replace HQ := Lib.hid (HQ.out.below hb)
          replace HV := Lib.hid (HV.out.below hb)
          replace HX := Lib.hid (HX.out.below hb)
          replace HO := Lib.hid (ownsRow_below HO.out hb)
          have HL1 := Lib.hid hi
          have HN1 := Lib.hid hs.nodup
          have HE1 := Lib.hid hm
          clear hb hi hs hm
          rw [HER.out]
          obtain ⟨d0, d1⟩ := HM.out.1.c2
          obtain ⟨v0, v1, -, -, -, -, -, -, -, -, -, -⟩ := HV.out.c12
          go_wp2_with fail
          refine (pcar_any d DA DB da db vp vn w8' HC.out HI.out HQ.out HVO.out).mono ?_
          rintro e w8'' ⟨L2, A2, c2, rfl, hi, hs, hm, hb⟩
          clear d0 d1 v0 v1
          replace HBS := Lib.hid (HBS.out.trans (hb.mono HBS.out.size))
          replace HM := Lib.hid (HM.out.below hb)
          replace HI := Lib.hid (HI.out.below hb)
          replace HQ := Lib.hid (HQ.out.below hb)
          replace HV := Lib.hid (HV.out.below hb)
          replace HX := Lib.hid (HX.out.below hb)
          replace HL1 := Lib.hid (HL1.out.below hb)
          replace HO := Lib.hid (ownsRow_below HO.out hb)
          have HL2 := Lib.hid hi
          have HN2 := Lib.hid hs.nodup
          have HE2 := Lib.hid hm
          clear hb hi hs hm
          rw [HER.out]
          obtain ⟨d0, d1⟩ := HM.out.1.c2
          obtain ⟨v0, v1, -, -, -, -, -, -, -, -, -, -⟩ := HV.out.c12
          go_wp2_with fail
          refine (pcre_any d DA DB da db vp vn w8'' HC.out HI.out HQ.out HVO.out).mono ?_
          rintro e w8''' ⟨L3, A3, c3, rfl, hi, hs, hm, hb⟩
          clear d0 d1 v0 v1
          replace HBS := Lib.hid (HBS.out.trans (hb.mono HBS.out.size))
          replace HM := Lib.hid (HM.out.below hb)
          replace HI := Lib.hid (HI.out.below hb)
          replace HQ := Lib.hid (HQ.out.below hb)
          replace HV := Lib.hid (HV.out.below hb)
          replace HX := Lib.hid (HX.out.below hb)
          replace HL1 := Lib.hid (HL1.out.below hb)
          replace HL2 := Lib.hid (HL2.out.below hb)
          replace HO := Lib.hid (ownsRow_below HO.out hb)
          have HL3 := Lib.hid hi
          have HN3 := Lib.hid hs.nodup
          have HE3 := Lib.hid hm
          clear hb hi hs hm
          rw [HER.out]
          obtain ⟨d0, d1⟩ := HM.out.1.c2
          obtain ⟨v0, v1, -, -, -, -, -, -, -, -, -, -⟩ := HV.out.c12
          go_wp2_with fail
          refine (porig_any d DA DB da db vp vn w8''' HC.out HI.out HQ.out HVO.out).mono ?_
          rintro e w8'''' ⟨rfl, hb⟩
          clear d0 d1 v0 v1
          replace HBS := Lib.hid (HBS.out.trans (hb.mono HBS.out.size))
          replace HM := Lib.hid (HM.out.below hb)
          replace HI := Lib.hid (HI.out.below hb)
          replace HQ := Lib.hid (HQ.out.below hb)
          replace HV := Lib.hid (HV.out.below hb)
          replace HX := Lib.hid (HX.out.below hb)
          replace HL1 := Lib.hid (HL1.out.below hb)
          replace HL2 := Lib.hid (HL2.out.below hb)
          replace HL3 := Lib.hid (HL3.out.below hb)
          replace HO := Lib.hid (ownsRow_below HO.out hb)
          clear hb
          rw [HER.out]
          rw [HOG.out]
          generalize w8'''' = w9 at *
          obtain rfl : L1 = [(vp, vn)] := one_list HN1.out fun g => by rw [HE1.out g, HCN.out g]
          have hl2 : L2.length = k + 1 := by rw [same_len HN2.out HND.out fun g => by rw [HE2.out g]; exact HCR.out.1 g]; exact HUL.out
          have hl3 : L3.length = k + 1 := by rw [same_len HN3.out HND.out fun g => by rw [HE3.out g]; exact HCR.out.2 g]; exact HUL.out
          obtain ⟨g1, o1, rfl, hgl1, hat1⟩ := HL1.out (by simp)
          obtain ⟨gx, cp, rfl, hgx⟩ : ∃ gx cp, v2 = .slice (some ⟨gx, 0, none⟩) (k + 1) cp ∧ gx < w9.heap.size := by
            rcases ownsRow_cases HO.out with ⟨_, h⟩ | ⟨gx, cp, h3, _, h4, _⟩
            · omega
            · exact ⟨gx, cp, h3, h4⟩
          have q0 := hat1.get (i := 0) rfl (show (filK.cells (vp, vn))[0]? = some (.string vp) from rfl)
          have q1 := hat1.get (i := 0) rfl (show (filK.cells (vp, vn))[1]? = some (.int .i64 vn) from rfl)
          have e2 : filK.n = 2 := rfl
          simp only [e2, Nat.zero_mul, Nat.add_zero] at q0 q1
          obtain ⟨x0, x1⟩ := HX.out.c2
          have hxl2 := HX.out.lt
          clear hat1 e2
          go_upto_region 25 with fail
          have hS : Below w9.heap.size w9 w9.drew := (Below.refl _ _).drew
          have y0 := fun y : Held (Below w9.heap.size w9) => (y.ok.cell (p := ⟨g1, o1, none⟩) hgl1).trans q0
          have y1 := fun y : Held (Below w9.heap.size w9) => (y.ok.cell (p := ⟨g1, o1 + 1, none⟩) hgl1).trans q1
          have y2 := fun y : Held (Below w9.heap.size w9) => (y.ok.cell (p := ⟨xb, 0, none⟩) hxl2).trans x0
          have y3 := fun y : Held (Below w9.heap.size w9) => (y.ok.cell (p := ⟨xb, 1, none⟩) hxl2).trans x1
          (refine wp_region_s (S := Below w9.heap.size w9) (by kernel_rfl) (by kernel_rfl) hS ?_; have hN : Nonempty (Held (Below w9.heap.size w9)) := ⟨⟨_, hS⟩⟩; skip; (repeat (go_big_quiet_step (fail))); refine wpQuiet_nil ?_; rintro x ⟨⟨_, hx⟩, rfl⟩; clear hN)
          clear y0 y1 y2 y3 q0 q1 x0 x1
          replace HBS := Lib.hid (HBS.out.trans (hx.mono HBS.out.size))
          replace HO := Lib.hid (ownsRow_below HO.out hx)
          replace HL2 := Lib.hid (HL2.out.below hx)
          replace HL3 := Lib.hid (HL3.out.below hx)
          have HK2 : Hid (∀ f ∈ L2, FOk f) := fun g hg => HC.out.fok (tab_mem HC.out.hist _ (vp, vn) (Nat.le_refl _) g (.inl ((HE2.out g).1 hg))).1
          have HK3 : Hid (∀ f ∈ L3, FOk f) := fun g hg => HC.out.fok (tab_mem HC.out.hist _ (vp, vn) (Nat.le_refl _) g (.inr (.inr ((HE3.out g).1 hg)))).1
          have HUM2 : Hid (∀ f ∈ upD L (k + 1), f ∈ L2) := fun g hg => (HE2.out g).2 ((HCR.out.1 g).2 hg)
          have HUM3 : Hid (∀ f ∈ upD L (k + 1), f ∈ L3) := fun g hg => (HE3.out g).2 ((HCR.out.2 g).2 hg)
          have HUK : Hid (∀ f ∈ upD L (k + 1), FOk f) := fun g hg => HK2.out g (HUM2.out g hg)
          have hn2 : L2.length ≤ 512 := mem_few HC.out (S := (tabD d (vp, vn)).car) (fun g hg => (tab_mem HC.out.hist _ (vp, vn) (Nat.le_refl _) g (.inl hg)).1) L2 HN2.out (fun f hf => (HE2.out f).1 hf)
          have hk512 : k + 1 ≤ 512 := by omega
          clear hx hxl2 hgl1 HV HX HM HI HQ HL1
          generalize x = wx at *
          go_wp2_with fail
          have hset := set_any L2 A2 c2 wx HL2.out HK2.out (by omega)
          rw [hl2] at hset
          refine hset.mono ?_
          rintro e wx' ⟨rfl, hs, hb⟩
          clear hset
          replace HBS := Lib.hid (HBS.out.trans (hb.mono HBS.out.size))
          replace HO := Lib.hid (ownsRow_below HO.out hb)
          replace HL3 := Lib.hid (HL3.out.below hb)
          have hwi := within_any (upD L (k + 1)) (fun f => f ∈ L2) (some ⟨gx, 0, none⟩) cp wx.heap.size wx' (RowK.In.of_row (R := filK) HO.out) HUK.out hs HUM2.out (by rw [HUL.out]; exact hk512)
          rw [HUL.out] at hwi
          clear hb hs
          go_wp2_with fail
          refine hwi.mono ?_
          rintro e wx'' ⟨rfl, hb⟩
          clear hwi
          replace HBS := Lib.hid (HBS.out.trans (hb.mono HBS.out.size))
          replace HO := Lib.hid (ownsRow_below HO.out hb)
          replace HL3 := Lib.hid (HL3.out.below hb)
          clear hb
          generalize wx'' = wy at *
          go_wp2_with fail
          have hset := set_any L3 A3 c3 wy HL3.out HK3.out (by omega)
          rw [hl3] at hset
          refine hset.mono ?_
          rintro e wy' ⟨rfl, hs, hb⟩
          clear hset
          replace HBS := Lib.hid (HBS.out.trans (hb.mono HBS.out.size))
          replace HO := Lib.hid (ownsRow_below HO.out hb)
          have hwi := within_any (upD L (k + 1)) (fun f => f ∈ L3) (some ⟨gx, 0, none⟩) cp wy.heap.size wy' (RowK.In.of_row (R := filK) HO.out) HUK.out hs HUM3.out (by rw [HUL.out]; exact hk512)
          rw [HUL.out] at hwi
          clear hb hs
          go_wp2_with fail
          refine hwi.mono ?_
          rintro e wy'' ⟨rfl, hb⟩
          clear hwi
          replace HBS := Lib.hid (HBS.out.trans (hb.mono HBS.out.size))
          replace HO := Lib.hid (ownsRow_below HO.out hb)
          clear hb
          go_wp2_with fail
          go_roundw
          case rel =>
            refine ⟨k + 1, ?_, ?_, HO.out, HBS.out⟩
            · go_num
            · omega
          case measure => simp [intOf]; omega
        · have HBE := Lib.hid (HB.out.trans (HBS.out.mono HB.out.size))
          clear HO0 HBS
          go_wp2_with (go_at_call 6; refine (awake14_any _).mono ?_; rintro e w9 ⟨rfl, HB9⟩)
          go_ret
          exact ⟨rfl, HBE.out.trans (HB9.mono HBE.out.size)⟩
end Go.Proofs.YthonhikkoabhlaaGreatDoor
