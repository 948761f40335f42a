/-
  The walk of history.Get: what it finds is one of the revisions (printed by mkget.py).
-/
import Derived.Test.YthonhikkoabhlaaGreatDoorCrU
namespace Go.Proofs.YthonhikkoabhlaaGreatDoor
open Go.RowKit

theorem get1_any (v : Rev) (nb : Nat) (n : Int) (w : World) (hb : Blk nb 3 [.int .i64 n] w) : Calls Tryz.prog 35 #[v.val, .pointer (some ⟨nb, 0, none⟩)] w fun e w' => e = .returned (.bool (v.num == n)) ∧ Below w.heap.size w w' := by
  have b0 := hb.cell 0
  have hl := hb.lt
  (obtain ⟨vp, vn, vc, va, ⟨tb, tk, te, tx⟩, ⟨cs, cz⟩, vs, vm⟩ := v)
  unfold Rev.val Rev.cells
  dsimp only
  have b1 := (hb.alloc (.cells (#[.string vp, .int .i64 vn, .int .i64 vc, .int .i64 va, .int .i64 tb, .bool tk, .bool te, .bool tx, .int .u64 cs, .int .i64 cz, .string vs, .int .i64 vm]) 43)).cell 0
  clear hb
  cases h : (vn == n)
  all_goals
    go_enter Tryz.func35, Tryz.ntmps35
    go_wp2_with fail
    go_ret
    exact ⟨rfl, by (repeat (first | (with_reducible exact Below.refl _ _) | (with_reducible assumption) | (with_reducible refine Below.setCell ?_ ?_ _; rotate_left; focus (first | exact Nat.le_refl _ | (dsimp only; omega))) | (with_reducible refine Below.drew ?_) | (with_reducible refine below_drewN ?_ _) | (with_reducible refine Below.alloc ?_ ?_ _; rotate_left; focus (first | exact Nat.le_refl _ | (simp; done) | (simp; omega)))))⟩
theorem blk_far12 {b b' : Nat} {T : TypeId} {cs : List Value} {x : World} (h : Blk b' T cs x) (hne : b' ≠ b) (u0 u1 u2 u3 u4 u5 u6 u7 u8 u9 u10 u11 : Value) :
    Blk b' T cs ((((((((((((x.setCell ⟨b, 0, none⟩ u0).setCell ⟨b, 1, none⟩ u1).setCell ⟨b, 2, none⟩ u2).setCell ⟨b, 3, none⟩ u3).setCell ⟨b, 4, none⟩ u4).setCell ⟨b, 5, none⟩ u5).setCell ⟨b, 6, none⟩ u6).setCell ⟨b, 7, none⟩ u7).setCell ⟨b, 8, none⟩ u8).setCell ⟨b, 9, none⟩ u9).setCell ⟨b, 10, none⟩ u10).setCell ⟨b, 11, none⟩ u11) :=
  (((((((((((h.far hne u0).far hne u1).far hne u2).far hne u3).far hne u4).far hne u5).far hne u6).far hne u7).far hne u8).far hne u9).far hne u10).far hne u11
/-- One of the revisions, or nothing. -/
def GetRet (d : List Rev) (p : ByteArray) (n : Int) (w : World) (e : Ending) (w' : World) : Prop :=
  ∃ (z : Rev) (b : Bool), e = .returned (.tuple #[z.val, .bool b]) ∧ (b = true → z ∈ d ∧ z.path = p ∧ z.num = n) ∧ Below w.heap.size w w'
set_option maxRecDepth 100000 in
set_option maxHeartbeats 6400000 in
theorem hgreat_any (d : List Rev) (p : ByteArray) (n : Int) (nb : Nat) (A B : Option Addr) (ca lb cb : Nat) (w : World) (h : revK.In A d w) (hn : d.length ≤ 1000000) (hb : Blk nb 3 [.int .i64 n] w) :
    Calls Tryz.prog 34 #[.agg #[.slice A d.length ca, .slice B lb cb], .string p, (.func (.func 35) #[] #[.pointer (some ⟨nb, 0, none⟩)])] w (GetRet d p n w) := by
  have HI := Lib.hid h
  have HNB := Lib.hid hb
  clear h hb
  go_enter Tryz.func34, Tryz.ntmps34
  go_wp2_with fail
  go_loopw [9, 15] (fun o i wr => ∃ (k : Nat) (b : Bool) (z : Rev), i = .int .i64 k ∧ k ≤ d.length ∧ o = .bool b ∧ Hid (b = true → z ∈ d ∧ z.path = p ∧ z.num = n) ∧ Below w.heap.size w wr ∧ Blk (w.heap.size + 1) 43 zeroRev.cells wr ∧ Blk (w.heap.size + 1 + 1) 43 z.cells wr) (fun _ i _ => d.length - (intOf i).toNat)
  case atStart => exact ⟨0, false, zeroRev, rfl, Nat.zero_le _, rfl, fun h => (by cases h), by (repeat (first | (with_reducible exact Below.refl _ _) | (with_reducible assumption) | (with_reducible refine Below.setCell ?_ ?_ _; rotate_left; focus (first | exact Nat.le_refl _ | (dsimp only; omega))) | (with_reducible refine Below.drew ?_) | (with_reducible refine below_drewN ?_ _) | (with_reducible refine Below.alloc ?_ ?_ _; rotate_left; focus (first | exact Nat.le_refl _ | (simp; done) | (simp; omega))))), (Blk.new1 _ _ _ _).alloc _, Blk.new2 _ _ _ _ _⟩
  case round =>
    obtain ⟨k, b, z, rfl, hk, rfl, hz, hB, K1, K2⟩ := hrel
    have hlb : w.heap.size + 1 < wr.heap.size := K1.lt
    have hlc : w.heap.size + 1 + 1 < wr.heap.size := K2.lt
    have HB := Lib.hid hB
    have HK1 := Lib.hid K1
    have HK2 := Lib.hid K2
    clear hB K1 K2
    by_cases hlt : k < d.length
    · obtain ⟨g, off, rfl, hbl, hat⟩ := HI.out (by omega)
      have hg := List.getElem?_eq_getElem hlt
      have hmem := List.getElem_mem hlt
      generalize hq : d[k] = v at *
      have HMV := Lib.hid hmem
      have hat := hat.below HB.out hbl
      (have hcv := fun j (u : Value) (hj : (v).cells[j]? = some u) => ((hat).get hg hj); have c0 := hcv 0 _ rfl; have c1 := hcv 1 _ rfl; have c2 := hcv 2 _ rfl; have c3 := hcv 3 _ rfl; have c4 := hcv 4 _ rfl; have c5 := hcv 5 _ rfl; have c6 := hcv 6 _ rfl; have c7 := hcv 7 _ rfl; have c8 := hcv 8 _ rfl; have c9 := hcv 9 _ rfl; have c10 := hcv 10 _ rfl; have c11 := hcv 11 _ rfl; have e12 : revK.n = 12 := rfl; simp only [e12, Nat.add_zero] at c0 c1 c2 c3 c4 c5 c6 c7 c8 c9 c10 c11; clear hcv e12)
      clear hat hg hq hmem
      cases hv : (v.path == p)
      · have hv' : (v.path.toList == p.toList) = false := by rw [path_tl]; exact hv
        clear hv
        go_wp2_with fail
        go_roundw
        case rel => exact ⟨k + 1, b, z, by go_num, by omega, rfl, hz, HB.out.alloc (by omega) _, HK1.out.alloc _, HK2.out.alloc _⟩
        case measure => simp [intOf]; omega
      · have hv' : (v.path.toList == p.toList) = true := by rw [path_tl]; exact hv
        have HPE : Hid (v.path = p) := eq_of_beq hv
        have hbw := HB.out.alloc HB.out.size (.cells v.cells.toArray 43)
        have H1 := Lib.hid (get1_any v nb n _ (HNB.out.below hbw))
        obtain ⟨vp, vn, vc, va, ⟨tb, tk, te, tx⟩, ⟨cs, cz⟩, vs, vm⟩ := v
        obtain ⟨zp, zn, zc, za, ⟨zb, zk, ze, zx⟩, ⟨ys, yz⟩, zf, zm⟩ := z
        unfold Rev.val Rev.cells at H1
        unfold Rev.cells at HK2
        dsimp only at H1 HK2 HPE c0 c1 c2 c3 c4 c5 c6 c7 c8 c9 c10 c11
        clear hv hbw
        obtain ⟨z0, z1, -, -, -, -, -, -, -, -, -, -⟩ := HK2.out.c12
        go_wp2_with fail
        refine H1.out.mono ?_
        rintro e w1 ⟨rfl, hb1⟩
        have zz := hb1.size
        simp at zz
        have KV := (Blk.new wr 43 ([.string vp, .int .i64 vn, .int .i64 vc, .int .i64 va, .int .i64 tb, .bool tk, .bool te, .bool tx, .int .u64 cs, .int .i64 cz, .string vs, .int .i64 vm])).below hb1
        obtain ⟨y0, y1, y2, y3, y4, y5, y6, y7, y8, y9, y10, y11⟩ := KV.c12
        have KX1 := Lib.hid ((HK1.out.alloc (.cells #[.string vp, .int .i64 vn, .int .i64 vc, .int .i64 va, .int .i64 tb, .bool tk, .bool te, .bool tx, .int .u64 cs, .int .i64 cz, .string vs, .int .i64 vm] 43)).below hb1)
        have KX2 := Lib.hid ((HK2.out.alloc (.cells #[.string vp, .int .i64 vn, .int .i64 vc, .int .i64 va, .int .i64 tb, .bool tk, .bool te, .bool tx, .int .u64 cs, .int .i64 cz, .string vs, .int .i64 vm] 43)).below hb1)
        have HB1 := Lib.hid ((HB.out.alloc HB.out.size (.cells #[.string vp, .int .i64 vn, .int .i64 vc, .int .i64 va, .int .i64 tb, .bool tk, .bool te, .bool tx, .int .u64 cs, .int .i64 cz, .string vs, .int .i64 vm] 43)).trans (hb1.mono (by have := HB.out.size; simp; omega)))
        clear z0 z1 KV hb1 c0 c1 c2 c3 c4 c5 c6 c7 c8 c9 c10 c11 H1 HK1 HK2 HB
        (obtain ⟨f0, f1, f2, f3, f4, f5, f6, f7, f8, f9, f10, f11⟩ := (KX2.out).f12; obtain ⟨z0, z1, z2, z3, z4, z5, z6, z7, z8, z9, z10, z11⟩ := (KX2.out).c12)
        cases hc : (vn == n)
        · go_wp2_with fail
          go_roundw
          case rel => exact ⟨k + 1, b, ⟨zp, zn, zc, za, ⟨zb, zk, ze, zx⟩, ⟨ys, yz⟩, zf, zm⟩, by go_num, by omega, rfl, hz, HB1.out, KX1.out, KX2.out⟩
          case measure => simp [intOf]; omega
        · have HNE : Hid (vn = n) := eq_of_beq hc
          cases b
          · go_wp2_with fail
            have KZ := Lib.hid (Blk.put12 KX2.out (.string vp) (.int .i64 vn) (.int .i64 vc) (.int .i64 va) (.int .i64 tb) (.bool tk) (.bool te) (.bool tx) (.int .u64 cs) (.int .i64 cz) (.string vs) (.int .i64 vm))
            have HBZ := Lib.hid (below_put12 HB1.out (show w.heap.size ≤ w.heap.size + 1 + 1 by omega) (.string vp) (.int .i64 vn) (.int .i64 vc) (.int .i64 va) (.int .i64 tb) (.bool tk) (.bool te) (.bool tx) (.int .u64 cs) (.int .i64 cz) (.string vs) (.int .i64 vm))
            have KX := Lib.hid (blk_far12 KX1.out (show w.heap.size + 1 ≠ w.heap.size + 1 + 1 by omega) (.string vp) (.int .i64 vn) (.int .i64 vc) (.int .i64 va) (.int .i64 tb) (.bool tk) (.bool te) (.bool tx) (.int .u64 cs) (.int .i64 cz) (.string vs) (.int .i64 vm))
            clear f0 f1 f2 f3 f4 f5 f6 f7 f8 f9 f10 f11 z0 z1 z2 z3 z4 z5 z6 z7 z8 z9 z10 z11 y0 y1 y2 y3 y4 y5 y6 y7 y8 y9 y10 y11
            (generalize World.setCell (World.setCell (World.setCell (World.setCell (World.setCell (World.setCell (World.setCell (World.setCell (World.setCell (World.setCell (World.setCell (World.setCell _ _ _) _ _) _ _) _ _) _ _) _ _) _ _) _ _) _ _) _ _) _ _) _ _ = w9 at *)
            go_roundw
            case rel => exact ⟨k + 1, true, ⟨vp, vn, vc, va, ⟨tb, tk, te, tx⟩, ⟨cs, cz⟩, vs, vm⟩, by go_num, by omega, rfl, fun _ => ⟨HMV.out, HPE.out, HNE.out⟩, HBZ.out, KX.out, KZ.out⟩
            case measure => simp [intOf]; omega
          · by_cases hgt : zn < vn
            · go_wp2_with fail
              have KZ := Lib.hid (Blk.put12 KX2.out (.string vp) (.int .i64 vn) (.int .i64 vc) (.int .i64 va) (.int .i64 tb) (.bool tk) (.bool te) (.bool tx) (.int .u64 cs) (.int .i64 cz) (.string vs) (.int .i64 vm))
              have HBZ := Lib.hid (below_put12 HB1.out (show w.heap.size ≤ w.heap.size + 1 + 1 by omega) (.string vp) (.int .i64 vn) (.int .i64 vc) (.int .i64 va) (.int .i64 tb) (.bool tk) (.bool te) (.bool tx) (.int .u64 cs) (.int .i64 cz) (.string vs) (.int .i64 vm))
              have KX := Lib.hid (blk_far12 KX1.out (show w.heap.size + 1 ≠ w.heap.size + 1 + 1 by omega) (.string vp) (.int .i64 vn) (.int .i64 vc) (.int .i64 va) (.int .i64 tb) (.bool tk) (.bool te) (.bool tx) (.int .u64 cs) (.int .i64 cz) (.string vs) (.int .i64 vm))
              clear f0 f1 f2 f3 f4 f5 f6 f7 f8 f9 f10 f11 z0 z1 z2 z3 z4 z5 z6 z7 z8 z9 z10 z11 y0 y1 y2 y3 y4 y5 y6 y7 y8 y9 y10 y11
              (generalize World.setCell (World.setCell (World.setCell (World.setCell (World.setCell (World.setCell (World.setCell (World.setCell (World.setCell (World.setCell (World.setCell (World.setCell _ _ _) _ _) _ _) _ _) _ _) _ _) _ _) _ _) _ _) _ _) _ _) _ _ = w9 at *)
              go_roundw
              case rel => exact ⟨k + 1, true, ⟨vp, vn, vc, va, ⟨tb, tk, te, tx⟩, ⟨cs, cz⟩, vs, vm⟩, by go_num, by omega, rfl, fun _ => ⟨HMV.out, HPE.out, HNE.out⟩, HBZ.out, KX.out, KZ.out⟩
              case measure => simp [intOf]; omega
            · go_wp2_with fail
              go_roundw
              case rel => exact ⟨k + 1, true, ⟨zp, zn, zc, za, ⟨zb, zk, ze, zx⟩, ⟨ys, yz⟩, zf, zm⟩, by go_num, by omega, rfl, (fun _ => hz.out trivial), HB1.out, KX1.out, KX2.out⟩
              case measure => simp [intOf]; omega
    · obtain ⟨zp, zn, zc, za, ⟨zb, zk, ze, zx⟩, ⟨ys, yz⟩, zf, zm⟩ := z
      unfold Rev.cells at HK2
      dsimp only at HK2
      obtain ⟨y0, y1, y2, y3, y4, y5, y6, y7, y8, y9, y10, y11⟩ := HK2.out.c12
      (obtain ⟨f0, f1, f2, f3, f4, f5, f6, f7, f8, f9, f10, f11⟩ := (HK1.out).f12; obtain ⟨z0, z1, z2, z3, z4, z5, z6, z7, z8, z9, z10, z11⟩ := (HK1.out).c12)
      go_wp2_with fail
      have KZ := Lib.hid (Blk.put12 HK1.out (.string zp) (.int .i64 zn) (.int .i64 zc) (.int .i64 za) (.int .i64 zb) (.bool zk) (.bool ze) (.bool zx) (.int .u64 ys) (.int .i64 yz) (.string zf) (.int .i64 zm))
      have HBZ := Lib.hid (below_put12 HB.out (show w.heap.size ≤ w.heap.size + 1 by omega) (.string zp) (.int .i64 zn) (.int .i64 zc) (.int .i64 za) (.int .i64 zb) (.bool zk) (.bool ze) (.bool zx) (.int .u64 ys) (.int .i64 yz) (.string zf) (.int .i64 zm))
      clear f0 f1 f2 f3 f4 f5 f6 f7 f8 f9 f10 f11 z0 z1 z2 z3 z4 z5 z6 z7 z8 z9 z10 z11 y0 y1 y2 y3 y4 y5 y6 y7 y8 y9 y10 y11
      (generalize World.setCell (World.setCell (World.setCell (World.setCell (World.setCell (World.setCell (World.setCell (World.setCell (World.setCell (World.setCell (World.setCell (World.setCell _ _ _) _ _) _ _) _ _) _ _) _ _) _ _) _ _) _ _) _ _) _ _) _ _ = w9 at *)
      obtain ⟨z0, z1, z2, z3, z4, z5, z6, z7, z8, z9, z10, z11⟩ := KZ.out.c12
      refine bodyPost_ret (v := .tuple #[((⟨zp, zn, zc, za, ⟨zb, zk, ze, zx⟩, ⟨ys, yz⟩, zf, zm⟩ : Rev)).val, .bool b]) (by simp [results, Tryz.results34, go_sem, z0, z1, z2, z3, z4, z5, z6, z7, z8, z9, z10, z11]; rfl) rfl ?_
      exact ⟨_, _, rfl, hz.out, HBZ.out⟩
set_option maxRecDepth 100000 in
set_option maxHeartbeats 6400000 in
theorem hget_any (d : List Rev) (p : ByteArray) (n : Int) (A B : Option Addr) (ca lb cb : Nat) (w : World) (h : revK.In A d w) (hn : d.length ≤ 1000000) :
    Calls Tryz.prog 23 #[.agg #[.slice A d.length ca, .slice B lb cb], .string p, .int .i64 n] w (GetRet d p n w) := by
  have HI := Lib.hid h
  clear h
  go_enter Tryz.func23, Tryz.ntmps23
  go_upto_region 1 with fail
  have hb3 : Below w.heap.size w (((w.alloc (.cells #[.slice A d.length ca, .slice B lb cb] 28)).alloc (.cells #[.int .i64 n] 3)).alloc (.cells zeroRev.cells.toArray 43)) := by (repeat (first | (with_reducible exact Below.refl _ _) | (with_reducible assumption) | (with_reducible refine Below.setCell ?_ ?_ _; rotate_left; focus (first | exact Nat.le_refl _ | (dsimp only; omega))) | (with_reducible refine Below.drew ?_) | (with_reducible refine below_drewN ?_ _) | (with_reducible refine Below.alloc ?_ ?_ _; rotate_left; focus (first | exact Nat.le_refl _ | (simp; done) | (simp; omega)))))
  have HD3 := Lib.hid (((Blk.new w 28 [.slice A d.length ca, .slice B lb cb]).alloc (.cells #[.int .i64 n] 3)).alloc (.cells zeroRev.cells.toArray 43))
  have HN3 := Lib.hid ((Blk.new1 w (.cells #[.slice A d.length ca, .slice B lb cb] 28) 3 [.int .i64 n]).alloc (.cells zeroRev.cells.toArray 43))
  have KR3 := Lib.hid (Blk.new2 w (.cells #[.slice A d.length ca, .slice B lb cb] 28) (.cells #[.int .i64 n] 3) 43 zeroRev.cells)
  have HB3 := Lib.hid hb3
  have HI3 := Lib.hid (HI.out.below hb3)
  clear hb3 HI
  generalize hw1 : World.alloc (World.alloc (World.alloc w _) _) _ = w3
  have hw2 : (((w.alloc (.cells #[.slice A d.length ca, .slice B lb cb] 28)).alloc (.cells #[.int .i64 n] 3)).alloc (.cells zeroRev.cells.toArray 43)) = w3 := hw1
  rw [hw2] at HD3 HN3 KR3 HB3 HI3
  clear hw1 hw2
  obtain ⟨d0, d1⟩ := HD3.out.c2
  have ltw : w.heap.size + 1 + 1 < w3.heap.size := KR3.out.lt
  go_wp2_with fail
  refine (hgreat_any d p n (w.heap.size + 1) A B ca lb cb w3 HI3.out hn HN3.out).mono ?_
  rintro e w5 ⟨z, b, rfl, hz, hb5⟩
  have HB5 := Lib.hid (HB3.out.trans (hb5.mono HB3.out.size))
  have KR5 := Lib.hid (KR3.out.below hb5)
  have HZ := Lib.hid hz
  clear hb5 hz d0 d1 HB3 KR3 HD3 HN3 HI3 ltw
  obtain ⟨zp, zn, zc, za, ⟨zb, zk, ze, zx⟩, ⟨ys, yz⟩, zf, zm⟩ := z
  unfold Rev.val Rev.cells
  dsimp only
  (obtain ⟨f0, f1, f2, f3, f4, f5, f6, f7, f8, f9, f10, f11⟩ := (KR5.out).f12; obtain ⟨z0, z1, z2, z3, z4, z5, z6, z7, z8, z9, z10, z11⟩ := (KR5.out).c12)
  have ltw : w.heap.size + 1 + 1 < w5.heap.size := KR5.out.lt
  go_wp2_with fail
  have KZ := Lib.hid (Blk.put12 KR5.out (.string zp) (.int .i64 zn) (.int .i64 zc) (.int .i64 za) (.int .i64 zb) (.bool zk) (.bool ze) (.bool zx) (.int .u64 ys) (.int .i64 yz) (.string zf) (.int .i64 zm))
  have HBZ := Lib.hid (below_put12 HB5.out (show w.heap.size ≤ w.heap.size + 1 + 1 by omega) (.string zp) (.int .i64 zn) (.int .i64 zc) (.int .i64 za) (.int .i64 zb) (.bool zk) (.bool ze) (.bool zx) (.int .u64 ys) (.int .i64 yz) (.string zf) (.int .i64 zm))
  clear f0 f1 f2 f3 f4 f5 f6 f7 f8 f9 f10 f11 z0 z1 z2 z3 z4 z5 z6 z7 z8 z9 z10 z11
  (generalize World.setCell (World.setCell (World.setCell (World.setCell (World.setCell (World.setCell (World.setCell (World.setCell (World.setCell (World.setCell (World.setCell (World.setCell _ _ _) _ _) _ _) _ _) _ _) _ _) _ _) _ _) _ _) _ _) _ _) _ _ = w9 at *)
  obtain ⟨z0, z1, z2, z3, z4, z5, z6, z7, z8, z9, z10, z11⟩ := KZ.out.c12
  refine bodyPost_ret (v := .tuple #[((⟨zp, zn, zc, za, ⟨zb, zk, ze, zx⟩, ⟨ys, yz⟩, zf, zm⟩ : Rev)).val, .bool b]) (by simp [results, Tryz.results23, go_sem, z0, z1, z2, z3, z4, z5, z6, z7, z8, z9, z10, z11]; rfl) rfl ?_
  exact ⟨_, _, rfl, HZ.out, HBZ.out⟩
end Go.Proofs.YthonhikkoabhlaaGreatDoor
