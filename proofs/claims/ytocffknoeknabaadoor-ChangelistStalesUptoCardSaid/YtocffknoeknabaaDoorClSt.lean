/-
  The walks of changelist.Stale and of the reference's Stale (printed by mkstale.py).
-/
import Derived.Test.YtocffknoeknabaaDoorClG
namespace Go.Proofs.YtocffknoeknabaaDoor
open Go.RowKit

def strK : RowK ByteArray := ⟨fun s => [.string s], 1, by decide, fun _ => rfl, fun x u hu => by
  rw [List.mem_singleton] at hu
  rw [hu]
  rfl⟩
theorem Tryd.infoStr18 : (Tryd.prog.info? 9).map (fun i => (i.zero, i.size, i.bytes)) = some (some (.string ⟨#[]⟩), 1, 16) := by kernel_rfl
def isStale (d : List Rev) (x : Edt) : Bool := (lastR d x.path).num != x.base
/-- The open paths that have a newer revision. -/
def staleL (d : List Rev) (V : List Edt) : List ByteArray := (V.filter (isStale d)).map Edt.path
def StRet (l : List ByteArray) (w : World) (e : Ending) (w' : World) : Prop := ∃ A c, e = .returned (.slice A l.length c) ∧ strK.In A l w' ∧ Below w.heap.size w w'
theorem stale_succ {d : List Rev} {V : List Edt} {k : Nat} (h : k < V.length) : staleL d (V.take (k + 1)) = staleL d (V.take k) ++ if isStale d V[k] = true then [V[k].path] else [] := by
  unfold staleL
  rw [List.take_succ_eq_append_getElem h, List.filter_append, List.map_append]
  congr 1
  cases hk : isStale d V[k] <;> simp [hk]
theorem stale_len (d : List Rev) (V : List Edt) : (staleL d V).length ≤ V.length := by
  unfold staleL
  rw [List.length_map]
  exact List.length_filter_le _ _
set_option maxRecDepth 100000 in
set_option maxHeartbeats 6400000 in
theorem stale_any (d : List Rev) (p : Pnd) (A B E R : Option Addr) (ca nb cb ec rc : Nat) (w : World) (h : revK.In A d w) (hE : edtK.In E p.edits w) (hlen : p.edits.length ≤ 1000) (hn : d.length ≤ 512) (ha : Asc d) :
    Calls Tryd.prog 15 #[pndV p E ec R rc, .agg #[.slice A d.length ca, .slice B nb cb]] w (StRet (staleL d p.edits) w) := by
  have HI := Lib.hid h
  have HIE := Lib.hid hE
  obtain ⟨i0, hi0, hz0, hz1, hz2⟩ := info_parts Tryd.infoStr18
  have HLA := Lib.hid (fun s w h => last_any d s A B ca nb cb w h (by omega) ha)
  clear h hE ha
  obtain ⟨pn, pc, pt, ps, V⟩ := p
  unfold pndV pndC
  dsimp only at *
  go_enter Tryd.func15, Tryd.ntmps15
  go_upto_region 1 with fail
  generalize hw1 : World.alloc _ (.cells #[.slice A d.length ca, .slice B nb cb] 30) = w1
  have HM1 : Hid (Bs [(w.heap.size + 1, 30, [.slice A d.length ca, .slice B nb cb]), (w.heap.size, 34, [.int .i64 pn, .string pc, .string pt, .bool ps, .slice E V.length ec, .slice R 0 rc])] w1) := by
    show Bs _ _
    rw [← hw1]
    exact ⟨Blk.new1 _ _ _ _, (Blk.new _ _ _).alloc _, trivial⟩
  have HB1 : Hid (Below w.heap.size w w1) := by
    show Below _ _ _
    rw [← hw1]
    (repeat (first | (with_reducible exact Below.refl _ _) | (with_reducible assumption) | (with_reducible refine Below.setCell ?_ ?_ _; rotate_left; focus (first | exact Nat.le_refl _ | (dsimp only; omega))) | (with_reducible refine Below.drew ?_) | (with_reducible refine below_drewN ?_ _) | (with_reducible refine Below.alloc ?_ ?_ _; rotate_left; focus (first | exact Nat.le_refl _ | (simp; done) | (simp; omega)))))
  clear hw1
  have lt1 := HM1.out.1.lt
  obtain ⟨p0, p1, p2, p3, p4, p5⟩ := HM1.out.2.1.c6
  go_wp2_with fail
  clear p0 p1 p2 p3 p4 p5
  -- MARKA
  go_loopw [5, 13] (fun v i wr => ∃ (k n : Nat), i = .int .i64 k ∧ k ≤ V.length ∧ n ≤ k ∧ Hid (n = (staleL d (V.take k)).length) ∧ Hid (wr.ownsRow w1.heap.size 9 1 v n (strK.flat (staleL d (V.take k)))) ∧ Hid (Below w1.heap.size w1 wr)) (fun _ i _ => V.length - (intOf i).toNat)
  case atStart => exact ⟨0, 0, rfl, Nat.zero_le _, Nat.le_refl _, rfl, ⟨rfl, .inl ⟨rfl, rfl⟩⟩, Below.refl _ _⟩
  case round =>
    obtain ⟨k, n, rfl, hk, hnk, HN, HO, HW⟩ := hrel
    have HB := Lib.hid (HB1.out.trans (HW.out.mono HB1.out.size))
    have hszw := HW.out.size
    by_cases hlt : k < V.length
    · have HSS := Lib.hid (stale_succ (d := d) hlt)
      obtain ⟨b, off, rfl, hbl, hat⟩ := (HIE.out.below HB.out) (by omega)
      have hg := List.getElem?_eq_getElem hlt
      generalize V[k] = x at *
      (have hcv := fun j (u : Value) (hj : (x).cells[j]? = some u) => ((hat).get hg hj); have c0 := hcv 0 _ rfl; have c1 := hcv 1 _ rfl; have c2 := hcv 2 _ rfl; have c3 := hcv 3 _ rfl; have c4 := hcv 4 _ rfl; have c5 := hcv 5 _ rfl; have c6 := hcv 6 _ rfl; have c7 := hcv 7 _ rfl; have c8 := hcv 8 _ rfl; have c9 := hcv 9 _ rfl; have c10 := hcv 10 _ rfl; have c11 := hcv 11 _ rfl; have e12 : edtK.n = 12 := rfl; simp only [e12, Nat.add_zero] at c0 c1 c2 c3 c4 c5 c6 c7 c8 c9 c10 c11; clear hcv e12)
      clear hat hg
      have hkn : (k : Int) < (V.length : Int) := by omega
      have HX1 : Hid (Blk wr.heap.size 54 [.string x.path, .int .i64 x.act, .int .i64 x.ty.base, .bool x.ty.kw, .bool x.ty.ex, .bool x.ty.xe, .int .u64 x.con.sum, .int .i64 x.con.size, .int .i64 x.base, .string x.src, .int .i64 x.srcn, .int .i64 x.fence] (wr.alloc (.cells [.string x.path, .int .i64 x.act, .int .i64 x.ty.base, .bool x.ty.kw, .bool x.ty.ex, .bool x.ty.xe, .int .u64 x.con.sum, .int .i64 x.con.size, .int .i64 x.base, .string x.src, .int .i64 x.srcn, .int .i64 x.fence].toArray 54))) := Blk.new wr 54 [.string x.path, .int .i64 x.act, .int .i64 x.ty.base, .bool x.ty.kw, .bool x.ty.ex, .bool x.ty.xe, .int .u64 x.con.sum, .int .i64 x.con.size, .int .i64 x.base, .string x.src, .int .i64 x.srcn, .int .i64 x.fence]
      have HY1 : Hid (Below wr.heap.size wr (wr.alloc (.cells [.string x.path, .int .i64 x.act, .int .i64 x.ty.base, .bool x.ty.kw, .bool x.ty.ex, .bool x.ty.xe, .int .u64 x.con.sum, .int .i64 x.con.size, .int .i64 x.base, .string x.src, .int .i64 x.srcn, .int .i64 x.fence].toArray 54))) := (Below.refl _ _).alloc (Nat.le_refl _) _
      go_upto_region 5 with fail
      generalize hy1 : World.alloc wr (.cells #[.string x.path, .int .i64 x.act, .int .i64 x.ty.base, .bool x.ty.kw, .bool x.ty.ex, .bool x.ty.xe, .int .u64 x.con.sum, .int .i64 x.con.size, .int .i64 x.base, .string x.src, .int .i64 x.srcn, .int .i64 x.fence] 54) = y1 at *
      clear hy1 c0 c1 c2 c3 c4 c5 c6 c7 c8 c9 c10 c11
      have HW1 := Lib.hid (HW.out.trans (HY1.out.mono HW.out.size))
      have HB1' := Lib.hid (HB1.out.trans (HW1.out.mono HB1.out.size))
      obtain ⟨q0, q1, q2, q3, q4, q5, q6, q7, q8, q9, q10, q11⟩ := HX1.out.c12
      obtain ⟨d0, d1⟩ := (HM1.out.below HW1.out).1.c2
      have HLX := Lib.hid (HLA.out x.path y1 (HI.out.below HB1'.out))
      unfold isStale at HSS
      generalize lastR d x.path = v at *
      go_wp2_with fail
      -- MARKB
      refine HLX.out.mono ?_
      rintro e y2 ⟨rfl, hb2⟩
      unfold Rev.val Rev.cells
      have HV3 : Hid (Blk y2.heap.size 68 [.string v.path, .int .i64 v.num, .int .i64 v.chg, .int .i64 v.act, .int .i64 v.ty.base, .bool v.ty.kw, .bool v.ty.ex, .bool v.ty.xe, .int .u64 v.con.sum, .int .i64 v.con.size, .string v.src, .int .i64 v.srcn] (y2.alloc (.cells [.string v.path, .int .i64 v.num, .int .i64 v.chg, .int .i64 v.act, .int .i64 v.ty.base, .bool v.ty.kw, .bool v.ty.ex, .bool v.ty.xe, .int .u64 v.con.sum, .int .i64 v.con.size, .string v.src, .int .i64 v.srcn].toArray 68))) := Blk.new y2 68 [.string v.path, .int .i64 v.num, .int .i64 v.chg, .int .i64 v.act, .int .i64 v.ty.base, .bool v.ty.kw, .bool v.ty.ex, .bool v.ty.xe, .int .u64 v.con.sum, .int .i64 v.con.size, .string v.src, .int .i64 v.srcn]
      have HX3 : Hid (Blk wr.heap.size 54 [.string x.path, .int .i64 x.act, .int .i64 x.ty.base, .bool x.ty.kw, .bool x.ty.ex, .bool x.ty.xe, .int .u64 x.con.sum, .int .i64 x.con.size, .int .i64 x.base, .string x.src, .int .i64 x.srcn, .int .i64 x.fence] (y2.alloc (.cells [.string v.path, .int .i64 v.num, .int .i64 v.chg, .int .i64 v.act, .int .i64 v.ty.base, .bool v.ty.kw, .bool v.ty.ex, .bool v.ty.xe, .int .u64 v.con.sum, .int .i64 v.con.size, .string v.src, .int .i64 v.srcn].toArray 68))) := (HX1.out.below hb2).alloc _
      have HY3 : Hid (Below wr.heap.size wr (y2.alloc (.cells [.string v.path, .int .i64 v.num, .int .i64 v.chg, .int .i64 v.act, .int .i64 v.ty.base, .bool v.ty.kw, .bool v.ty.ex, .bool v.ty.xe, .int .u64 v.con.sum, .int .i64 v.con.size, .string v.src, .int .i64 v.srcn].toArray 68))) := (HY1.out.trans (hb2.mono HY1.out.size)).alloc (HY1.out.trans (hb2.mono HY1.out.size)).size _
      clear hb2 HX1 HY1 HW1 HB1' HLX q0 q1 q2 q3 q4 q5 q6 q7 q8 q9 q10 q11 d0 d1
      go_upto_region 6 with fail
      generalize hy3 : World.alloc y2 (.cells #[.string v.path, .int .i64 v.num, .int .i64 v.chg, .int .i64 v.act, .int .i64 v.ty.base, .bool v.ty.kw, .bool v.ty.ex, .bool v.ty.xe, .int .u64 v.con.sum, .int .i64 v.con.size, .string v.src, .int .i64 v.srcn] 68) = y3 at *
      clear hy3
      obtain ⟨v0, v1, v2, v3, v4, v5, v6, v7, v8, v9, v10, v11⟩ := HV3.out.c12
      obtain ⟨q0, q1, q2, q3, q4, q5, q6, q7, q8, q9, q10, q11⟩ := HX3.out.c12
      have HO3 := Lib.hid (ownsRow_below HO.out HY3.out)
      have HW3 := Lib.hid (HW.out.trans (HY3.out.mono HW.out.size))
      have hsz3 := HY3.out.size
      have HLT := Lib.hid (strK.lit y3 x.path 9)
      -- MARKC
      by_cases he : v.num = x.base
      · have hea : (v.num == x.base) = true := by simpa using he
        have heb : (v.num != x.base) = false := by simpa using he
        have hec : decide (v.num = x.base) = true := by simpa using he
        have HS2 : Hid (staleL d (V.take (k + 1)) = staleL d (V.take k)) := by
          show _ = _
          rw [HSS.out, heb]
          simp
        clear he
        go_wp2_with fail
        go_roundw
        case rel => exact ⟨k + 1, n, by go_num, by omega, by omega, by rw [HS2.out]; exact HN.out, by rw [HS2.out]; exact HO3.out, HW3.out⟩
        case measure => simp [intOf]; omega
      · have hea : (v.num == x.base) = false := by simpa using he
        have heb : (v.num != x.base) = true := by simpa using he
        have hec : decide (v.num = x.base) = false := by simpa using he
        have HS2 : Hid (staleL d (V.take (k + 1)) = staleL d (V.take k) ++ [x.path]) := by
          show _ = _
          rw [HSS.out, heb]
          simp
        -- MARKD
        go_wp2_with (at_builtin; go_loud (refine wpList_append_own _ rfl _ _ 41 rfl w1.heap.size 9 i0 (.string ⟨#[]⟩) 1 16 Tryd.underlying41 hi0 hz0 hz1 hz2 rfl (by decide) _ n _ rfl (HO3.out.alloc _) ⟨y3.heap.size, 0, none⟩ 1 1 (strK.cells x.path) rfl rfl HLT.out.1 HLT.out.2 (by unfold maxLen; omega) (by omega) (by simp; omega) ?_); intro v6 w6 ho6 hg6 _)
        -- MARKE
        have hsa : (y3.alloc (.cells (strK.cells x.path).toArray 9)).heap.size = y3.heap.size + 1 := by simp
        go_roundw
        case rel =>
          refine ⟨k + 1, n + 1, by go_num, by omega, by omega, ?_, ?_, ?_⟩
          · show _ = _
            rw [HS2.out, HN.out]
            simp
          · show World.ownsRow _ _ _ _ _ _ _
            rw [HS2.out]
            rw [RowK.flat_snoc] at ho6
            exact ho6
          · exact (HW3.out.alloc HW3.out.size _).grown hg6 (by have := HW3.out.size; simp; omega) (fun j e => (HO3.out.lt j e).1)
        case measure => simp [intOf]; omega
    · obtain rfl : k = V.length := by omega
      have hn1 := HN.out
      have ho1 := HO.out
      rw [List.take_length] at hn1 ho1
      subst hn1
      obtain ⟨A2, c2, rfl⟩ := own_slice ho1
      have HI2 := Lib.hid (RowK.In.of_row (R := strK) ho1)
      clear ho1 HN HO
      go_wp2_with fail
      go_ret
      exact ⟨A2, c2, rfl, HI2.out, HB.out⟩
set_option maxRecDepth 100000 in
set_option maxHeartbeats 6400000 in
theorem rstale_any (d : List Rev) (p : Pnd) (A B E R : Option Addr) (ca nb cb ec rc : Nat) (w : World) (h : revK.In A d w) (hE : edtK.In E p.edits w) (hlen : p.edits.length ≤ 1000) (hn : d.length ≤ 512) :
    Calls Tryd.prog 16 #[pndV p E ec R rc, .agg #[.slice A d.length ca, .slice B nb cb]] w (StRet (staleL d p.edits) w) := by
  have HI := Lib.hid h
  have HIE := Lib.hid hE
  obtain ⟨i0, hi0, hz0, hz1, hz2⟩ := info_parts Tryd.infoStr18
  have HLA := Lib.hid (fun s w h => rlive_any d s A B ca nb cb w h (by omega))
  simp only [lastN_is] at HLA
  clear h hE
  obtain ⟨pn, pc, pt, ps, V⟩ := p
  unfold pndV pndC
  dsimp only at *
  go_enter Tryd.func16, Tryd.ntmps16
  go_upto_region 1 with fail
  generalize hw1 : World.alloc _ (.cells #[.slice A d.length ca, .slice B nb cb] 30) = w1
  have HM1 : Hid (Bs [(w.heap.size + 1, 30, [.slice A d.length ca, .slice B nb cb]), (w.heap.size, 34, [.int .i64 pn, .string pc, .string pt, .bool ps, .slice E V.length ec, .slice R 0 rc])] w1) := by
    show Bs _ _
    rw [← hw1]
    exact ⟨Blk.new1 _ _ _ _, (Blk.new _ _ _).alloc _, trivial⟩
  have HB1 : Hid (Below w.heap.size w w1) := by
    show Below _ _ _
    rw [← hw1]
    (repeat (first | (with_reducible exact Below.refl _ _) | (with_reducible assumption) | (with_reducible refine Below.setCell ?_ ?_ _; rotate_left; focus (first | exact Nat.le_refl _ | (dsimp only; omega))) | (with_reducible refine Below.drew ?_) | (with_reducible refine below_drewN ?_ _) | (with_reducible refine Below.alloc ?_ ?_ _; rotate_left; focus (first | exact Nat.le_refl _ | (simp; done) | (simp; omega)))))
  clear hw1
  have lt1 := HM1.out.1.lt
  obtain ⟨p0, p1, p2, p3, p4, p5⟩ := HM1.out.2.1.c6
  go_wp2_with fail
  clear p0 p1 p2 p3 p4 p5
  -- MARKA
  go_loopw [5, 13] (fun v i wr => ∃ (k n : Nat), i = .int .i64 k ∧ k ≤ V.length ∧ n ≤ k ∧ Hid (n = (staleL d (V.take k)).length) ∧ Hid (wr.ownsRow w1.heap.size 9 1 v n (strK.flat (staleL d (V.take k)))) ∧ Hid (Below w1.heap.size w1 wr)) (fun _ i _ => V.length - (intOf i).toNat)
  case atStart => exact ⟨0, 0, rfl, Nat.zero_le _, Nat.le_refl _, rfl, ⟨rfl, .inl ⟨rfl, rfl⟩⟩, Below.refl _ _⟩
  case round =>
    obtain ⟨k, n, rfl, hk, hnk, HN, HO, HW⟩ := hrel
    have HB := Lib.hid (HB1.out.trans (HW.out.mono HB1.out.size))
    have hszw := HW.out.size
    by_cases hlt : k < V.length
    · have HSS := Lib.hid (stale_succ (d := d) hlt)
      obtain ⟨b, off, rfl, hbl, hat⟩ := (HIE.out.below HB.out) (by omega)
      have hg := List.getElem?_eq_getElem hlt
      generalize V[k] = x at *
      (have hcv := fun j (u : Value) (hj : (x).cells[j]? = some u) => ((hat).get hg hj); have c0 := hcv 0 _ rfl; have c1 := hcv 1 _ rfl; have c2 := hcv 2 _ rfl; have c3 := hcv 3 _ rfl; have c4 := hcv 4 _ rfl; have c5 := hcv 5 _ rfl; have c6 := hcv 6 _ rfl; have c7 := hcv 7 _ rfl; have c8 := hcv 8 _ rfl; have c9 := hcv 9 _ rfl; have c10 := hcv 10 _ rfl; have c11 := hcv 11 _ rfl; have e12 : edtK.n = 12 := rfl; simp only [e12, Nat.add_zero] at c0 c1 c2 c3 c4 c5 c6 c7 c8 c9 c10 c11; clear hcv e12)
      clear hat hg
      have hkn : (k : Int) < (V.length : Int) := by omega
      have HX1 : Hid (Blk wr.heap.size 54 [.string x.path, .int .i64 x.act, .int .i64 x.ty.base, .bool x.ty.kw, .bool x.ty.ex, .bool x.ty.xe, .int .u64 x.con.sum, .int .i64 x.con.size, .int .i64 x.base, .string x.src, .int .i64 x.srcn, .int .i64 x.fence] (wr.alloc (.cells [.string x.path, .int .i64 x.act, .int .i64 x.ty.base, .bool x.ty.kw, .bool x.ty.ex, .bool x.ty.xe, .int .u64 x.con.sum, .int .i64 x.con.size, .int .i64 x.base, .string x.src, .int .i64 x.srcn, .int .i64 x.fence].toArray 54))) := Blk.new wr 54 [.string x.path, .int .i64 x.act, .int .i64 x.ty.base, .bool x.ty.kw, .bool x.ty.ex, .bool x.ty.xe, .int .u64 x.con.sum, .int .i64 x.con.size, .int .i64 x.base, .string x.src, .int .i64 x.srcn, .int .i64 x.fence]
      have HY1 : Hid (Below wr.heap.size wr (wr.alloc (.cells [.string x.path, .int .i64 x.act, .int .i64 x.ty.base, .bool x.ty.kw, .bool x.ty.ex, .bool x.ty.xe, .int .u64 x.con.sum, .int .i64 x.con.size, .int .i64 x.base, .string x.src, .int .i64 x.srcn, .int .i64 x.fence].toArray 54))) := (Below.refl _ _).alloc (Nat.le_refl _) _
      go_upto_region 5 with fail
      generalize hy1 : World.alloc wr (.cells #[.string x.path, .int .i64 x.act, .int .i64 x.ty.base, .bool x.ty.kw, .bool x.ty.ex, .bool x.ty.xe, .int .u64 x.con.sum, .int .i64 x.con.size, .int .i64 x.base, .string x.src, .int .i64 x.srcn, .int .i64 x.fence] 54) = y1 at *
      clear hy1 c0 c1 c2 c3 c4 c5 c6 c7 c8 c9 c10 c11
      have HW1 := Lib.hid (HW.out.trans (HY1.out.mono HW.out.size))
      have HB1' := Lib.hid (HB1.out.trans (HW1.out.mono HB1.out.size))
      obtain ⟨q0, q1, q2, q3, q4, q5, q6, q7, q8, q9, q10, q11⟩ := HX1.out.c12
      obtain ⟨d0, d1⟩ := (HM1.out.below HW1.out).1.c2
      have HLX := Lib.hid (HLA.out x.path y1 (HI.out.below HB1'.out))
      unfold isStale at HSS
      generalize lastR d x.path = v at *
      go_wp2_with fail
      refine HLX.out.mono ?_
      rintro e y3 ⟨rfl, hb2⟩
      have HX3 : Hid (Blk wr.heap.size 54 [.string x.path, .int .i64 x.act, .int .i64 x.ty.base, .bool x.ty.kw, .bool x.ty.ex, .bool x.ty.xe, .int .u64 x.con.sum, .int .i64 x.con.size, .int .i64 x.base, .string x.src, .int .i64 x.srcn, .int .i64 x.fence] y3) := HX1.out.below hb2
      have HY3 : Hid (Below wr.heap.size wr y3) := HY1.out.trans (hb2.mono HY1.out.size)
      clear hb2 HX1 HY1 HW1 HB1' HLX q0 q1 q2 q3 q4 q5 q6 q7 q8 q9 q10 q11 d0 d1
      obtain ⟨q0, q1, q2, q3, q4, q5, q6, q7, q8, q9, q10, q11⟩ := HX3.out.c12
      have HO3 := Lib.hid (ownsRow_below HO.out HY3.out)
      have HW3 := Lib.hid (HW.out.trans (HY3.out.mono HW.out.size))
      have hsz3 := HY3.out.size
      have HLT := Lib.hid (strK.lit y3 x.path 9)
      -- MARKC
      by_cases he : v.num = x.base
      · have hea : (v.num == x.base) = true := by simpa using he
        have heb : (v.num != x.base) = false := by simpa using he
        have hec : decide (v.num = x.base) = true := by simpa using he
        have HS2 : Hid (staleL d (V.take (k + 1)) = staleL d (V.take k)) := by
          show _ = _
          rw [HSS.out, heb]
          simp
        clear he
        go_wp2_with fail
        go_roundw
        case rel => exact ⟨k + 1, n, by go_num, by omega, by omega, by rw [HS2.out]; exact HN.out, by rw [HS2.out]; exact HO3.out, HW3.out⟩
        case measure => simp [intOf]; omega
      · have hea : (v.num == x.base) = false := by simpa using he
        have heb : (v.num != x.base) = true := by simpa using he
        have hec : decide (v.num = x.base) = false := by simpa using he
        have HS2 : Hid (staleL d (V.take (k + 1)) = staleL d (V.take k) ++ [x.path]) := by
          show _ = _
          rw [HSS.out, heb]
          simp
        -- MARKD
        go_wp2_with (at_builtin; go_loud (refine wpList_append_own _ rfl _ _ 41 rfl w1.heap.size 9 i0 (.string ⟨#[]⟩) 1 16 Tryd.underlying41 hi0 hz0 hz1 hz2 rfl (by decide) _ n _ rfl (HO3.out.alloc _) ⟨y3.heap.size, 0, none⟩ 1 1 (strK.cells x.path) rfl rfl HLT.out.1 HLT.out.2 (by unfold maxLen; omega) (by omega) (by simp; omega) ?_); intro v6 w6 ho6 hg6 _)
        -- MARKE
        have hsa : (y3.alloc (.cells (strK.cells x.path).toArray 9)).heap.size = y3.heap.size + 1 := by simp
        go_roundw
        case rel =>
          refine ⟨k + 1, n + 1, by go_num, by omega, by omega, ?_, ?_, ?_⟩
          · show _ = _
            rw [HS2.out, HN.out]
            simp
          · show World.ownsRow _ _ _ _ _ _ _
            rw [HS2.out]
            rw [RowK.flat_snoc] at ho6
            exact ho6
          · exact (HW3.out.alloc HW3.out.size _).grown hg6 (by have := HW3.out.size; simp; omega) (fun j e => (HO3.out.lt j e).1)
        case measure => simp [intOf]; omega
    · obtain rfl : k = V.length := by omega
      have hn1 := HN.out
      have ho1 := HO.out
      rw [List.take_length] at hn1 ho1
      subst hn1
      obtain ⟨A2, c2, rfl⟩ := own_slice ho1
      have HI2 := Lib.hid (RowK.In.of_row (R := strK) ho1)
      clear ho1 HN HO
      go_wp2_with fail
      go_ret
      exact ⟨A2, c2, rfl, HI2.out, HB.out⟩
end Go.Proofs.YtocffknoeknabaaDoor
