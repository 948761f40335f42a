/-
  The base for seats without the journal (joined by a program of ours from our own texts).
-/
import Derived.Test.YtocffknoeknabaaGreatDoorDpA
namespace Go.Proofs.YtocffknoeknabaaGreatDoor
section
open Go.RowKit

/-- A list of changes, read out of memory. -/
def ChAt (w : World) (b off : Nat) (c : Chg) : Prop := ∃ (E : Option Addr) (ec : Nat) (R : Option Addr) (rc : Nat),
  (w.cell? ⟨b, off, none⟩ = some (.int .i64 c.num) ∧ w.cell? ⟨b, off + 1, none⟩ = some (.string c.client) ∧ w.cell? ⟨b, off + 2, none⟩ = some (.string c.text) ∧ w.cell? ⟨b, off + 3, none⟩ = some (.slice E c.edits.length ec) ∧ w.cell? ⟨b, off + 4, none⟩ = some (.slice R c.recs.length rc)) ∧ edtK.In E c.edits w ∧ rcdK.In R c.recs w
def ChsIn (A : Option Addr) (l : List Chg) (w : World) : Prop := 0 < l.length → ∃ b off, A = some ⟨b, off, none⟩ ∧ b < w.heap.size ∧ ∀ i c, l[i]? = some c → ChAt w b (off + i * 5) c
theorem ChAt.below {w w' : World} {b off : Nat} {c : Chg} (h : ChAt w b off c) (hb : Below w.heap.size w w') (hl : b < w.heap.size) : ChAt w' b off c := by
  obtain ⟨E, ec, R, rc, ⟨h0, h1, h2, h3, h4⟩, h5, h6⟩ := h
  obtain ⟨hc, _⟩ := bcell hb
  exact ⟨E, ec, R, rc, ⟨(hc b _ hl).trans h0, (hc b _ hl).trans h1, (hc b _ hl).trans h2, (hc b _ hl).trans h3, (hc b _ hl).trans h4⟩, h5.below hb, h6.below hb⟩
theorem ChsIn.below {A : Option Addr} {l : List Chg} {w w' : World} (h : ChsIn A l w) (hb : Below w.heap.size w w') : ChsIn A l w' := fun hl => by
  obtain ⟨b, off, e, h1, h2⟩ := h hl
  exact ⟨b, off, e, Nat.lt_of_lt_of_le h1 hb.size, fun i c hc => (h2 i c hc).below hb h1⟩

/-- Texts that can be read, lists that can be counted. -/
def ChSz (c : Chg) : Prop := c.edits.length ≤ 9000000000000000000 ∧ c.recs.length ≤ 9000000000000000000 ∧ (∀ y ∈ c.edits, y.path.size < 4294967281 ∧ y.src.size < 4294967281) ∧ ∀ y ∈ c.recs, y.src.size < 4294967281 ∧ y.dst.size < 4294967281

def BuildRet (w : World) (e : Ending) (w' : World) : Prop := ∃ (d : Dep) (A B : Option Addr) (ca cb : Nat), e = .returned (.agg #[.slice A d.revs.length ca, .slice B d.recs.length cb]) ∧ Blt d ∧ revK.In A d.revs w' ∧ rcdK.In B d.recs w' ∧ Below w.heap.size w w'

set_option maxRecDepth 100000 in
set_option maxHeartbeats 3200000 in
theorem rbuild_any (l : List Chg) (A : Option Addr) (ca : Nat) (w : World) (hA : ChsIn A l w) (hn : l.length ≤ 9000000000000000000) (hs : ∀ c ∈ l, ChSz c) (hg : G0 w) :
    Calls Tryz.prog 9 #[.slice A l.length ca] w (BuildRet w) := by
  have HI := Lib.hid hA
  have HS := Lib.hid hs
  have HG := Lib.hid hg
  clear hA hs hg
  go_enter Tryz.func9, Tryz.ntmps9
  go_upto_region 2 with fail
  generalize hw1 : World.alloc _ (.cells #[.slice none 0 0, .slice none 0 0] 37) = w1
  have HM1 : Hid (Bs [(w.heap.size + 1, 37, [.slice none 0 0, .slice none 0 0]), (w.heap.size, 37, [.slice none 0 0, .slice none 0 0])] w1) := by
    show Bs _ _
    rw [← hw1]
    exact ⟨Blk.new1 _ _ _ _, Blk.alloc (Blk.new _ _ _) _, trivial⟩
  have HB1 : Hid (Below w.heap.size w w1) := by
    show Below _ _ _
    rw [← hw1]
    (repeat (first | (with_reducible exact Below.refl _ _) | (with_reducible assumption) | (with_reducible refine Below.setCell ?_ ?_ _; rotate_left; focus (first | exact Nat.le_refl _ | (dsimp only; omega))) | (with_reducible refine Below.drew ?_) | (with_reducible refine below_drewN ?_ _) | (with_reducible refine Below.alloc ?_ ?_ _; rotate_left; focus (first | exact Nat.le_refl _ | (simp; done) | (simp; omega)))))
  clear hw1
  go_wp2_with fail
  go_loopw [10] (fun s wr => ∃ (k : Nat) (d : Dep) (A B : Option Addr) (ca cb : Nat), s = .int .i64 k ∧ k ≤ l.length ∧ Blt d ∧ revK.In A d.revs wr ∧ rcdK.In B d.recs wr ∧ Hid ((∀ b off, A = some ⟨b, off, none⟩ → b ≠ w.heap.size) ∧ ∀ b off, B = some ⟨b, off, none⟩ → b ≠ w.heap.size) ∧ Below w.heap.size w wr ∧ Bs [(w.heap.size + 1, 37, [.slice A d.revs.length ca, .slice B d.recs.length cb]), (w.heap.size, 37, [.slice none 0 0, .slice none 0 0])] wr) (fun s _ => l.length - (intOf s).toNat)
  case atStart => exact ⟨0, ⟨[], []⟩, none, none, 0, 0, rfl, Nat.zero_le _, Blt.nil, RowK.In.nil _ _, RowK.In.nil _ _, ⟨(fun _ _ e => by cases e), (fun _ _ e => by cases e)⟩, HB1.out, HM1.out⟩
  case round =>
    obtain ⟨k, d, DA, DB, da, db, rfl, hk, hd, hDA, hDB, HFR, hB, hM⟩ := hrel
    have HD := Lib.hid hd
    have HDA := Lib.hid hDA
    have HDB := Lib.hid hDB
    have HB := Lib.hid hB
    have HM := Lib.hid hM
    clear hd hDA hDB hB hM HM1 HB1
    by_cases hlt : k < l.length
    · obtain ⟨b, off, rfl, hbl, hat⟩ := HI.out (by omega)
      have hg := List.getElem?_eq_getElem hlt
      have hsz := HS.out l[k] (List.getElem_mem hlt)
      have hc := (hat k _ hg).below HB.out hbl
      have hbw : b < wr.heap.size := Nat.lt_of_lt_of_le hbl HB.out.size
      generalize hq : l[k] = c at *
      obtain ⟨E, ec, R, rc, ⟨c0, c1, c2, c3, c4⟩, hE, hR⟩ := hc
      have HAP := Lib.hid (fun w a b e f g => rappend_any d DA DB da db c E R ec rc w a b HD.out.ok e f hsz.1 hsz.2.1 hsz.2.2.1 hsz.2.2.2 g)
      have HE := Lib.hid hE
      have HR := Lib.hid hR
      clear hg hq hat hE hR hsz
      unfold chgV at HAP
      go_upto_region 5 with fail
      generalize hw2 : World.alloc wr (.cells #[.int .i64 c.num, .string c.client, .string c.text, .slice E c.edits.length ec, .slice R c.recs.length rc] 52) = w2
      have HB2 : Hid (Below wr.heap.size wr w2) := by
        show Below _ _ _
        rw [← hw2]
        exact (Below.refl _ _).alloc (Nat.le_refl _) _
      have HK2 : Hid (Blk wr.heap.size 52 [.int .i64 c.num, .string c.client, .string c.text, .slice E c.edits.length ec, .slice R c.recs.length rc] w2) := by
        show Blk _ _ _ _
        rw [← hw2]
        exact Blk.new _ _ _
      clear hw2 c0 c1 c2 c3 c4
      have HM2 := Lib.hid (HM.out.below HB2.out)
      have HBW := Lib.hid (HB.out.trans (HB2.out.mono HB.out.size))
      obtain ⟨d0, d1⟩ := HM2.out.1.c2
      have ld := HM2.out.1.lt
      obtain ⟨g0, g1, g2, g3, g4⟩ := HK2.out.c5
      have lg := HK2.out.lt
      go_wp2_with fail
      refine (HAP.out _ (HDA.out.below HB2.out) (HDB.out.below HB2.out) (HE.out.below HB2.out) (HR.out.below HB2.out) (HG.out.below HBW.out)).mono ?_
      rintro e w3 ⟨n, A3, B3, la, ca3, lb, cb3, rfl, hb3, hres⟩
      have HRES := Lib.hid hres
      have HM3 := Lib.hid (HM2.out.below hb3)
      have HB23 := Lib.hid (HB2.out.trans (hb3.mono HB2.out.size))
      have HBW3 := Lib.hid (HB.out.trans (HB23.out.mono HB.out.size))
      clear hres hb3 d0 d1 ld g0 g1 g2 g3 g4 lg
      by_cases h0 : n = 0
      · subst h0
        obtain ⟨hchk, hm, hl, rfl, rfl, hrA, hrB, hfA, hfB⟩ := HRES.out (by first | rfl | trivial)
        have HD2 : Hid (Blt (appD d c)) := Blt.step HD.out hchk hm hl
        have HRA := Lib.hid hrA
        have HRB := Lib.hid hrB
        have HFA : Hid (∀ b off, A3 = some ⟨b, off, none⟩ → b ≠ w.heap.size + 1) := fun b off e => by
          have := hfA b off e
          have := HM2.out.1.lt
          omega
        have HFB : Hid (∀ b off, B3 = some ⟨b, off, none⟩ → b ≠ w.heap.size + 1) := fun b off e => by
          have := hfB b off e
          have := HM2.out.1.lt
          omega
        have HFR2 : Hid ((∀ b off, A3 = some ⟨b, off, none⟩ → b ≠ w.heap.size) ∧ ∀ b off, B3 = some ⟨b, off, none⟩ → b ≠ w.heap.size) := ⟨fun b off e => by
          have := hfA b off e
          have := HM2.out.1.lt
          omega, fun b off e => by
          have := hfB b off e
          have := HM2.out.1.lt
          omega⟩
        clear hchk hm hl hrA hrB hfA hfB HRES
        obtain ⟨d0, d1⟩ := HM3.out.1.c2
        have f0 := HM3.out.1.fz 0
        have f1 := HM3.out.1.fz 1
        have ld := HM3.out.1.lt
        go_wp2_with fail
        go_roundw
        case rel =>
          have hs3 := HBW3.out.size
          refine ⟨k + 1, appD d c, A3, B3, ca3, cb3, by go_num, by omega, HD2.out, ((HRA.out.setC (HFA.out) _).setC (HFA.out) _).below ((Below.refl _ _).alloc (Nat.le_refl _) _), ((HRB.out.setC (HFB.out) _).setC (HFB.out) _).below ((Below.refl _ _).alloc (Nat.le_refl _) _), HFR2, ((HBW3.out.setCell (by dsimp only; omega) _).setCell (by dsimp only; omega) _).alloc (by simpa [World.setCell] using hs3) _, ((HM3.out.1.set 0 _).set 1 _).alloc _, ((HM3.out.2.1.far (by dsimp only; omega) _).far (by dsimp only; omega) _).alloc _, trivial⟩
        case measure => simp [intOf]; omega
      · go_wp2_with fail
        go_roundw
        case rel =>
          have hal : Below w3.heap.size w3 (w3.alloc (.cells #[.slice A3 la ca3, .slice B3 lb cb3] 37)) := (Below.refl _ _).alloc (Nat.le_refl _) _
          have hAL := HB23.out.trans (hal.mono HB23.out.size)
          exact ⟨k + 1, d, DA, DB, da, db, by go_num, by omega, HD.out, HDA.out.below hAL, HDB.out.below hAL, HFR, HB.out.trans (hAL.mono HB.out.size), HM3.out.alloc _⟩
        case measure => simp [intOf]; omega
    · obtain rfl : k = l.length := by omega
      obtain ⟨d0, d1⟩ := HM.out.1.c2
      have ld := HM.out.1.lt
      obtain ⟨z0, z1⟩ := HM.out.2.1.c2
      have f0 := HM.out.2.1.fz 0
      have f1 := HM.out.2.1.fz 1
      have lz := HM.out.2.1.lt
      go_wp2_with fail
      have KZ := Lib.hid ((HM.out.2.1.set 0 (.slice DA d.revs.length da)).set 1 (.slice DB d.recs.length db))
      have HBZ := Lib.hid ((HB.out.setCell (p := ⟨w.heap.size, 0, none⟩) (Nat.le_refl _) (.slice DA d.revs.length da)).setCell (p := ⟨w.heap.size, 1, none⟩) (Nat.le_refl _) (.slice DB d.recs.length db))
      have HIA := Lib.hid ((HDA.out.setC (p := ⟨w.heap.size, 0, none⟩) (HFR.out.1) (.slice DA d.revs.length da)).setC (p := ⟨w.heap.size, 1, none⟩) (HFR.out.1) (.slice DB d.recs.length db))
      have HIB := Lib.hid ((HDB.out.setC (p := ⟨w.heap.size, 0, none⟩) (HFR.out.2) (.slice DA d.revs.length da)).setC (p := ⟨w.heap.size, 1, none⟩) (HFR.out.2) (.slice DB d.recs.length db))
      clear z0 z1 f0 f1 lz d0 d1 ld
      generalize World.setCell (World.setCell wr _ _) _ _ = wz at *
      obtain ⟨z0, z1⟩ := KZ.out.c2
      have f0 := KZ.out.fz 0
      have f1 := KZ.out.fz 1
      have lz := KZ.out.lt
      refine bodyPost_ret (v := .agg #[.slice DA d.revs.length da, .slice DB d.recs.length db]) (by simp [results, Tryz.results9, go_sem, z0, z1]) rfl ?_
      exact ⟨d, DA, DB, da, db, rfl, HD.out, HIA.out, HIB.out, HBZ.out⟩
end

section
open Go.RowKit

def ChN (c : Chg) : Nat := c.edits.length + c.recs.length
def ChTxt (c : Chg) : Prop := (∀ x ∈ c.edits, x.path.size + x.src.size ≤ 500) ∧ ∀ x ∈ c.recs, x.src.size + x.dst.size ≤ 500
def SmallL (l : List Chg) : Prop := l.length ≤ 40 ∧ (l.map ChN).sum ≤ 200 ∧ ∀ c ∈ l, ChTxt c
/-- What the second form's bound gives of changes that come in. -/
structure ChBnd (l : List Chg) : Prop where
  len : l.length ≤ 1048576
  sum : (l.map ChN).sum ≤ 1048576
  edits : ∀ c ∈ l, ∀ x ∈ c.edits, x.path.size ≤ 1048576 ∧ x.src.size ≤ 1048576
  recs : ∀ c ∈ l, ∀ x ∈ c.recs, x.src.size ≤ 1048576 ∧ x.dst.size ≤ 1048576
theorem sum_mem {l : List Chg} {c : Chg} (h : c ∈ l) : ChN c ≤ (l.map ChN).sum := by
  induction l with
  | nil => cases h
  | cons x r ih =>
    rw [List.map_cons, List.sum_cons]
    rcases List.mem_cons.1 h with rfl | h
    · omega
    · have := ih h
      omega
theorem sum_take {l : List Chg} {k : Nat} (h : k < l.length) : ((l.take (k + 1)).map ChN).sum = ((l.take k).map ChN).sum + ChN l[k] := by
  rw [List.take_succ_eq_append_getElem h, List.map_append, List.sum_append]
  simp
theorem sum_take_le (l : List Chg) (k : Nat) : ((l.take k).map ChN).sum ≤ (l.map ChN).sum := by
  conv => rhs; rw [← List.take_append_drop k l]
  rw [List.map_append, List.sum_append]
  omega
theorem ChBnd.sz {l : List Chg} (h : ChBnd l) {c : Chg} (hc : c ∈ l) : ChSz c := by
  have h1 : c.edits.length + c.recs.length ≤ (l.map ChN).sum := sum_mem hc
  have h2 := h.sum
  refine ⟨by omega, by omega, fun y hy => ?_, fun y hy => ?_⟩
  · have := h.edits c hc y hy
    omega
  · have := h.recs c hc y hy
    omega

def SmallRet (l : List Chg) (w : World) (e : Ending) (w' : World) : Prop := ∃ b : Bool, e = .returned (.bool b) ∧ (b = true → SmallL l) ∧ Below w.heap.size w w'
theorem SmallRet.no {l : List Chg} {w w' : World} (h : Below w.heap.size w w') : SmallRet l w (.returned (.bool false)) w' := ⟨false, rfl, fun h => absurd h (by decide), h⟩
set_option maxRecDepth 100000 in
set_option maxHeartbeats 3200000 in
theorem rsmall_any (l : List Chg) (A : Option Addr) (ca : Nat) (w : World) (hA : ChsIn A l w) (hb : ChBnd l) :
    Calls Tryz.prog 6 #[.slice A l.length ca] w (SmallRet l w) := by
  have HI := Lib.hid hA
  have HB0 := Lib.hid hb
  have hln := hb.len
  clear hA hb
  go_enter Tryz.func6, Tryz.ntmps6
  go_wp2_with fail
  go_loopw [3, 12] (fun n i wr => ∃ k m : Nat, n = .int .i64 m ∧ i = .int .i64 k ∧ k ≤ l.length ∧ Hid (((l.take k).map ChN).sum = m) ∧ Below w.heap.size w wr ∧ Hid (∀ c ∈ l.take k, ChTxt c)) (fun _ i _ => l.length - (intOf i).toNat)
  case atStart => exact ⟨0, 0, rfl, rfl, Nat.zero_le _, rfl, Below.refl _ _, fun c h => by simp at h⟩
  case round =>
    obtain ⟨k, m, rfl, rfl, hk, HSM, hB, HC⟩ := hrel
    have HB := Lib.hid hB
    clear hB
    have hml : m ≤ 1048576 := by
      rw [← HSM.out]
      exact Nat.le_trans (sum_take_le l k) HB0.out.sum
    by_cases hlt : k < l.length
    · obtain ⟨b, off, rfl, hbl, hat⟩ := HI.out (by omega)
      have hg := List.getElem?_eq_getElem hlt
      have hmem := List.getElem_mem hlt
      have hc := (hat k _ hg).below HB.out hbl
      have hbw : b < wr.heap.size := Nat.lt_of_lt_of_le hbl HB.out.size
      have HT : Hid (l.take (k + 1) = l.take k ++ [l[k]]) := List.take_succ_eq_append_getElem hlt
      have hsum : m + ChN l[k] ≤ 1048576 := by
        have h1 := sum_take hlt
        rw [HSM.out] at h1
        rw [← h1]
        exact Nat.le_trans (sum_take_le l (k + 1)) HB0.out.sum
      have HSM2 : Hid (((l.take (k + 1)).map ChN).sum = m + ChN l[k]) := by
        show _ = _
        rw [sum_take hlt, HSM.out]
      have HEB := Lib.hid (HB0.out.edits _ hmem)
      have HRB := Lib.hid (HB0.out.recs _ hmem)
      generalize hq : l[k] = c at *
      obtain ⟨E, ec, R, rc, ⟨c0, c1, c2, c3, c4⟩, hE, hR⟩ := hc
      have HE := Lib.hid hE
      have HR := Lib.hid hR
      clear hg hq hat hE hR hmem
      unfold ChN at hsum
      go_upto_region 5 with fail
      generalize hw2 : World.alloc wr (.cells #[.int .i64 c.num, .string c.client, .string c.text, .slice E c.edits.length ec, .slice R c.recs.length rc] 52) = w2
      have HB2 : Hid (Below wr.heap.size wr w2) := by
        show Below _ _ _
        rw [← hw2]
        exact (Below.refl _ _).alloc (Nat.le_refl _) _
      have HK2 : Hid (Blk wr.heap.size 52 [.int .i64 c.num, .string c.client, .string c.text, .slice E c.edits.length ec, .slice R c.recs.length rc] w2) := by
        show Blk _ _ _ _
        rw [← hw2]
        exact Blk.new _ _ _
      clear hw2 c0 c1 c2 c3 c4
      have HBW := Lib.hid (HB.out.trans (HB2.out.mono HB.out.size))
      have HE2 := Lib.hid (HE.out.below HB2.out)
      have HR2 := Lib.hid (HR.out.below HB2.out)
      generalize wr.heap.size = cb at *
      obtain ⟨g0, g1, g2, g3, g4⟩ := HK2.out.c5
      have lg := HK2.out.lt
      go_wp2_with fail
      clear g0 g1 g2 g3 g4 lg
      go_loopw [28] (fun i wx => ∃ j : Nat, i = .int .i64 j ∧ j ≤ c.edits.length ∧ Below w2.heap.size w2 wx ∧ Hid (∀ x ∈ c.edits.take j, x.path.size + x.src.size ≤ 500)) (fun i _ => c.edits.length - (intOf i).toNat)
      case atStart => exact ⟨0, rfl, Nat.zero_le _, Below.refl _ _, fun x h => by simp at h⟩
      case round =>
        obtain ⟨j, rfl, hj, hB, HL⟩ := hrel
        have HBx := Lib.hid hB
        clear hB
        by_cases hjl : j < c.edits.length
        · obtain ⟨eb, eo, rfl, hel, hat⟩ := HE2.out (by omega)
          have hat := hat.below HBx.out hel
          have hel' : eb < wr.heap.size := Nat.lt_of_lt_of_le hel HBx.out.size
          have hg := List.getElem?_eq_getElem hjl
          have HT2 : Hid (c.edits.take (j + 1) = c.edits.take j ++ [c.edits[j]]) := List.take_succ_eq_append_getElem hjl
          have hxb := HEB.out _ (List.getElem_mem hjl)
          generalize hq : c.edits[j] = x at *
          (have hcv := fun j (u : Value) (hj : (x).cells[j]? = some u) => ((hat).get hg hj); have c0 := hcv 0 _ rfl; have c1 := hcv 1 _ rfl; have c2 := hcv 2 _ rfl; have c3 := hcv 3 _ rfl; have c4 := hcv 4 _ rfl; have c5 := hcv 5 _ rfl; have c6 := hcv 6 _ rfl; have c7 := hcv 7 _ rfl; have c8 := hcv 8 _ rfl; have c9 := hcv 9 _ rfl; have c10 := hcv 10 _ rfl; have c11 := hcv 11 _ rfl; have e12 : edtK.n = 12 := rfl; simp only [e12, Nat.add_zero] at c0 c1 c2 c3 c4 c5 c6 c7 c8 c9 c10 c11; clear hcv e12)
          clear hat hg hq
          obtain ⟨xp, xa, ⟨tb1, tk, te, tx⟩, ⟨cs, cz⟩, xb, xs, xm, xf⟩ := x
          dsimp only at hxb
          have hsz : xp.size + xs.size ≤ 2097152 := by omega
          by_cases hv : 500 < xp.size + xs.size
          · go_wp2_with fail
            go_ret
            exact SmallRet.no ((HBW.out.trans (HBx.out.mono HBW.out.size)).alloc (HBW.out.trans (HBx.out.mono HBW.out.size)).size _)
          · have hv2 : xp.size + xs.size ≤ 500 := by omega
            go_wp2_with fail
            go_roundw
            case rel =>
              refine ⟨j + 1, by go_num, by omega, HBx.out.alloc HBx.out.size _, fun x hx => ?_⟩
              rw [HT2.out] at hx
              rcases List.mem_append.1 hx with h | h
              · exact HL.out x h
              · rw [List.mem_singleton.1 h]
                exact hv2
            case measure => simp [intOf]; omega
        · obtain rfl : j = c.edits.length := by omega
          have HEL : Hid (∀ x ∈ c.edits, x.path.size + x.src.size ≤ 500) := by
            have := HL.out
            rwa [List.take_length] at this
          have HK3 := Lib.hid (HK2.out.below HBx.out)
          have HR3 := Lib.hid (HR2.out.below HBx.out)
          have HBW3 := Lib.hid (HBW.out.trans (HBx.out.mono HBW.out.size))
          clear HL hjl hj HBx HK2 HR2
          generalize wr = w3 at *
          obtain ⟨g0, g1, g2, g3, g4⟩ := HK3.out.c5
          have lg := HK3.out.lt
          go_wp2_with fail
          clear g0 g1 g2 g3 g4 lg
          go_loopw [44] (fun i wx => ∃ j : Nat, i = .int .i64 j ∧ j ≤ c.recs.length ∧ Below w3.heap.size w3 wx ∧ Hid (∀ x ∈ c.recs.take j, x.src.size + x.dst.size ≤ 500)) (fun i _ => c.recs.length - (intOf i).toNat)
          case atStart => exact ⟨0, rfl, Nat.zero_le _, Below.refl _ _, fun x h => by simp at h⟩
          case round =>
            obtain ⟨j, rfl, hj, hB, HL⟩ := hrel
            have HBx := Lib.hid hB
            clear hB
            by_cases hjl : j < c.recs.length
            · obtain ⟨eb, eo, rfl, hel, hat⟩ := HR3.out (by omega)
              have hat := hat.below HBx.out hel
              have hel' : eb < wr.heap.size := Nat.lt_of_lt_of_le hel HBx.out.size
              have hg := List.getElem?_eq_getElem hjl
              have HT2 : Hid (c.recs.take (j + 1) = c.recs.take j ++ [c.recs[j]]) := List.take_succ_eq_append_getElem hjl
              have hxb := HRB.out _ (List.getElem_mem hjl)
              generalize hq : c.recs[j] = x at *
              (have hcv := fun j (u : Value) (hj : (x).cells[j]? = some u) => ((hat).get hg hj); have c0 := hcv 0 _ rfl; have c1 := hcv 1 _ rfl; have c2 := hcv 2 _ rfl; have c3 := hcv 3 _ rfl; have c4 := hcv 4 _ rfl; have c5 := hcv 5 _ rfl; have e12 : rcdK.n = 6 := rfl; simp only [e12, Nat.add_zero] at c0 c1 c2 c3 c4 c5; clear hcv e12)
              clear hat hg hq
              obtain ⟨ys, yf, yl, yd, yn, yh⟩ := x
              dsimp only at hxb
              have hsz : ys.size + yd.size ≤ 2097152 := by omega
              by_cases hv : 500 < ys.size + yd.size
              · go_wp2_with fail
                go_ret
                exact SmallRet.no ((HBW3.out.trans (HBx.out.mono HBW3.out.size)).alloc (HBW3.out.trans (HBx.out.mono HBW3.out.size)).size _)
              · have hv2 : ys.size + yd.size ≤ 500 := by omega
                go_wp2_with fail
                go_roundw
                case rel =>
                  refine ⟨j + 1, by go_num, by omega, HBx.out.alloc HBx.out.size _, fun x hx => ?_⟩
                  rw [HT2.out] at hx
                  rcases List.mem_append.1 hx with h | h
                  · exact HL.out x h
                  · rw [List.mem_singleton.1 h]
                    exact hv2
                case measure => simp [intOf]; omega
            · obtain rfl : j = c.recs.length := by omega
              have HRL : Hid (∀ x ∈ c.recs, x.src.size + x.dst.size ≤ 500) := by
                have := HL.out
                rwa [List.take_length] at this
              go_wp2_with fail
              go_roundw
              case rel =>
                refine ⟨k + 1, m + ChN c, by unfold ChN; go_num, by go_num, by omega, HSM2, HBW3.out.trans (HBx.out.mono HBW3.out.size), fun x hx => ?_⟩
                rw [HT.out] at hx
                rcases List.mem_append.1 hx with h | h
                · exact HC.out x h
                · rw [List.mem_singleton.1 h]
                  exact ⟨HEL.out, HRL.out⟩
              case measure => simp [intOf]; omega
    · obtain rfl : k = l.length := by omega
      have HC2 : Hid (∀ c ∈ l, ChTxt c) := by
        have := HC.out
        rwa [List.take_length] at this
      have HS2 : Hid ((l.map ChN).sum = m) := by
        have := HSM.out
        rwa [List.take_length] at this
      clear HC HSM
      by_cases h1 : l.length ≤ 40
      · have e1 : decide ((l.length : Int) ≤ 40) = true := by rw [decide_eq_true_eq]; omega
        by_cases h2 : m ≤ 200
        · have e2 : decide ((m : Int) ≤ 200) = true := by rw [decide_eq_true_eq]; omega
          go_wp2_with fail
          go_ret
          exact ⟨_, rfl, fun _ => ⟨h1, by rw [HS2.out]; exact h2, HC2.out⟩, HB.out⟩
        · have e2 : decide ((m : Int) ≤ 200) = false := by rw [decide_eq_false_iff_not]; omega
          go_wp2_with fail
          go_ret
          exact SmallRet.no HB.out
      · have e1 : decide ((l.length : Int) ≤ 40) = false := by rw [decide_eq_false_iff_not]; omega
        go_wp2_with fail
        go_ret
        exact SmallRet.no HB.out
end

end Go.Proofs.YtocffknoeknabaaGreatDoor
