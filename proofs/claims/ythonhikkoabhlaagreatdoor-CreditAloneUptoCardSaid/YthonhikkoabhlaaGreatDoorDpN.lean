/-
  The walks of the reference's Build and Small.
-/
import Derived.Test.YthonhikkoabhlaaGreatDoorDpA
namespace Go.Proofs.YthonhikkoabhlaaGreatDoor
open Go.RowKit

/-- A list of changes, read out of memory. -/
def ChAt (w : World) (b off : Nat) (c : Chg) : Prop := ∃ (E : Option Addr) (ec : Nat) (R : Option Addr) (rc : Nat),
  (w.cell? ⟨b, off, none⟩ = some (.int .i64 c.num) ∧ w.cell? ⟨b, off + 1, none⟩ = some (.string c.client) ∧ w.cell? ⟨b, off + 2, none⟩ = some (.string c.text) ∧ w.cell? ⟨b, off + 3, none⟩ = some (.slice E c.edits.length ec) ∧ w.cell? ⟨b, off + 4, none⟩ = some (.slice R c.recs.length rc)) ∧ edtK.In E c.edits w ∧ rcdK.In R c.recs w
def ChsIn (A : Option Addr) (l : List Chg) (w : World) : Prop := 0 < l.length → ∃ b off, A = some ⟨b, off, none⟩ ∧ b < w.heap.size ∧ ∀ i c, l[i]? = some c → ChAt w b (off + i * 5) c
theorem ChAt.below {w w' : World} {b off : Nat} {c : Chg} (h : ChAt w b off c) (hb : Below w.heap.size w w') (hl : b < w.heap.size) : ChAt w' b off c := by
  obtain ⟨E, ec, R, rc, ⟨h0, h1, h2, h3, h4⟩, h5, h6⟩ := h
  obtain ⟨hc, _⟩ := bcell hb
  exact ⟨E, ec, R, rc, ⟨(hc b _ hl).trans h0, (hc b _ hl).trans h1, (hc b _ hl).trans h2, (hc b _ hl).trans h3, (hc b _ hl).trans h4⟩, h5.below hb, h6.below hb⟩
theorem ChsIn.below {A : Option Addr} {l : List Chg} {w w' : World} (h : ChsIn A l w) (hb : Below w.heap.size w w') : ChsIn A l w' := fun hl => by
  obtain ⟨b, off, e, h1, h2⟩ := h hl
  exact ⟨b, off, e, Nat.lt_of_lt_of_le h1 hb.size, fun i c hc => (h2 i c hc).below hb h1⟩

/-- Texts that can be read, lists that can be counted. -/
def ChSz (c : Chg) : Prop := c.edits.length ≤ 9000000000000000000 ∧ c.recs.length ≤ 9000000000000000000 ∧ (∀ y ∈ c.edits, y.path.size < 4294967281 ∧ y.src.size < 4294967281) ∧ ∀ y ∈ c.recs, y.src.size < 4294967281 ∧ y.dst.size < 4294967281

def BuildRet (w : World) (e : Ending) (w' : World) : Prop := ∃ (d : Dep) (A B : Option Addr) (ca cb : Nat), e = .returned (.agg #[.slice A d.revs.length ca, .slice B d.recs.length cb]) ∧ Blt d ∧ revK.In A d.revs w' ∧ rcdK.In B d.recs w' ∧ Below w.heap.size w w'

set_option maxRecDepth 100000 in
set_option maxHeartbeats 3200000 in
theorem rbuild_any (l : List Chg) (A : Option Addr) (ca : Nat) (w : World) (hA : ChsIn A l w) (hn : l.length ≤ 9000000000000000000) (hs : ∀ c ∈ l, ChSz c) (hg : G0 w) :
    Calls Tryz.prog 7 #[.slice A l.length ca] w (BuildRet w) := by
  have HI := Lib.hid hA
  have HS := Lib.hid hs
  have HG := Lib.hid hg
  clear hA hs hg
  go_enter Tryz.func7, Tryz.ntmps7
  go_upto_region 2 with fail
  generalize hw1 : World.alloc _ (.cells #[.slice none 0 0, .slice none 0 0] 28) = w1
  have HM1 : Hid (Bs [(w.heap.size + 1, 28, [.slice none 0 0, .slice none 0 0]), (w.heap.size, 28, [.slice none 0 0, .slice none 0 0])] w1) := by
    show Bs _ _
    rw [← hw1]
    exact ⟨Blk.new1 _ _ _ _, Blk.alloc (Blk.new _ _ _) _, trivial⟩
  have HB1 : Hid (Below w.heap.size w w1) := by
    show Below _ _ _
    rw [← hw1]
    (repeat (first | (with_reducible exact Below.refl _ _) | (with_reducible assumption) | (with_reducible refine Below.setCell ?_ ?_ _; rotate_left; focus (first | exact Nat.le_refl _ | (dsimp only; omega))) | (with_reducible refine Below.drew ?_) | (with_reducible refine below_drewN ?_ _) | (with_reducible refine Below.alloc ?_ ?_ _; rotate_left; focus (first | exact Nat.le_refl _ | (simp; done) | (simp; omega)))))
  clear hw1
  go_wp2_with fail
  go_loopw [10] (fun s wr => ∃ (k : Nat) (d : Dep) (A B : Option Addr) (ca cb : Nat), s = .int .i64 k ∧ k ≤ l.length ∧ Blt d ∧ revK.In A d.revs wr ∧ rcdK.In B d.recs wr ∧ Hid ((∀ b off, A = some ⟨b, off, none⟩ → b ≠ w.heap.size) ∧ ∀ b off, B = some ⟨b, off, none⟩ → b ≠ w.heap.size) ∧ Below w.heap.size w wr ∧ Bs [(w.heap.size + 1, 28, [.slice A d.revs.length ca, .slice B d.recs.length cb]), (w.heap.size, 28, [.slice none 0 0, .slice none 0 0])] wr) (fun s _ => l.length - (intOf s).toNat)
  case atStart => exact ⟨0, ⟨[], []⟩, none, none, 0, 0, rfl, Nat.zero_le _, Blt.nil, RowK.In.nil _ _, RowK.In.nil _ _, ⟨(fun _ _ e => by cases e), (fun _ _ e => by cases e)⟩, HB1.out, HM1.out⟩
  case round =>
    obtain ⟨k, d, DA, DB, da, db, rfl, hk, hd, hDA, hDB, HFR, hB, hM⟩ := hrel
    have HD := Lib.hid hd
    have HDA := Lib.hid hDA
    have HDB := Lib.hid hDB
    have HB := Lib.hid hB
    have HM := Lib.hid hM
    clear hd hDA hDB hB hM HM1 HB1
    by_cases hlt : k < l.length
    · obtain ⟨b, off, rfl, hbl, hat⟩ := HI.out (by omega)
      have hg := List.getElem?_eq_getElem hlt
      have hsz := HS.out l[k] (List.getElem_mem hlt)
      have hc := (hat k _ hg).below HB.out hbl
      have hbw : b < wr.heap.size := Nat.lt_of_lt_of_le hbl HB.out.size
      generalize hq : l[k] = c at *
      obtain ⟨E, ec, R, rc, ⟨c0, c1, c2, c3, c4⟩, hE, hR⟩ := hc
      have HAP := Lib.hid (fun w a b e f g => rappend_any d DA DB da db c E R ec rc w a b HD.out.ok e f hsz.1 hsz.2.1 hsz.2.2.1 hsz.2.2.2 g)
      have HE := Lib.hid hE
      have HR := Lib.hid hR
      clear hg hq hat hE hR hsz
      unfold chgV at HAP
      go_upto_region 5 with fail
      generalize hw2 : World.alloc wr (.cells #[.int .i64 c.num, .string c.client, .string c.text, .slice E c.edits.length ec, .slice R c.recs.length rc] 57) = w2
      have HB2 : Hid (Below wr.heap.size wr w2) := by
        show Below _ _ _
        rw [← hw2]
        exact (Below.refl _ _).alloc (Nat.le_refl _) _
      have HK2 : Hid (Blk wr.heap.size 57 [.int .i64 c.num, .string c.client, .string c.text, .slice E c.edits.length ec, .slice R c.recs.length rc] w2) := by
        show Blk _ _ _ _
        rw [← hw2]
        exact Blk.new _ _ _
      clear hw2 c0 c1 c2 c3 c4
      have HM2 := Lib.hid (HM.out.below HB2.out)
      have HBW := Lib.hid (HB.out.trans (HB2.out.mono HB.out.size))
      obtain ⟨d0, d1⟩ := HM2.out.1.c2
      have ld := HM2.out.1.lt
      obtain ⟨g0, g1, g2, g3, g4⟩ := HK2.out.c5
      have lg := HK2.out.lt
      go_wp2_with fail
      refine (HAP.out _ (HDA.out.below HB2.out) (HDB.out.below HB2.out) (HE.out.below HB2.out) (HR.out.below HB2.out) (HG.out.below HBW.out)).mono ?_
      rintro e w3 ⟨n, A3, B3, la, ca3, lb, cb3, rfl, hb3, hres⟩
      have HRES := Lib.hid hres
      have HM3 := Lib.hid (HM2.out.below hb3)
      have HB23 := Lib.hid (HB2.out.trans (hb3.mono HB2.out.size))
      have HBW3 := Lib.hid (HB.out.trans (HB23.out.mono HB.out.size))
      clear hres hb3 d0 d1 ld g0 g1 g2 g3 g4 lg
      by_cases h0 : n = 0
      · subst h0
        obtain ⟨hchk, hm, hl, rfl, rfl, hrA, hrB, hfA, hfB⟩ := HRES.out (by first | rfl | trivial)
        have HD2 : Hid (Blt (appD d c)) := Blt.step HD.out hchk hm hl
        have HRA := Lib.hid hrA
        have HRB := Lib.hid hrB
        have HFA : Hid (∀ b off, A3 = some ⟨b, off, none⟩ → b ≠ w.heap.size + 1) := fun b off e => by
          have := hfA b off e
          have := HM2.out.1.lt
          omega
        have HFB : Hid (∀ b off, B3 = some ⟨b, off, none⟩ → b ≠ w.heap.size + 1) := fun b off e => by
          have := hfB b off e
          have := HM2.out.1.lt
          omega
        have HFR2 : Hid ((∀ b off, A3 = some ⟨b, off, none⟩ → b ≠ w.heap.size) ∧ ∀ b off, B3 = some ⟨b, off, none⟩ → b ≠ w.heap.size) := ⟨fun b off e => by
          have := hfA b off e
          have := HM2.out.1.lt
          omega, fun b off e => by
          have := hfB b off e
          have := HM2.out.1.lt
          omega⟩
        clear hchk hm hl hrA hrB hfA hfB HRES
        obtain ⟨d0, d1⟩ := HM3.out.1.c2
        have f0 := HM3.out.1.fz 0
        have f1 := HM3.out.1.fz 1
        have ld := HM3.out.1.lt
        go_wp2_with fail
        go_roundw
        case rel =>
          have hs3 := HBW3.out.size
          refine ⟨k + 1, appD d c, A3, B3, ca3, cb3, by go_num, by omega, HD2.out, ((HRA.out.setC (HFA.out) _).setC (HFA.out) _).below ((Below.refl _ _).alloc (Nat.le_refl _) _), ((HRB.out.setC (HFB.out) _).setC (HFB.out) _).below ((Below.refl _ _).alloc (Nat.le_refl _) _), HFR2, ((HBW3.out.setCell (by dsimp only; omega) _).setCell (by dsimp only; omega) _).alloc (by simpa [World.setCell] using hs3) _, ((HM3.out.1.set 0 _).set 1 _).alloc _, ((HM3.out.2.1.far (by dsimp only; omega) _).far (by dsimp only; omega) _).alloc _, trivial⟩
        case measure => simp [intOf]; omega
      · go_wp2_with fail
        go_roundw
        case rel =>
          have hal : Below w3.heap.size w3 (w3.alloc (.cells #[.slice A3 la ca3, .slice B3 lb cb3] 28)) := (Below.refl _ _).alloc (Nat.le_refl _) _
          have hAL := HB23.out.trans (hal.mono HB23.out.size)
          exact ⟨k + 1, d, DA, DB, da, db, by go_num, by omega, HD.out, HDA.out.below hAL, HDB.out.below hAL, HFR, HB.out.trans (hAL.mono HB.out.size), HM3.out.alloc _⟩
        case measure => simp [intOf]; omega
    · obtain rfl : k = l.length := by omega
      obtain ⟨d0, d1⟩ := HM.out.1.c2
      have ld := HM.out.1.lt
      obtain ⟨z0, z1⟩ := HM.out.2.1.c2
      have f0 := HM.out.2.1.fz 0
      have f1 := HM.out.2.1.fz 1
      have lz := HM.out.2.1.lt
      go_wp2_with fail
      have KZ := Lib.hid ((HM.out.2.1.set 0 (.slice DA d.revs.length da)).set 1 (.slice DB d.recs.length db))
      have HBZ := Lib.hid ((HB.out.setCell (p := ⟨w.heap.size, 0, none⟩) (Nat.le_refl _) (.slice DA d.revs.length da)).setCell (p := ⟨w.heap.size, 1, none⟩) (Nat.le_refl _) (.slice DB d.recs.length db))
      have HIA := Lib.hid ((HDA.out.setC (p := ⟨w.heap.size, 0, none⟩) (HFR.out.1) (.slice DA d.revs.length da)).setC (p := ⟨w.heap.size, 1, none⟩) (HFR.out.1) (.slice DB d.recs.length db))
      have HIB := Lib.hid ((HDB.out.setC (p := ⟨w.heap.size, 0, none⟩) (HFR.out.2) (.slice DA d.revs.length da)).setC (p := ⟨w.heap.size, 1, none⟩) (HFR.out.2) (.slice DB d.recs.length db))
      clear z0 z1 f0 f1 lz d0 d1 ld
      generalize World.setCell (World.setCell wr _ _) _ _ = wz at *
      obtain ⟨z0, z1⟩ := KZ.out.c2
      have f0 := KZ.out.fz 0
      have f1 := KZ.out.fz 1
      have lz := KZ.out.lt
      refine bodyPost_ret (v := .agg #[.slice DA d.revs.length da, .slice DB d.recs.length db]) (by simp [results, Tryz.results7, go_sem, z0, z1]) rfl ?_
      exact ⟨d, DA, DB, da, db, rfl, HD.out, HIA.out, HIB.out, HBZ.out⟩
end Go.Proofs.YthonhikkoabhlaaGreatDoor
