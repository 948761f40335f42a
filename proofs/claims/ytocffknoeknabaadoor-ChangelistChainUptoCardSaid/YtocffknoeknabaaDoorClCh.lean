/-
  ChangelistChain returns true for all changes, calls and texts that are not longer than 1048576 bytes; what was in memory before the call stays as it was (printed by mkchain.py).
-/
import Derived.Test.YtocffknoeknabaaDoorCgK
import Derived.Test.YtocffknoeknabaaDoorCgJ
import Derived.Test.YtocffknoeknabaaDoorCgH
namespace Go.Proofs.YtocffknoeknabaaDoor
open Go.RowKit

set_option maxRecDepth 100000 in
set_option maxHeartbeats 12800000 in
theorem chain_any (l : List Chg) (ops : List Opr) (A F : Option Addr) (ca fc : Nat) (s m t : ByteArray) (w : World) (hA : ChsIn A l w) (hb : ChBnd l) (hF : oprK.In F ops w) (hn : ops.length ≤ 1048576) (ho : ∀ o ∈ ops, o.s.size ≤ 1048576 ∧ o.t.size ≤ 1048576) (hs : s.size ≤ 1048576) (hm : m.size ≤ 1048576) (ht : t.size ≤ 1048576) (hg : G0 w) :
    Calls Tryd.prog 3 #[.slice A l.length ca, .slice F ops.length fc, .string s, .string m, .string t] w fun e w' => e = .returned (.bool true) ∧ Below w.heap.size w w' := by
  have HSM := Lib.hid (fun x hx => rsmall_any l A ca x (hA.below hx) hb)
  have HBU := Lib.hid (fun x (hx : Below w.heap.size w x) => rbuild_any l A ca x (hA.below hx) (by have := hb.len; omega) (fun c hc => hb.sz hc) (hg.below hx))
  have HFW := Lib.hid (fun x (hx : Below w.heap.size w x) => few_any ops F fc x (hF.below hx) hn ho)
  have HBT := Lib.hid (fun d A B ca nb cb x (hx : Below w.heap.size w x) h1 h2 h3 h4 => built_any d ops A B F ca nb cb fc x h1 (hF.below hx) h2 h3 h4 ho (hg.below hx))
  have HG := Lib.hid hg
  clear hA hb hF hn ho hg
  go_enter Tryd.func3, Tryd.ntmps3
  go_wp2_with fail
  refine (HSM.out _ (Below.refl _ _)).mono ?_
  rintro e w1 ⟨sm, rfl, -, hb1⟩
  have HB1 := Lib.hid hb1
  clear hb1
  cases sm
  ·
    go_wp2_with (go_at_call 10; refine (awake18_any _).mono ?_; rintro e w9 ⟨rfl, HB9⟩)
    go_ret
    exact ⟨rfl, HB1.out.trans (HB9.mono HB1.out.size)⟩
  go_wp2_with fail
  refine (HFW.out _ HB1.out).mono ?_
  rintro e w2 ⟨fb, rfl, hfw, hb2⟩
  have HB2 := Lib.hid (HB1.out.trans (hb2.mono HB1.out.size))
  clear hb2 HB1
  cases fb
  ·
    clear hfw
    go_wp2_with (go_at_call 10; refine (awake18_any _).mono ?_; rintro e w9 ⟨rfl, HB9⟩)
    go_ret
    exact ⟨rfl, HB2.out.trans (HB9.mono HB2.out.size)⟩
  have HFL := Lib.hid (hfw rfl)
  clear hfw
  have hsum : s.size + m.size + t.size ≤ 3145728 := by omega
  by_cases h6 : 600 < s.size + m.size + t.size
  ·
    go_wp2_with (go_at_call 10; refine (awake18_any _).mono ?_; rintro e w9 ⟨rfl, HB9⟩)
    go_ret
    exact ⟨rfl, HB2.out.trans (HB9.mono HB2.out.size)⟩
  cases hst : (s.toList == t.toList)
  case true =>
    go_wp2_with (go_at_call 10; refine (awake18_any _).mono ?_; rintro e w9 ⟨rfl, HB9⟩)
    go_ret
    exact ⟨rfl, HB2.out.trans (HB9.mono HB2.out.size)⟩
  have HST : Hid (s ≠ t) := fun e => by rw [e] at hst; simp at hst
  -- MARKA
  go_wp2_with fail
  refine (HBU.out _ HB2.out).mono ?_
  rintro e w3 ⟨d, DA, DB, da, db, rfl, hblt, hIA, hIB, hb3⟩
  have hok := hblt.ok
  have hRl : d.revs.length ≤ 512 := hok.few
  have HAS := Lib.hid hok.asc
  have HB3 := Lib.hid (HB2.out.trans (hb3.mono HB2.out.size))
  have HIA3 := Lib.hid hIA
  clear hb3 HB2 hIA hIB hblt hok HSM HBU HFW hst
  generalize d.revs = R at *
  generalize d.recs.length = rl at *
  have HM4 : Hid (Bs [(w3.heap.size, 30, [.slice DA R.length da, .slice DB rl db])] (w3.alloc (.cells [.slice DA R.length da, .slice DB rl db].toArray 30))) := ⟨Blk.new w3 30 [.slice DA R.length da, .slice DB rl db], trivial⟩
  have HB4 : Hid (Below w.heap.size w (w3.alloc (.cells [.slice DA R.length da, .slice DB rl db].toArray 30))) := HB3.out.alloc HB3.out.size _
  have HI4 := Lib.hid (HIA3.out.below ((Below.refl _ _).alloc (Nat.le_refl _) (.cells [.slice DA R.length da, .slice DB rl db].toArray 30)))
  go_upto_region 4 with fail
  -- MARKB
  generalize hw4 : World.alloc w3 (.cells #[.slice DA R.length da, .slice DB rl db] 30) = w4 at *
  clear hw4 HB3 HIA3
  obtain ⟨d0, d1⟩ := HM4.out.1.c2
  have HLL := Lib.hid (HFL.out.1)
  go_wp2_with fail
  -- MARKC
  refine (HBT.out _ _ _ _ _ _ _ HB4.out HI4.out hRl HAS.out (by have := HFL.out.1; omega)).mono ?_
  have HOK := Lib.hid (run_ok HAS.out hRl ops (p := p0P) EOk.nil)
  generalize hP : runP R p0P ops = P at *
  clear hP
  rintro e w5 ⟨E0, e0, R0, r0, rfl, hi5, hf5, hb5⟩
  unfold pndV pndC
  dsimp only
  have HM6 : Hid (Bs [(w5.heap.size, 34, [.int .i64 P.num, .string P.client, .string P.text, .bool P.shv, .slice E0 P.edits.length e0, .slice R0 0 r0]), (w3.heap.size, 30, [.slice DA R.length da, .slice DB rl db])] (w5.alloc (.cells [.int .i64 P.num, .string P.client, .string P.text, .bool P.shv, .slice E0 P.edits.length e0, .slice R0 0 r0].toArray 34))) := Bs.cons (Blk.new w5 34 [.int .i64 P.num, .string P.client, .string P.text, .bool P.shv, .slice E0 P.edits.length e0, .slice R0 0 r0]) ((HM4.out.below hb5).alloc _)
  have HB6 : Hid (Below w.heap.size w (w5.alloc (.cells [.int .i64 P.num, .string P.client, .string P.text, .bool P.shv, .slice E0 P.edits.length e0, .slice R0 0 r0].toArray 34))) := (HB4.out.trans (hb5.mono HB4.out.size)).alloc (HB4.out.trans (hb5.mono HB4.out.size)).size _
  have HI6 := Lib.hid ((HI4.out.below hb5).below ((Below.refl _ _).alloc (Nat.le_refl _) (.cells [.int .i64 P.num, .string P.client, .string P.text, .bool P.shv, .slice E0 P.edits.length e0, .slice R0 0 r0].toArray 34)))
  have HP6 := Lib.hid (hi5.below ((Below.refl _ _).alloc (Nat.le_refl _) (.cells [.int .i64 P.num, .string P.client, .string P.text, .bool P.shv, .slice E0 P.edits.length e0, .slice R0 0 r0].toArray 34)))
  clear hb5 hi5 hf5 HM4 HB4 HI4 d0 d1 HBT
  go_upto_region 5 with fail
  -- MARKD
  generalize hw6 : World.alloc w5 (.cells #[.int .i64 P.num, .string P.client, .string P.text, .bool P.shv, .slice E0 P.edits.length e0, .slice R0 0 r0] 34) = w6 at *
  clear hw6
  have HMV := Lib.hid (fun (p : Pnd) s t E R2 ec rc x h1 h2 h3 h4 h5 => move_any R p s t DA DB E R2 da rl db ec rc x h1 h2 h3 hRl HAS.out h4 h5)
  unfold pndV pndC at HMV
  (obtain ⟨p0, p1, p2, p3, p4, p5⟩ := (HM6.out.1).c6)
  (obtain ⟨d0, d1⟩ := (HM6.out.2.1).c2)
  have lt6 := HM6.out.1.lt
  have ltd6 := HM6.out.2.1.lt
  have hsz6 := HB6.out.size
  go_wp2_with fail
  refine (HMV.out P s m _ _ _ _ _ HI6.out HP6.out HOK.out (by omega) (by omega)).mono ?_
  have HQ1 := Lib.hid (fun h1 => chain_law HAS.out hRl HOK.out HST.out (t := m) h1)
  have HOKA := Lib.hid (move_ok HAS.out hRl HOK.out s m)
  generalize hq1 : moveP R P s m = q1 at *
  clear hq1
  rintro e w7 ⟨E1, e1, R1, r1, rfl, hi7, hf7, hb7⟩
  obtain ⟨a, ea⟩ := q1
  unfold pndV pndC
  dsimp only at hi7 HQ1 HOKA ⊢
  have HM8 : Hid (Bs [(w7.heap.size, 34, [.int .i64 a.num, .string a.client, .string a.text, .bool a.shv, .slice E1 a.edits.length e1, .slice R1 0 r1]), (w5.heap.size, 34, [.int .i64 P.num, .string P.client, .string P.text, .bool P.shv, .slice E0 P.edits.length e0, .slice R0 0 r0]), (w3.heap.size, 30, [.slice DA R.length da, .slice DB rl db])] (w7.alloc (.cells [.int .i64 a.num, .string a.client, .string a.text, .bool a.shv, .slice E1 a.edits.length e1, .slice R1 0 r1].toArray 34))) := Bs.cons (Blk.new w7 34 [.int .i64 a.num, .string a.client, .string a.text, .bool a.shv, .slice E1 a.edits.length e1, .slice R1 0 r1]) ((HM6.out.below hb7).alloc _)
  have HB8 : Hid (Below w.heap.size w (w7.alloc (.cells [.int .i64 a.num, .string a.client, .string a.text, .bool a.shv, .slice E1 a.edits.length e1, .slice R1 0 r1].toArray 34))) := (HB6.out.trans (hb7.mono HB6.out.size)).alloc (HB6.out.trans (hb7.mono HB6.out.size)).size _
  have HI7 := Lib.hid (HI6.out.below hb7)
  have HP7 := Lib.hid (HP6.out.below hb7)
  have HI8 := Lib.hid ((HI6.out.below hb7).below ((Below.refl _ _).alloc (Nat.le_refl _) (.cells [.int .i64 a.num, .string a.client, .string a.text, .bool a.shv, .slice E1 a.edits.length e1, .slice R1 0 r1].toArray 34)))
  have HP8 := Lib.hid ((HP6.out.below hb7).below ((Below.refl _ _).alloc (Nat.le_refl _) (.cells [.int .i64 a.num, .string a.client, .string a.text, .bool a.shv, .slice E1 a.edits.length e1, .slice R1 0 r1].toArray 34)))
  have HA8 := Lib.hid (hi7.below ((Below.refl _ _).alloc (Nat.le_refl _) (.cells [.int .i64 a.num, .string a.client, .string a.text, .bool a.shv, .slice E1 a.edits.length e1, .slice R1 0 r1].toArray 34)))
  have HF8 : Hid (∀ b off, E1 = some ⟨b, off, none⟩ → w5.heap.size < b) := fun b off e => by have := hf7 b off e; omega
  have hz7 := hb7.size
  have HW8 : Hid (Below w7.heap.size w7 (w7.alloc (.cells [.int .i64 a.num, .string a.client, .string a.text, .bool a.shv, .slice E1 a.edits.length e1, .slice R1 0 r1].toArray 34))) := (Below.refl _ _).alloc (Nat.le_refl _) _
  clear hb7 hi7 hf7 HM6 HB6 HI6 HP6 p0 p1 p2 p3 p4 p5 d0 d1
  go_upto_region 6 with fail
  -- MARKE
  generalize hw8 : World.alloc w7 (.cells #[.int .i64 a.num, .string a.client, .string a.text, .bool a.shv, .slice E1 a.edits.length e1, .slice R1 0 r1] 34) = w8 at *
  clear hw8
  by_cases hea : ea = 0
  case neg =>
    have hea1 : (ea == 0) = false := by simpa using hea
    have hea2 : (ea != 0) = true := by simpa using hea
    have hea3 : decide (ea = 0) = false := by simpa using hea
    go_wp2_with (go_at_call 10; refine (awake18_any _).mono ?_; rintro e w9 ⟨rfl, HB9⟩)
    go_ret
    exact ⟨rfl, HB8.out.trans (HB9.mono HB8.out.size)⟩
  have hea1 : (ea == 0) = true := by simpa using hea
  have hea2 : (ea != 0) = false := by simpa using hea
  have hea3 : decide (ea = 0) = true := by simpa using hea
  have hea4 : ¬ ea ≠ 0 := fun h => h hea
  have HQ2 := Lib.hid (HQ1.out hea)
  clear hea HQ1
  (obtain ⟨p0, p1, p2, p3, p4, p5⟩ := (HM8.out.1).c6)
  (obtain ⟨d0, d1⟩ := (HM8.out.2.2.1).c2)
  have lt8 := HM8.out.1.lt
  go_wp2_with fail
  -- MARKF
  refine (HMV.out a m t _ _ _ _ _ HI8.out HA8.out HOKA.out (by omega) (by omega)).mono ?_
  have HOKB := Lib.hid (move_ok HAS.out hRl HOKA.out m t)
  generalize hq2 : moveP R a m t = q2 at *
  clear hq2
  rintro e w9 ⟨E2, e2, R2, r2, rfl, hi9, hf9, hb9⟩
  obtain ⟨g, eg⟩ := q2
  unfold pndV pndC
  dsimp only at hi9 HQ2 HOKB ⊢
  have HM9 := Lib.hid (HM8.out.below hb9)
  have HB9 := Lib.hid (HB8.out.trans (hb9.mono HB8.out.size))
  have HI9 := Lib.hid (HI8.out.below hb9)
  have HP9 := Lib.hid (HP8.out.below hb9)
  have HG9 := Lib.hid hi9
  have HF9 : Hid (∀ b off, E2 = some ⟨b, off, none⟩ → w7.heap.size < b) := fun b off e => by have := hf9 b off e; omega
  have hz9 := hb9.size
  have HW9 : Hid (Below w7.heap.size w7 w9) := HW8.out.trans (hb9.mono HW8.out.size)
  clear hb9 hi9 hf9 HM8 HB8 HI8 HP8 HA8 HW8 p0 p1 p2 p3 p4 p5 d0 d1
  have lt9 := HM9.out.1.lt
  obtain ⟨z0, z1, z2, z3, z4, z5⟩ := HM9.out.1.c6
  have f0 := HM9.out.1.fz 0
  have f1 := HM9.out.1.fz 1
  have f2 := HM9.out.1.fz 2
  have f3 := HM9.out.1.fz 3
  have f4 := HM9.out.1.fz 4
  have f5 := HM9.out.1.fz 5
  have HMP := Lib.hid (show Bs [(w7.heap.size, 34, [.int .i64 g.num, .string g.client, .string g.text, .bool g.shv, .slice E2 g.edits.length e2, .slice R2 0 r2]), (w5.heap.size, 34, [.int .i64 P.num, .string P.client, .string P.text, .bool P.shv, .slice E0 P.edits.length e0, .slice R0 0 r0]), (w3.heap.size, 30, [.slice DA R.length da, .slice DB rl db])] _ from ⟨zero_put HM9.out.1 (.int .i64 g.num) (.string g.client) (.string g.text) (.bool g.shv) (.slice E2 g.edits.length e2) (.slice R2 0 r2), far6 HM9.out.2.1 (b := w7.heap.size) (by omega) (.int .i64 g.num) (.string g.client) (.string g.text) (.bool g.shv) (.slice E2 g.edits.length e2) (.slice R2 0 r2), far6 HM9.out.2.2.1 (b := w7.heap.size) (by omega) (.int .i64 g.num) (.string g.client) (.string g.text) (.bool g.shv) (.slice E2 g.edits.length e2) (.slice R2 0 r2), trivial⟩)
  have HBP := Lib.hid (below_put6 HB9.out (b := w7.heap.size) (by omega) (.int .i64 g.num) (.string g.client) (.string g.text) (.bool g.shv) (.slice E2 g.edits.length e2) (.slice R2 0 r2))
  have HWP := Lib.hid (below_put6 HW9.out (b := w7.heap.size) (Nat.le_refl _) (.int .i64 g.num) (.string g.client) (.string g.text) (.bool g.shv) (.slice E2 g.edits.length e2) (.slice R2 0 r2))
  have HGP := Lib.hid (in_putF HG9.out (b := w7.heap.size) (fun b off e => by have := HF9.out b off e; omega) (.int .i64 g.num) (.string g.client) (.string g.text) (.bool g.shv) (.slice E2 g.edits.length e2) (.slice R2 0 r2))
  -- MARKG
  go_upto_region 9 with fail
  -- MARKH
  (generalize World.setCell (World.setCell (World.setCell (World.setCell (World.setCell (World.setCell _ _ _) _ _) _ _) _ _) _ _) _ _ = wA at *)
  have HIA := Lib.hid (HI7.out.below HWP.out)
  have HPA := Lib.hid (HP7.out.below HWP.out)
  clear HM9 HB9 HG9 HI9 HP9 HW9 HWP z0 z1 z2 z3 z4 z5 f0 f1 f2 f3 f4 f5
  (obtain ⟨p0, p1, p2, p3, p4, p5⟩ := (HMP.out.2.1).c6)
  (obtain ⟨d0, d1⟩ := (HMP.out.2.2.1).c2)
  have ltA := HMP.out.1.lt
  go_wp2_with fail
  -- MARKI
  refine (HMV.out P s t _ _ _ _ _ HIA.out HPA.out HOK.out (by omega) (by omega)).mono ?_
  generalize hq3 : moveP R P s t = q3 at *
  clear hq3
  rintro e wB ⟨E3, e3, R3, r3, rfl, hiB, hfB, hbB⟩
  obtain ⟨c, ec⟩ := q3
  unfold pndV pndC
  dsimp only at hiB ⊢
  have HMC : Hid (Bs [(wB.heap.size, 34, [.int .i64 c.num, .string c.client, .string c.text, .bool c.shv, .slice E3 c.edits.length e3, .slice R3 0 r3]), (w7.heap.size, 34, [.int .i64 g.num, .string g.client, .string g.text, .bool g.shv, .slice E2 g.edits.length e2, .slice R2 0 r2]), (w5.heap.size, 34, [.int .i64 P.num, .string P.client, .string P.text, .bool P.shv, .slice E0 P.edits.length e0, .slice R0 0 r0]), (w3.heap.size, 30, [.slice DA R.length da, .slice DB rl db])] (wB.alloc (.cells [.int .i64 c.num, .string c.client, .string c.text, .bool c.shv, .slice E3 c.edits.length e3, .slice R3 0 r3].toArray 34))) := Bs.cons (Blk.new wB 34 [.int .i64 c.num, .string c.client, .string c.text, .bool c.shv, .slice E3 c.edits.length e3, .slice R3 0 r3]) ((HMP.out.below hbB).alloc _)
  have HBC : Hid (Below w.heap.size w (wB.alloc (.cells [.int .i64 c.num, .string c.client, .string c.text, .bool c.shv, .slice E3 c.edits.length e3, .slice R3 0 r3].toArray 34))) := (HBP.out.trans (hbB.mono HBP.out.size)).alloc (HBP.out.trans (hbB.mono HBP.out.size)).size _
  have HGC := Lib.hid ((HGP.out.below hbB).below ((Below.refl _ _).alloc (Nat.le_refl _) (.cells [.int .i64 c.num, .string c.client, .string c.text, .bool c.shv, .slice E3 c.edits.length e3, .slice R3 0 r3].toArray 34)))
  have HCC := Lib.hid (hiB.below ((Below.refl _ _).alloc (Nat.le_refl _) (.cells [.int .i64 c.num, .string c.client, .string c.text, .bool c.shv, .slice E3 c.edits.length e3, .slice R3 0 r3].toArray 34)))
  clear hbB hiB hfB HMP HBP HGP HIA HPA p0 p1 p2 p3 p4 p5 d0 d1
  go_upto_region 10 with fail
  -- MARKJ
  generalize hwC : World.alloc wB (.cells #[.int .i64 c.num, .string c.client, .string c.text, .bool c.shv, .slice E3 c.edits.length e3, .slice R3 0 r3] 34) = wC at *
  clear hwC
  by_cases heg : eg = 0
  case neg =>
    have heg1 : (eg == 0) = false := by simpa using heg
    have heg2 : (eg != 0) = true := by simpa using heg
    have heg3 : decide (eg = 0) = false := by simpa using heg
    go_wp2_with (go_at_call 10; refine (awake18_any _).mono ?_; rintro e w9 ⟨rfl, HB9⟩)
    go_ret
    exact ⟨rfl, HBC.out.trans (HB9.mono HBC.out.size)⟩
  have heq := HQ2.out heg
  obtain ⟨hc, hec⟩ := Prod.mk.inj heq
  subst hc hec heg
  clear heq HQ2 HMV
  have hlg := HOKB.out.len
  (obtain ⟨p0, p1, p2, p3, p4, p5⟩ := (HMC.out.1).c6)
  obtain ⟨q0, q1, q2, q3, q4, q5⟩ := HMC.out.2.1.c6
  -- MARKK
  go_wp2_with fail
  -- MARKL
  have HSS := rsame_any c E2 R2 E3 R3 e2 r2 e3 r3 wC HGC.out HCC.out (by omega)
  unfold pndV pndC at HSS
  refine HSS.mono ?_
  rintro e wD ⟨rfl, hbD⟩
  have HBD := Lib.hid (HBC.out.trans (hbD.mono HBC.out.size))
  clear hbD HSS p0 p1 p2 p3 p4 p5 q0 q1 q2 q3 q4 q5
  go_wp2_with (go_at_call 10; refine (awake18_any _).mono ?_; rintro e w9 ⟨rfl, HB9⟩)
  go_ret
  exact ⟨rfl, HBD.out.trans (HB9.mono HBD.out.size)⟩
end Go.Proofs.YtocffknoeknabaaDoor
