/-
  ChangelistPlays returns true for all changes, calls and pendings whose texts are not longer than 1048576 bytes; what was in memory before the call stays as it was (printed by mkplaysc.py).
-/
import Derived.Test.YtocffknoeknabaaDoorClPd
import Derived.Test.YtocffknoeknabaaDoorCgK
import Derived.Test.YtocffknoeknabaaDoorCgJ
import Derived.Test.YtocffknoeknabaaDoorCgH
namespace Go.Proofs.YtocffknoeknabaaDoor
open Go.RowKit

/-- Revisions in memory lie in no block of fewer cells than one of them has. -/
theorem revs_ne {A : Option Addr} {D : List Rev} {x : World} {b : Nat} {T : TypeId} {cs : List Value} (h : revK.In A D x) (hb : Blk b T cs x) (hl : cs.length ≤ 11) : ∀ b' off, A = some ⟨b', off, none⟩ → D ≠ [] → b' ≠ b := fun b' off e hne he => by
  obtain ⟨b2, off2, e2, _, hat⟩ := h (List.length_pos_iff.2 hne)
  rw [e] at e2
  injection e2 with e2
  injection e2 with e3 e4
  subst e3 e4 he
  obtain ⟨v, r, rfl⟩ : ∃ v r, D = v :: r := by
    cases D with
    | nil => exact absurd rfl hne
    | cons v r => exact ⟨v, r, rfl⟩
  have h1 := hat.get (i := 0) (j := 11) (x := v) rfl (u := .int .i64 v.srcn) rfl
  rw [hb.cell] at h1
  have := (List.getElem?_eq_some_iff.1 h1).1
  have e12 : revK.n = 12 := rfl
  omega
theorem revs_put6 {A : Option Addr} {D : List Rev} {x : World} {b : Nat} (h : revK.In A D x) (hh : ∀ b' off, A = some ⟨b', off, none⟩ → D ≠ [] → b' ≠ b) (u0 u1 u2 u3 u4 u5 : Value) : revK.In A D ((((((x.setCell ⟨b, 0, none⟩ u0).setCell ⟨b, 1, none⟩ u1).setCell ⟨b, 2, none⟩ u2).setCell ⟨b, 3, none⟩ u3).setCell ⟨b, 4, none⟩ u4).setCell ⟨b, 5, none⟩ u5) := by
  by_cases hD : D = []
  · subst hD
    exact RowK.In.nil _ _
  · have hp := fun b' off e => hh b' off e hD
    exact ((((((h.setC (p := ⟨b, 0, none⟩) hp u0).setC (p := ⟨b, 1, none⟩) hp u1).setC (p := ⟨b, 2, none⟩) hp u2).setC (p := ⟨b, 3, none⟩) hp u3).setC (p := ⟨b, 4, none⟩) hp u4).setC (p := ⟨b, 5, none⟩) hp u5)
theorem revs_put2 {A : Option Addr} {D : List Rev} {x : World} {b : Nat} (h : revK.In A D x) (hh : ∀ b' off, A = some ⟨b', off, none⟩ → D ≠ [] → b' ≠ b) (u4 u5 : Value) : revK.In A D ((x.setCell ⟨b, 4, none⟩ u4).setCell ⟨b, 5, none⟩ u5) := by
  by_cases hD : D = []
  · subst hD
    exact RowK.In.nil _ _
  · have hp := fun b' off e => hh b' off e hD
    exact (h.setC (p := ⟨b, 4, none⟩) hp u4).setC (p := ⟨b, 5, none⟩) hp u5
set_option maxRecDepth 100000 in
set_option maxHeartbeats 12800000 in
theorem cplays_any (l : List Chg) (ops : List Opr) (A F : Option Addr) (ca fc : Nat) (pn : Int) (pc pt : ByteArray) (ps : Bool) (E0 R0 : Option Addr) (n0 e0 m0 r0 : Nat) (w : World) (hA : ChsIn A l w) (hb : ChBnd l) (hF : oprK.In F ops w) (hn : ops.length ≤ 1048576) (ho : ∀ o ∈ ops, o.s.size ≤ 1048576 ∧ o.t.size ≤ 1048576) (hpc : pc.size ≤ 1048576) (hpt : pt.size ≤ 1048576) (hg : G0 w) :
    Calls Tryd.prog 6 #[.slice A l.length ca, .slice F ops.length fc, .agg #[.int .i64 pn, .string pc, .string pt, .bool ps, .slice E0 n0 e0, .slice R0 m0 r0]] w fun e w' => e = .returned (.bool true) ∧ Below w.heap.size w w' := by
  have HSM := Lib.hid (fun x hx => rsmall_any l A ca x (hA.below hx) hb)
  have HBU := Lib.hid (fun x (hx : Below w.heap.size w x) => rbuild_any l A ca x (hA.below hx) (by have := hb.len; omega) (fun c hc => hb.sz hc) (hg.below hx))
  have HFW := Lib.hid (fun x (hx : Below w.heap.size w x) => few_any ops F fc x (hF.below hx) hn ho)
  have HIF := Lib.hid hF
  have HG := Lib.hid hg
  have HS := Lib.hid ho
  clear hA hb hF ho hg
  go_enter Tryd.func6, Tryd.ntmps6
  go_upto_region 1 with fail
  generalize hw1 : World.alloc _ (.cells #[.int .i64 pn, .string pc, .string pt, .bool ps, .slice E0 n0 e0, .slice R0 m0 r0] 34) = w1
  have HM1 : Hid (Bs [(w.heap.size, 34, [.int .i64 pn, .string pc, .string pt, .bool ps, .slice E0 n0 e0, .slice R0 m0 r0])] w1) := by
    show Bs _ _
    rw [← hw1]
    exact ⟨Blk.new _ _ _, trivial⟩
  have HB1 : Hid (Below w.heap.size w w1) := by
    show Below _ _ _
    rw [← hw1]
    (repeat (first | (with_reducible exact Below.refl _ _) | (with_reducible assumption) | (with_reducible refine Below.setCell ?_ ?_ _; rotate_left; focus (first | exact Nat.le_refl _ | (dsimp only; omega))) | (with_reducible refine Below.drew ?_) | (with_reducible refine below_drewN ?_ _) | (with_reducible refine Below.alloc ?_ ?_ _; rotate_left; focus (first | exact Nat.le_refl _ | (simp; done) | (simp; omega)))))
  clear hw1
  go_wp2_with fail
  refine (HSM.out _ HB1.out).mono ?_
  rintro e w2 ⟨sm, rfl, -, hb2⟩
  have HM2 := Lib.hid (HM1.out.below hb2)
  have HB2 := Lib.hid (HB1.out.trans (hb2.mono HB1.out.size))
  clear hb2 HM1 HB1
  cases sm
  ·
    go_wp2_with (go_at_call 10; refine (awake18_any _).mono ?_; rintro e w9 ⟨rfl, HB9⟩)
    go_ret
    exact ⟨rfl, HB2.out.trans (HB9.mono HB2.out.size)⟩
  go_wp2_with fail
  refine (HFW.out _ HB2.out).mono ?_
  rintro e w3 ⟨fb, rfl, hfw, hb3⟩
  have HM3 := Lib.hid (HM2.out.below hb3)
  have HB3 := Lib.hid (HB2.out.trans (hb3.mono HB2.out.size))
  clear hb3 HM2 HB2
  cases fb
  ·
    clear hfw
    go_wp2_with (go_at_call 10; refine (awake18_any _).mono ?_; rintro e w9 ⟨rfl, HB9⟩)
    go_ret
    exact ⟨rfl, HB3.out.trans (HB9.mono HB3.out.size)⟩
  have HFL := Lib.hid (hfw rfl)
  clear hfw
  (obtain ⟨p0, p1, p2, p3, p4, p5⟩ := (HM3.out.1).c6)
  have hsum : pc.size + pt.size ≤ 2097152 := by omega
  by_cases h2 : 200 < pc.size + pt.size
  ·
    go_wp2_with (go_at_call 10; refine (awake18_any _).mono ?_; rintro e w9 ⟨rfl, HB9⟩)
    go_ret
    exact ⟨rfl, HB3.out.trans (HB9.mono HB3.out.size)⟩
  -- MARKA
  go_wp2_with fail
  refine (HBU.out _ HB3.out).mono ?_
  rintro e w4 ⟨d, DA, DB, da, db, rfl, hblt, hIA, hIB, hb4⟩
  have hok := hblt.ok
  have hRl : d.revs.length ≤ 512 := hok.few
  have HAS := Lib.hid hok.asc
  have HM5 : Hid (Bs [(w4.heap.size, 30, [.slice DA d.revs.length da, .slice DB d.recs.length db]), (w.heap.size, 34, [.int .i64 pn, .string pc, .string pt, .bool ps, .slice E0 n0 e0, .slice R0 m0 r0])] (w4.alloc (.cells [.slice DA d.revs.length da, .slice DB d.recs.length db].toArray 30))) := Bs.cons (Blk.new w4 30 [.slice DA d.revs.length da, .slice DB d.recs.length db]) ((HM3.out.below hb4).alloc _)
  have HB5 : Hid (Below w.heap.size w (w4.alloc (.cells [.slice DA d.revs.length da, .slice DB d.recs.length db].toArray 30))) := (HB3.out.trans (hb4.mono HB3.out.size)).alloc (HB3.out.trans (hb4.mono HB3.out.size)).size _
  have HI5 := Lib.hid (hIA.below ((Below.refl _ _).alloc (Nat.le_refl _) (.cells [.slice DA d.revs.length da, .slice DB d.recs.length db].toArray 30)))
  clear hb4 HM3 HB3 hIA hIB hblt hok HSM HBU HFW p0 p1 p2 p3 p4 p5
  generalize d.revs = D at *
  generalize d.recs.length = rl at *
  go_upto_region 4 with fail
  generalize hw5 : World.alloc w4 (.cells #[.slice DA D.length da, .slice DB rl db] 30) = w5 at *
  clear hw5
  have lt5 := HM5.out.1.lt
  have ltp5 := HM5.out.2.1.lt
  have hsz4 := HB5.out.size
  have HNE := Lib.hid (revs_ne HI5.out HM5.out.2.1 (by simp))
  obtain ⟨p0, p1, p2, p3, p4, p5⟩ := HM5.out.2.1.c6
  have f4 := HM5.out.2.1.fz 4
  have f5 := HM5.out.2.1.fz 5
  have HNB : Hid (w.heap.size ≠ w4.heap.size) := fun e => by
    have h1 := HM5.out.1.cell 0
    have h2 := HM5.out.2.1.cell 0
    rw [← e, h2] at h1
    cases h1
  have hnb : w4.heap.size ≠ w.heap.size := Ne.symm HNB.out
  have HMP := Lib.hid (show Bs [(w4.heap.size, 30, [.slice DA D.length da, .slice DB rl db]), (w.heap.size, 34, [.int .i64 pn, .string pc, .string pt, .bool ps, .slice none 0 0, .slice none 0 0])] _ from ⟨(HM5.out.1.far (p := ⟨w.heap.size, 4, none⟩) hnb (.slice none 0 0)).far (p := ⟨w.heap.size, 5, none⟩) hnb (.slice none 0 0), (HM5.out.2.1.set 4 (.slice none 0 0)).set 5 (.slice none 0 0), trivial⟩)
  have HBP := Lib.hid ((HB5.out.setCell (p := ⟨w.heap.size, 4, none⟩) (Nat.le_refl _) (.slice none 0 0)).setCell (p := ⟨w.heap.size, 5, none⟩) (Nat.le_refl _) (.slice none 0 0))
  have HIP := Lib.hid (revs_put2 HI5.out HNE.out (.slice none 0 0) (.slice none 0 0))
  -- MARKB
  go_upto_region 5 with fail
  (generalize World.setCell (World.setCell _ _ _) _ _ = w6 at *)
  clear HM5 HB5 HI5 p0 p1 p2 p3 p4 p5 f4 f5
  have lt6 := HMP.out.1.lt
  have ltp6 := HMP.out.2.1.lt
  obtain ⟨p0, p1, p2, p3, p4, p5⟩ := HMP.out.2.1.c6
  have HM7 : Hid (Bs [(w6.heap.size, 34, [.int .i64 pn, .string pc, .string pt, .bool ps, .slice none 0 0, .slice none 0 0]), (w4.heap.size, 30, [.slice DA D.length da, .slice DB rl db]), (w.heap.size, 34, [.int .i64 pn, .string pc, .string pt, .bool ps, .slice none 0 0, .slice none 0 0])] (w6.alloc (.cells [.int .i64 pn, .string pc, .string pt, .bool ps, .slice none 0 0, .slice none 0 0].toArray 34))) := Bs.cons (Blk.new w6 34 [.int .i64 pn, .string pc, .string pt, .bool ps, .slice none 0 0, .slice none 0 0]) (HMP.out.alloc _)
  have HB7 : Hid (Below w.heap.size w (w6.alloc (.cells [.int .i64 pn, .string pc, .string pt, .bool ps, .slice none 0 0, .slice none 0 0].toArray 34))) := HBP.out.alloc HBP.out.size _
  have HI7 := Lib.hid (HIP.out.below ((Below.refl _ _).alloc (Nat.le_refl _) (.cells [.int .i64 pn, .string pc, .string pt, .bool ps, .slice none 0 0, .slice none 0 0].toArray 34)))
  go_upto_region 6 with fail
  generalize hw7 : World.alloc w6 (.cells #[.int .i64 pn, .string pc, .string pt, .bool ps, .slice none 0 0, .slice none 0 0] 34) = w7 at *
  clear hw7 HMP HBP HIP p0 p1 p2 p3 p4 p5
  have HLL := Lib.hid HFL.out.1
  have HDO := Lib.hid (fun p o E R2 ec rc x h1 h2 h3 h4 h5 => pdo_any D p o DA DB E R2 da rl db ec rc x h1 h2 h3 hRl HAS.out h4 h5)
  have HRD := Lib.hid (fun p o E R2 ec rc x h1 h2 h3 h4 h5 h6 => rdo_any D p o DA DB E R2 da rl db ec rc x h1 h2 h3 hRl HAS.out h4 h5 h6)
  have HDK := Lib.hid (fun (p : Pnd) o (h : EOk p.edits) => do_ok HAS.out hRl h o)
  unfold pndV pndC at HDO HRD
  have hbw : w6.heap.size ≠ w.heap.size := by omega
  have hbw2 : w.heap.size ≠ w6.heap.size := by omega
  have hbd : w6.heap.size ≠ w4.heap.size := by omega
  go_wp2_with fail
  -- MARKC
  go_loopw [42] (fun i wr => ∃ (k : Nat) (qn : Int) (qc qt : ByteArray) (qs : Bool) (L : List Edt) (E R E1 R1 : Option Addr) (ec rc e1 r1 : Nat), i = .int .i64 k ∧ k ≤ ops.length ∧ Hid (EOk L) ∧ Hid (edtK.In E L wr) ∧ Hid (edtK.In E1 L wr) ∧ Hid (∀ b off, E = some ⟨b, off, none⟩ → w6.heap.size < b) ∧ Hid (∀ b off, E1 = some ⟨b, off, none⟩ → w6.heap.size < b) ∧ Hid (revK.In DA D wr) ∧ Hid (Below w.heap.size w wr) ∧ Hid (Bs [(w6.heap.size, 34, [.int .i64 qn, .string qc, .string qt, .bool qs, .slice E1 L.length e1, .slice R1 0 r1]), (w4.heap.size, 30, [.slice DA D.length da, .slice DB rl db]), (w.heap.size, 34, [.int .i64 qn, .string qc, .string qt, .bool qs, .slice E L.length ec, .slice R 0 rc])] wr)) (fun i _ => ops.length - (intOf i).toNat)
  case atStart => exact ⟨0, pn, pc, pt, ps, [], none, none, none, none, 0, 0, 0, 0, rfl, Nat.zero_le _, EOk.nil, RowK.In.nil _ _, RowK.In.nil _ _, (fun _ _ e => by cases e), (fun _ _ e => by cases e), HI7.out, HB7.out, HM7.out⟩
  case round =>
    obtain ⟨k, qn, qc, qt, qs, L, E, R, E1, R1, ec, rc, e1, r1, rfl, hk, HOL, HIE, HIW, HFE, HFE1, HID, HB, HM⟩ := hrel
    clear HM7 HB7 HI7
    have ltw := HM.out.1.lt
    have ltd := HM.out.2.1.lt
    have ltpp := HM.out.2.2.1.lt
    by_cases hlt : k < ops.length
    · have HSZ := Lib.hid (HS.out ops[k] (List.getElem_mem hlt))
      obtain ⟨b, off, rfl, hbl, hat⟩ := (HIF.out.below HB.out) (by omega)
      have hg := List.getElem?_eq_getElem hlt
      generalize ops[k] = o at *
      have hcv := fun j (u : Value) (hj : o.cells[j]? = some u) => (hat.get hg hj)
      have c0 := hcv 0 _ rfl
      have c1 := hcv 1 _ rfl
      have c2 := hcv 2 _ rfl
      have c3 := hcv 3 _ rfl
      have c4 := hcv 4 _ rfl
      have c5 := hcv 5 _ rfl
      have c6 := hcv 6 _ rfl
      have c7 := hcv 7 _ rfl
      have c8 := hcv 8 _ rfl
      have e9 : oprK.n = 9 := rfl
      simp only [e9, Nat.add_zero] at c0 c1 c2 c3 c4 c5 c6 c7 c8
      clear hcv e9 hat hg
      have hkn : (k : Int) < (ops.length : Int) := by omega
      have hll := HOL.out.len
      have HX1 : Hid (Bs [(wr.heap.size, 57, [.int .i64 o.kind, .string o.s, .string o.t, .int .i64 o.ty.base, .bool o.ty.kw, .bool o.ty.ex, .bool o.ty.xe, .int .u64 o.con.sum, .int .i64 o.con.size]), (w6.heap.size, 34, [.int .i64 qn, .string qc, .string qt, .bool qs, .slice E1 L.length e1, .slice R1 0 r1]), (w4.heap.size, 30, [.slice DA D.length da, .slice DB rl db]), (w.heap.size, 34, [.int .i64 qn, .string qc, .string qt, .bool qs, .slice E L.length ec, .slice R 0 rc])] (wr.alloc (.cells [.int .i64 o.kind, .string o.s, .string o.t, .int .i64 o.ty.base, .bool o.ty.kw, .bool o.ty.ex, .bool o.ty.xe, .int .u64 o.con.sum, .int .i64 o.con.size].toArray 57))) := Bs.cons (Blk.new wr 57 [.int .i64 o.kind, .string o.s, .string o.t, .int .i64 o.ty.base, .bool o.ty.kw, .bool o.ty.ex, .bool o.ty.xe, .int .u64 o.con.sum, .int .i64 o.con.size]) (HM.out.alloc _)
      have HW1 : Hid (Below wr.heap.size wr (wr.alloc (.cells [.int .i64 o.kind, .string o.s, .string o.t, .int .i64 o.ty.base, .bool o.ty.kw, .bool o.ty.ex, .bool o.ty.xe, .int .u64 o.con.sum, .int .i64 o.con.size].toArray 57))) := (Below.refl _ _).alloc (Nat.le_refl _) _
      go_upto_region 9 with fail
      generalize hx1 : World.alloc wr (.cells #[.int .i64 o.kind, .string o.s, .string o.t, .int .i64 o.ty.base, .bool o.ty.kw, .bool o.ty.ex, .bool o.ty.xe, .int .u64 o.con.sum, .int .i64 o.con.size] 57) = x1 at *
      clear hx1 c0 c1 c2 c3 c4 c5 c6 c7 c8
      have HCO := Lib.hid (rcopy_any ⟨qn, qc, qt, qs, L⟩ E R ec rc x1 (HIE.out.below HW1.out) (by dsimp only; omega))
      unfold pndV pndC at HCO
      obtain ⟨p0, p1, p2, p3, p4, p5⟩ := HX1.out.2.2.2.1.c6
      go_wp2_with fail
      -- MARKD
      refine HCO.out.mono ?_
      rintro e x2 ⟨E2, e2, R2, r2, rfl, hi2, hb2⟩
      unfold pndV pndC
      dsimp only at hi2 ⊢
      have HI2 := Lib.hid (RowK.In.of_row (R := edtK) hi2)
      have hbx : Below x2.heap.size x2 (x2.alloc (.cells [.int .i64 qn, .string qc, .string qt, .bool qs, .slice E2 L.length e2, .slice R2 0 r2].toArray 34)) := (Below.refl _ _).alloc (Nat.le_refl _) _
      have HX3 : Hid (Bs [(x2.heap.size, 34, [.int .i64 qn, .string qc, .string qt, .bool qs, .slice E2 L.length e2, .slice R2 0 r2]), (wr.heap.size, 57, [.int .i64 o.kind, .string o.s, .string o.t, .int .i64 o.ty.base, .bool o.ty.kw, .bool o.ty.ex, .bool o.ty.xe, .int .u64 o.con.sum, .int .i64 o.con.size]), (w6.heap.size, 34, [.int .i64 qn, .string qc, .string qt, .bool qs, .slice E1 L.length e1, .slice R1 0 r1]), (w4.heap.size, 30, [.slice DA D.length da, .slice DB rl db]), (w.heap.size, 34, [.int .i64 qn, .string qc, .string qt, .bool qs, .slice E L.length ec, .slice R 0 rc])] (x2.alloc (.cells [.int .i64 qn, .string qc, .string qt, .bool qs, .slice E2 L.length e2, .slice R2 0 r2].toArray 34))) := Bs.cons (Blk.new x2 34 [.int .i64 qn, .string qc, .string qt, .bool qs, .slice E2 L.length e2, .slice R2 0 r2]) ((HX1.out.below hb2).alloc _)
      have HW3 : Hid (Below wr.heap.size wr (x2.alloc (.cells [.int .i64 qn, .string qc, .string qt, .bool qs, .slice E2 L.length e2, .slice R2 0 r2].toArray 34))) := (HW1.out.trans (hb2.mono HW1.out.size)).trans (hbx.mono (HW1.out.trans (hb2.mono HW1.out.size)).size)
      have HI3 := Lib.hid (HI2.out.below hbx)
      clear hi2 hb2 hbx HX1 HW1 HCO HI2 p0 p1 p2 p3 p4 p5
      go_upto_region 10 with fail
      generalize hx3 : World.alloc x2 (.cells #[.int .i64 qn, .string qc, .string qt, .bool qs, .slice E2 L.length e2, .slice R2 0 r2] 34) = x3 at *
      clear hx3
      obtain ⟨p0, p1, p2, p3, p4, p5⟩ := HX3.out.2.2.2.2.1.c6
      obtain ⟨d0, d1⟩ := HX3.out.2.2.2.1.c2
      obtain ⟨o0, o1, o2, o3, o4, o5, o6, o7, o8⟩ := HX3.out.2.1.c9
      have hz3 := HW3.out.size
      have HN := Lib.hid (HDO.out ⟨qn, qc, qt, qs, L⟩ o E R ec rc x3 (HID.out.below HW3.out) (HIE.out.below HW3.out) HOL.out HSZ.out.1 HSZ.out.2)
      have HOM := Lib.hid (HDK.out ⟨qn, qc, qt, qs, L⟩ o HOL.out)
      have HRR := Lib.hid (fun x (hx : Below wr.heap.size wr x) => HRD.out ⟨qn, qc, qt, qs, L⟩ o E1 R1 e1 r1 x (HID.out.below hx) (HIW.out.below hx) HOL.out HSZ.out.1 HSZ.out.2 (HG.out.below (HB.out.trans (hx.mono HB.out.size))))
      unfold Opr.val Opr.cells at HN HRR
      dsimp only at HN HRR
      generalize doP D ⟨qn, qc, qt, qs, L⟩ o = pe at *
      obtain ⟨⟨nn, nc, nt, ns, M⟩, ne⟩ := pe
      dsimp only at HOM
      go_wp2_with fail
      -- MARKE
      refine HN.out.mono ?_
      rintro e x4 ⟨E3, e3, R3, r3, rfl, hi4, hf4, hb4⟩
      unfold pndV pndC
      dsimp only at hi4 ⊢
      have hbx : Below x4.heap.size x4 (x4.alloc (.cells [.int .i64 nn, .string nc, .string nt, .bool ns, .slice E3 M.length e3, .slice R3 0 r3].toArray 34)) := (Below.refl _ _).alloc (Nat.le_refl _) _
      have hz4 : wr.heap.size ≤ x4.heap.size := (HW3.out.trans (hb4.mono HW3.out.size)).size
      have HX5 : Hid (Bs [(x4.heap.size, 34, [.int .i64 nn, .string nc, .string nt, .bool ns, .slice E3 M.length e3, .slice R3 0 r3]), (x2.heap.size, 34, [.int .i64 qn, .string qc, .string qt, .bool qs, .slice E2 L.length e2, .slice R2 0 r2]), (wr.heap.size, 57, [.int .i64 o.kind, .string o.s, .string o.t, .int .i64 o.ty.base, .bool o.ty.kw, .bool o.ty.ex, .bool o.ty.xe, .int .u64 o.con.sum, .int .i64 o.con.size]), (w6.heap.size, 34, [.int .i64 qn, .string qc, .string qt, .bool qs, .slice E1 L.length e1, .slice R1 0 r1]), (w4.heap.size, 30, [.slice DA D.length da, .slice DB rl db]), (w.heap.size, 34, [.int .i64 qn, .string qc, .string qt, .bool qs, .slice E L.length ec, .slice R 0 rc])] (x4.alloc (.cells [.int .i64 nn, .string nc, .string nt, .bool ns, .slice E3 M.length e3, .slice R3 0 r3].toArray 34))) := Bs.cons (Blk.new x4 34 [.int .i64 nn, .string nc, .string nt, .bool ns, .slice E3 M.length e3, .slice R3 0 r3]) ((HX3.out.below hb4).alloc _)
      have HW5 : Hid (Below wr.heap.size wr (x4.alloc (.cells [.int .i64 nn, .string nc, .string nt, .bool ns, .slice E3 M.length e3, .slice R3 0 r3].toArray 34))) := (HW3.out.trans (hb4.mono HW3.out.size)).trans (hbx.mono (HW3.out.trans (hb4.mono HW3.out.size)).size)
      have HI5 := Lib.hid ((HI3.out.below hb4).below hbx)
      have HN5 := Lib.hid (hi4.below hbx)
      have HF5 : Hid (∀ b off, E3 = some ⟨b, off, none⟩ → w6.heap.size < b) := fun b off e => by have := hf4 b off e; omega
      clear hi4 hf4 hb4 hbx HX3 HW3 HI3 HN p0 p1 p2 p3 p4 p5 d0 d1 o0 o1 o2 o3 o4 o5 o6 o7 o8
      go_upto_region 11 with fail
      generalize hx5 : World.alloc x4 (.cells #[.int .i64 nn, .string nc, .string nt, .bool ns, .slice E3 M.length e3, .slice R3 0 r3] 34) = x5 at *
      clear hx5
      have hz5 := HW5.out.size
      obtain ⟨p0, p1, p2, p3, p4, p5⟩ := HX5.out.2.2.2.1.c6
      obtain ⟨d0, d1⟩ := HX5.out.2.2.2.2.1.c2
      obtain ⟨o0, o1, o2, o3, o4, o5, o6, o7, o8⟩ := HX5.out.2.2.1.c9
      go_wp2_with fail
      -- MARKF
      refine (HRR.out _ HW5.out).mono ?_
      rintro e x6 ⟨E4, e4, R4, r4, rfl, hi6, hf6, hb6⟩
      unfold pndV pndC
      dsimp only at hi6 ⊢
      have hbx : Below x6.heap.size x6 (x6.alloc (.cells [.int .i64 nn, .string nc, .string nt, .bool ns, .slice E4 M.length e4, .slice R4 0 r4].toArray 34)) := (Below.refl _ _).alloc (Nat.le_refl _) _
      have hz6 : wr.heap.size ≤ x6.heap.size := (HW5.out.trans (hb6.mono HW5.out.size)).size
      have HX7 : Hid (Bs [(x6.heap.size, 34, [.int .i64 nn, .string nc, .string nt, .bool ns, .slice E4 M.length e4, .slice R4 0 r4]), (x4.heap.size, 34, [.int .i64 nn, .string nc, .string nt, .bool ns, .slice E3 M.length e3, .slice R3 0 r3]), (x2.heap.size, 34, [.int .i64 qn, .string qc, .string qt, .bool qs, .slice E2 L.length e2, .slice R2 0 r2]), (wr.heap.size, 57, [.int .i64 o.kind, .string o.s, .string o.t, .int .i64 o.ty.base, .bool o.ty.kw, .bool o.ty.ex, .bool o.ty.xe, .int .u64 o.con.sum, .int .i64 o.con.size]), (w6.heap.size, 34, [.int .i64 qn, .string qc, .string qt, .bool qs, .slice E1 L.length e1, .slice R1 0 r1]), (w4.heap.size, 30, [.slice DA D.length da, .slice DB rl db]), (w.heap.size, 34, [.int .i64 qn, .string qc, .string qt, .bool qs, .slice E L.length ec, .slice R 0 rc])] (x6.alloc (.cells [.int .i64 nn, .string nc, .string nt, .bool ns, .slice E4 M.length e4, .slice R4 0 r4].toArray 34))) := Bs.cons (Blk.new x6 34 [.int .i64 nn, .string nc, .string nt, .bool ns, .slice E4 M.length e4, .slice R4 0 r4]) ((HX5.out.below hb6).alloc _)
      have HW7 : Hid (Below wr.heap.size wr (x6.alloc (.cells [.int .i64 nn, .string nc, .string nt, .bool ns, .slice E4 M.length e4, .slice R4 0 r4].toArray 34))) := (HW5.out.trans (hb6.mono HW5.out.size)).trans (hbx.mono (HW5.out.trans (hb6.mono HW5.out.size)).size)
      have HI7 := Lib.hid ((HI5.out.below hb6).below hbx)
      have HN7 := Lib.hid ((HN5.out.below hb6).below hbx)
      have HM7 := Lib.hid (hi6.below hbx)
      have HF7 : Hid (∀ b off, E4 = some ⟨b, off, none⟩ → w6.heap.size < b) := fun b off e => by have := hf6 b off e; omega
      clear hi6 hf6 hb6 hbx HX5 HW5 HI5 HN5 HRR p0 p1 p2 p3 p4 p5 d0 d1 o0 o1 o2 o3 o4 o5 o6 o7 o8
      go_upto_region 12 with fail
      generalize hx7 : World.alloc x6 (.cells #[.int .i64 nn, .string nc, .string nt, .bool ns, .slice E4 M.length e4, .slice R4 0 r4] 34) = x7 at *
      clear hx7
      have hml := HOM.out.len
      have HS1 := Lib.hid (rsame_any ⟨nn, nc, nt, ns, M⟩ E3 R3 E4 R4 e3 r3 e4 r4 x7 HN7.out HM7.out (by dsimp only; omega))
      unfold pndV pndC at HS1
      obtain ⟨n0', n1', n2', n3', n4', n5'⟩ := HX7.out.2.1.c6
      obtain ⟨m0', m1', m2', m3', m4', m5'⟩ := HX7.out.1.c6
      go_wp2_with fail
      -- MARKG
      refine HS1.out.mono ?_
      rintro e x8 ⟨rfl, hb8⟩
      have HX8 := Lib.hid (HX7.out.below hb8)
      have HW8 := Lib.hid (HW7.out.trans (hb8.mono HW7.out.size))
      have HI8 := Lib.hid (HI7.out.below hb8)
      have HN8 := Lib.hid (HN7.out.below hb8)
      have HM8 := Lib.hid (HM7.out.below hb8)
      clear hb8 HX7 HW7 HI7 HN7 HM7 HS1 n0' n1' n2' n3' n4' n5' m0' m1' m2' m3' m4' m5'
      have HS2 := Lib.hid (rsame_any ⟨qn, qc, qt, qs, L⟩ E R E2 R2 ec rc e2 r2 x8 (HIE.out.below HW8.out) HI8.out (by dsimp only; omega))
      unfold pndV pndC at HS2
      obtain ⟨n0', n1', n2', n3', n4', n5'⟩ := HX8.out.2.2.1.c6
      obtain ⟨p0, p1, p2, p3, p4, p5⟩ := HX8.out.2.2.2.2.2.2.1.c6
      go_wp2_with fail
      -- MARKH
      refine HS2.out.mono ?_
      rintro e x9 ⟨rfl, hb9⟩
      have HX9 := Lib.hid (HX8.out.below hb9)
      have HW9 := Lib.hid (HW8.out.trans (hb9.mono HW8.out.size))
      have HN9 := Lib.hid (HN8.out.below hb9)
      have HM9 := Lib.hid (HM8.out.below hb9)
      have HB9 := Lib.hid (HB.out.trans (HW9.out.mono HB.out.size))
      clear hb9 HX8 HW8 HI8 HN8 HM8 HS2 n0' n1' n2' n3' n4' n5' p0 p1 p2 p3 p4 p5
      by_cases he : ne = 0
      · have hea : (ne == 0) = true := by simpa using he
        have heb : decide (ne = 0) = true := by simpa using he
        clear he
        go_upto_region 15 with fail
        obtain ⟨n0', n1', n2', n3', n4', n5'⟩ := HX9.out.2.1.c6
        obtain ⟨m0', m1', m2', m3', m4', m5'⟩ := HX9.out.1.c6
        obtain ⟨p0, p1, p2, p3, p4, p5⟩ := HX9.out.2.2.2.2.2.2.1.c6
        obtain ⟨q0, q1, q2, q3, q4, q5⟩ := HX9.out.2.2.2.2.1.c6
        have f0 := HX9.out.2.2.2.2.2.2.1.fz 0
        have f1 := HX9.out.2.2.2.2.2.2.1.fz 1
        have f2 := HX9.out.2.2.2.2.2.2.1.fz 2
        have f3 := HX9.out.2.2.2.2.2.2.1.fz 3
        have f4 := HX9.out.2.2.2.2.2.2.1.fz 4
        have f5 := HX9.out.2.2.2.2.2.2.1.fz 5
        have g0 := HX9.out.2.2.2.2.1.fz 0
        have g1 := HX9.out.2.2.2.2.1.fz 1
        have g2 := HX9.out.2.2.2.2.1.fz 2
        have g3 := HX9.out.2.2.2.2.1.fz 3
        have g4 := HX9.out.2.2.2.2.1.fz 4
        have g5 := HX9.out.2.2.2.2.1.fz 5
        have hna : x4.heap.size ≠ w.heap.size := by omega
        have hnb2 : x4.heap.size ≠ w6.heap.size := by omega
        have hma : x6.heap.size ≠ w.heap.size := by omega
        have hmb : x6.heap.size ≠ w6.heap.size := by omega
        -- MARKI
        go_region
        -- MARKJ
        have HNE2 := Lib.hid (revs_ne (HID.out.below HW9.out) HX9.out.2.2.2.2.2.2.1 (by simp))
        have HNE3 := Lib.hid (revs_ne (HID.out.below HW9.out) HX9.out.2.2.2.2.1 (by simp))
        obtain ⟨xA, hxA⟩ : ∃ zz, zz = World.drew (World.setCell (World.setCell (World.setCell (World.setCell (World.setCell (World.setCell (World.setCell (World.setCell (World.setCell (World.setCell (World.setCell (World.setCell (x9) ⟨w.heap.size, 0, none⟩ (.int .i64 nn)) ⟨w.heap.size, 1, none⟩ (.string nc)) ⟨w.heap.size, 2, none⟩ (.string nt)) ⟨w.heap.size, 3, none⟩ (.bool ns)) ⟨w.heap.size, 4, none⟩ (.slice E3 M.length e3)) ⟨w.heap.size, 5, none⟩ (.slice R3 0 r3)) ⟨w6.heap.size, 0, none⟩ (.int .i64 nn)) ⟨w6.heap.size, 1, none⟩ (.string nc)) ⟨w6.heap.size, 2, none⟩ (.string nt)) ⟨w6.heap.size, 3, none⟩ (.bool ns)) ⟨w6.heap.size, 4, none⟩ (.slice E4 M.length e4)) ⟨w6.heap.size, 5, none⟩ (.slice R4 0 r4)) := ⟨_, rfl⟩
        have HMA : Hid (Bs [(w6.heap.size, 34, [.int .i64 nn, .string nc, .string nt, .bool ns, .slice E4 M.length e4, .slice R4 0 r4]), (w4.heap.size, 30, [.slice DA D.length da, .slice DB rl db]), (w.heap.size, 34, [.int .i64 nn, .string nc, .string nt, .bool ns, .slice E3 M.length e3, .slice R3 0 r3])] xA) := by
          show Bs _ _
          rw [hxA]
          exact Bs.drew ⟨zero_put (far6 HX9.out.2.2.2.2.1 (b := w.heap.size) hbw (.int .i64 nn) (.string nc) (.string nt) (.bool ns) (.slice E3 M.length e3) (.slice R3 0 r3)) (.int .i64 nn) (.string nc) (.string nt) (.bool ns) (.slice E4 M.length e4) (.slice R4 0 r4), far6 (far6 HX9.out.2.2.2.2.2.1 (b := w.heap.size) hnb (.int .i64 nn) (.string nc) (.string nt) (.bool ns) (.slice E3 M.length e3) (.slice R3 0 r3)) (b := w6.heap.size) (Ne.symm hbd) (.int .i64 nn) (.string nc) (.string nt) (.bool ns) (.slice E4 M.length e4) (.slice R4 0 r4), far6 (zero_put HX9.out.2.2.2.2.2.2.1 (.int .i64 nn) (.string nc) (.string nt) (.bool ns) (.slice E3 M.length e3) (.slice R3 0 r3)) (b := w6.heap.size) hbw2 (.int .i64 nn) (.string nc) (.string nt) (.bool ns) (.slice E4 M.length e4) (.slice R4 0 r4), trivial⟩
        have HBA : Hid (Below w.heap.size w xA) := by
          show Below _ _ _
          rw [hxA]
          exact (below_put6 (below_put6 HB9.out (b := w.heap.size) (Nat.le_refl _) (.int .i64 nn) (.string nc) (.string nt) (.bool ns) (.slice E3 M.length e3) (.slice R3 0 r3)) (b := w6.heap.size) (by omega) (.int .i64 nn) (.string nc) (.string nt) (.bool ns) (.slice E4 M.length e4) (.slice R4 0 r4)).drew
        have HIA : Hid (revK.In DA D xA) := by
          show revK.In _ _ _
          rw [hxA]
          exact (revs_put6 (revs_put6 (HID.out.below HW9.out) HNE2.out (.int .i64 nn) (.string nc) (.string nt) (.bool ns) (.slice E3 M.length e3) (.slice R3 0 r3)) HNE3.out (.int .i64 nn) (.string nc) (.string nt) (.bool ns) (.slice E4 M.length e4) (.slice R4 0 r4)).below (Below.refl _ _).drew
        have HNA : Hid (edtK.In E3 M xA) := by
          show edtK.In _ _ _
          rw [hxA]
          exact (in_putF (in_putF HN9.out (b := w.heap.size) (fun b off e => by have := HF5.out b off e; omega) (.int .i64 nn) (.string nc) (.string nt) (.bool ns) (.slice E3 M.length e3) (.slice R3 0 r3)) (b := w6.heap.size) (fun b off e => by have := HF5.out b off e; omega) (.int .i64 nn) (.string nc) (.string nt) (.bool ns) (.slice E4 M.length e4) (.slice R4 0 r4)).below (Below.refl _ _).drew
        have HWA : Hid (edtK.In E4 M xA) := by
          show edtK.In _ _ _
          rw [hxA]
          exact (in_putF (in_putF HM9.out (b := w.heap.size) (fun b off e => by have := HF7.out b off e; omega) (.int .i64 nn) (.string nc) (.string nt) (.bool ns) (.slice E3 M.length e3) (.slice R3 0 r3)) (b := w6.heap.size) (fun b off e => by have := HF7.out b off e; omega) (.int .i64 nn) (.string nc) (.string nt) (.bool ns) (.slice E4 M.length e4) (.slice R4 0 r4)).below (Below.refl _ _).drew
        rw [← hxA]
        clear hxA
        -- MARKK
        go_wp2_with fail
        go_roundw
        case rel => exact ⟨k + 1, nn, nc, nt, ns, M, E3, R3, E4, R4, e3, r3, e4, r4, by go_num, by omega, HOM.out, HNA.out, HWA.out, HF5.out, HF7.out, HIA.out, HBA.out, HMA.out⟩
        case measure => simp [intOf]; omega
      · have hea : (ne == 0) = false := by simpa using he
        have heb : decide (ne = 0) = false := by simpa using he
        go_wp2_with fail
        go_roundw
        case rel => exact ⟨k + 1, qn, qc, qt, qs, L, E, R, E1, R1, ec, rc, e1, r1, by go_num, by omega, HOL.out, HIE.out.below HW9.out, HIW.out.below HW9.out, HFE.out, HFE1.out, HID.out.below HW9.out, HB9.out, HX9.out.2.2.2.2.1, HX9.out.2.2.2.2.2.1, HX9.out.2.2.2.2.2.2.1, trivial⟩
        case measure => simp [intOf]; omega
    · obtain rfl : k = ops.length := by omega
      go_wp2_with (go_at_call 10; refine (awake18_any _).mono ?_; rintro e w9 ⟨rfl, HB9⟩)
      go_ret
      exact ⟨rfl, HB.out.trans (HB9.mono HB.out.size)⟩
end Go.Proofs.YtocffknoeknabaaDoor
