/-
  ChangelistEmpties returns true for all changes and calls whose texts are not longer than 1048576 bytes; what was in memory before the call stays as it was (printed by mkempt.py).
-/
import Derived.Test.YtocffknoeknabaaDoorCgK
import Derived.Test.YtocffknoeknabaaDoorCgJ
import Derived.Test.YtocffknoeknabaaDoorClPr
import Derived.Test.YtocffknoeknabaaDoorCgH
namespace Go.Proofs.YtocffknoeknabaaDoor
open Go.RowKit

theorem box_new (y : World) (T : TypeId) (cs : List Value) : Blk y.heap.size T cs (y.alloc (.cells cs.toArray T)) := Blk.new y T cs
set_option maxRecDepth 100000 in
set_option maxHeartbeats 12800000 in
theorem empties_any (l : List Chg) (ops : List Opr) (A F : Option Addr) (ca fc : Nat) (turn : Int) (w : World) (hA : ChsIn A l w) (hb : ChBnd l) (hF : oprK.In F ops w) (hn : ops.length ≤ 1048576) (ho : ∀ o ∈ ops, o.s.size ≤ 1048576 ∧ o.t.size ≤ 1048576) (hg : G0 w) :
    Calls Tryd.prog 5 #[.slice A l.length ca, .slice F ops.length fc, .int .i64 turn] w fun e w' => e = .returned (.bool true) ∧ Below w.heap.size w w' := by
  have HSM := Lib.hid (fun x hx => rsmall_any l A ca x (hA.below hx) hb)
  have HBU := Lib.hid (fun x (hx : Below w.heap.size w x) => rbuild_any l A ca x (hA.below hx) (by have := hb.len; omega) (fun c hc => hb.sz hc) (hg.below hx))
  have HFW := Lib.hid (fun x (hx : Below w.heap.size w x) => few_any ops F fc x (hF.below hx) hn ho)
  have HBT := Lib.hid (fun d A B ca nb cb x (hx : Below w.heap.size w x) h1 h2 h3 h4 => built_any d ops A B F ca nb cb fc x h1 (hF.below hx) h2 h3 h4 ho (hg.below hx))
  clear hA hb hF hn ho hg
  go_enter Tryd.func5, Tryd.ntmps5
  go_wp2_with fail
  refine (HSM.out _ (Below.refl _ _)).mono ?_
  rintro e w1 ⟨sm, rfl, -, hb1⟩
  have HB1 := Lib.hid hb1
  clear hb1
  cases sm
  ·
    go_wp2_with (go_at_call 10; refine (awake18_any _).mono ?_; rintro e w9 ⟨rfl, HB9⟩)
    go_ret
    exact ⟨rfl, HB1.out.trans (HB9.mono HB1.out.size)⟩
  go_wp2_with fail
  refine (HFW.out _ HB1.out).mono ?_
  rintro e w2 ⟨fb, rfl, hfw, hb2⟩
  have HB2 := Lib.hid (HB1.out.trans (hb2.mono HB1.out.size))
  clear hb2 HB1
  cases fb
  ·
    clear hfw
    go_wp2_with (go_at_call 10; refine (awake18_any _).mono ?_; rintro e w9 ⟨rfl, HB9⟩)
    go_ret
    exact ⟨rfl, HB2.out.trans (HB9.mono HB2.out.size)⟩
  have HFL := Lib.hid (hfw rfl)
  clear hfw
  by_cases ht : turn < 0
  ·
    go_wp2_with (go_at_call 10; refine (awake18_any _).mono ?_; rintro e w9 ⟨rfl, HB9⟩)
    go_ret
    exact ⟨rfl, HB2.out.trans (HB9.mono HB2.out.size)⟩
  obtain ⟨tn, rfl⟩ := Int.eq_ofNat_of_zero_le (Int.not_lt.1 ht)
  go_wp2_with fail
  refine (HBU.out _ HB2.out).mono ?_
  rintro e w3 ⟨d, DA, DB, da, db, rfl, hblt, hIA, hIB, hb3⟩
  have hok := hblt.ok
  have hRl : d.revs.length ≤ 512 := hok.few
  have HAS := Lib.hid hok.asc
  have HB3 := Lib.hid (HB2.out.trans (hb3.mono HB2.out.size))
  have HIA3 := Lib.hid hIA
  clear hb3 HB2 hIA hIB hblt hok HSM HBU HFW
  generalize d.revs = D at *
  generalize d.recs.length = rl at *
  go_wp2_with fail
  -- MARKA
  refine (HBT.out _ _ _ _ _ _ _ HB3.out HIA3.out hRl HAS.out (by have := HFL.out.1; omega)).mono ?_
  have HOK := Lib.hid (run_ok HAS.out hRl ops (p := p0P) EOk.nil)
  have HHD := Lib.hid (run_head D ops p0P)
  generalize runP D p0P ops = P at *
  rintro e w5 ⟨E0, e0, R0, r0, rfl, hi5, hf5, hb5⟩
  obtain ⟨pn, pc, pt0, ps0, L0⟩ := P
  obtain ⟨hpn, hpc⟩ : pn = 1 ∧ pc = ⟨#[99]⟩ := ⟨HHD.out.1, HHD.out.2.1⟩
  subst hpn hpc
  unfold pndV pndC
  dsimp only at hi5 HOK ⊢
  have HM6 : Hid (Bs [(w5.heap.size, 34, [.int .i64 1, .string ⟨#[99]⟩, .string pt0, .bool ps0, .slice E0 L0.length e0, .slice R0 0 r0])] (w5.alloc (.cells [.int .i64 1, .string ⟨#[99]⟩, .string pt0, .bool ps0, .slice E0 L0.length e0, .slice R0 0 r0].toArray 34))) := ⟨Blk.new w5 34 [.int .i64 1, .string ⟨#[99]⟩, .string pt0, .bool ps0, .slice E0 L0.length e0, .slice R0 0 r0], trivial⟩
  have HB6 : Hid (Below w.heap.size w (w5.alloc (.cells [.int .i64 1, .string ⟨#[99]⟩, .string pt0, .bool ps0, .slice E0 L0.length e0, .slice R0 0 r0].toArray 34))) := (HB3.out.trans (hb5.mono HB3.out.size)).alloc (HB3.out.trans (hb5.mono HB3.out.size)).size _
  have HP6 := Lib.hid (hi5.below ((Below.refl _ _).alloc (Nat.le_refl _) (.cells [.int .i64 1, .string ⟨#[99]⟩, .string pt0, .bool ps0, .slice E0 L0.length e0, .slice R0 0 r0].toArray 34)))
  have HF6 : Hid (∀ b off, E0 = some ⟨b, off, none⟩ → L0 ≠ [] → b ≠ w5.heap.size) := fun b off e hne => by
    obtain ⟨b', off', e', h1, _⟩ := hi5 (List.length_pos_iff.2 hne)
    rw [e] at e'
    injection e' with e'
    injection e' with e'
    omega
  have hszw : w.heap.size ≤ w5.heap.size := (HB3.out.trans (hb5.mono HB3.out.size)).size
  clear hb5 hi5 hf5 HB3 HIA3 HBT HHD
  go_upto_region 4 with fail
  -- MARKB
  generalize hw6 : World.alloc w5 (.cells #[.int .i64 1, .string ⟨#[99]⟩, .string pt0, .bool ps0, .slice E0 L0.length e0, .slice R0 0 r0] 34) = w6 at *
  clear hw6
  (obtain ⟨p0, p1, p2, p3, p4, p5⟩ := (HM6.out.1).c6)
  have hl0 := HOK.out.len
  go_wp2_with fail
  clear p0 p1 p2 p3 p4 p5
  -- MARKC
  go_loopw [8] (fun i wr => ∃ (n : Nat) (pt : ByteArray) (ps : Bool) (L : List Edt) (E R : Option Addr) (ec rc : Nat), i = .int .i64 n ∧ L.length ≤ n ∧ n ≤ 64 ∧ Hid (EOk L) ∧ Hid (edtK.In E L wr) ∧ Hid (∀ b off, E = some ⟨b, off, none⟩ → L ≠ [] → b ≠ w5.heap.size) ∧ Hid (Below w.heap.size w wr) ∧ Hid (Bs [(w5.heap.size, 34, [.int .i64 1, .string ⟨#[99]⟩, .string pt, .bool ps, .slice E L.length ec, .slice R 0 rc])] wr)) (fun i _ => (intOf i).toNat)
  case atStart => exact ⟨L0.length, pt0, ps0, L0, E0, R0, e0, r0, rfl, Nat.le_refl _, hl0, HOK.out, HP6.out, HF6.out, HB6.out, HM6.out⟩
  case round =>
    obtain ⟨n, pt, ps, L, E, R, ec, rc, rfl, hln, hn64, HOL, HIL, HFL, HB, HM⟩ := hrel
    clear HM6 HB6 HP6 HF6 HOK
    have lt5 := HM.out.1.lt
    by_cases hl : 0 < L.length
    · have hnp : (0 : Int) < (n : Int) := by omega
      have hlp : (0 : Int) < (L.length : Int) := by omega
      have hl0 : (L.length : Int) ≠ 0 := by omega
      obtain ⟨j, hj⟩ : ∃ j, tn % L.length = j := ⟨_, rfl⟩
      have hjl : j < L.length := by rw [← hj]; exact Nat.mod_lt _ hl
      have hrem : Int.tmod (tn : Int) (L.length : Int) = (j : Int) := by rw [← hj]; rfl
      have hjn : (j : Int) < (L.length : Int) := by omega
      have hj0 : (0 : Int) ≤ (j : Int) := by omega
      have hxm := List.getElem_mem hjl
      have HLS := Lib.hid (rev_less (p := ⟨1, ⟨#[99]⟩, pt, ps, L⟩) hxm HOL.out.srt rfl)
      have hxu := (use_valid (HOL.out.use _ hxm)).2
      have HPR := Lib.hid (fun y h => prev_any ⟨1, ⟨#[99]⟩, pt, ps, L⟩ L[j].path E R ec rc y h HOL.out (by omega))
      have HOR := Lib.hid (rev_ok (p := ⟨1, ⟨#[99]⟩, pt, ps, L⟩) HOL.out L[j].path)
      unfold pndV pndC at HPR
      dsimp only at HPR
      have hg := List.getElem?_eq_getElem hjl
      obtain ⟨b, off, rfl, hbl, hat⟩ := HIL.out hl
      generalize L[j] = x at *
      generalize revP ⟨1, ⟨#[99]⟩, pt, ps, L⟩ x.path = q at *
      obtain ⟨⟨qn, qc, qt, qs, M⟩, qe⟩ := q
      dsimp only at HLS HOR
      obtain ⟨hqe, hml, hqn, hqc, hqt, hqs⟩ := HLS.out
      dsimp only at hqe hml hqn hqc hqt hqs
      subst hqe hqn hqc
      have HML := Lib.hid hml
      clear HLS hml hqt hqs hj
      (obtain ⟨p0, p1, p2, p3, p4, p5⟩ := (HM.out.1).c6)
      go_upto_region 7 with fail
      clear p0 p1 p2 p3 p4 p5
      have hS : Below wr.heap.size wr wr.drew := (Below.refl _ _).drew
      obtain ⟨p0, p1, p2, p3, p4, p5⟩ := fun_and6 (fun y : Held (Below wr.heap.size wr) => (HM.out.below y.ok).1.c6)
      have c0 : ∀ y : Held (Below wr.heap.size wr), y.w.cell? ⟨b, off + j * 12, none⟩ = some (.string x.path) := fun y => by
        have := (hat.below y.ok hbl).get hg (j := 0) (u := .string x.path) rfl
        simp only [show edtK.n = 12 from rfl, Nat.add_zero] at this
        exact this
      have HAT := Lib.hid hat
      clear hat hg
      -- MARKE
      (refine wp_region_mixf (S := Below wr.heap.size wr) [17] [] [12, 13, 14] 16 15 [([0, 1, 2, 3, 4, 5, 6, 7, 8, 9, 10], 11)] (by kernel_rfl) (by kernel_rfl) (by intro c a d v w h; cases d <;> exact h) hS ?_; have hN : Nonempty (Held (Below wr.heap.size wr)) := ⟨⟨_, hS⟩⟩)
      generalize hwq : wr.drew = wq at *
      have HS := Lib.hid hS
      clear hS hwq
      (unfold wpMixF wpRd; (repeat (first | simp only [List.filterMap_cons] | simp only [List.filterMap_nil] | simp only [List.getElem?_toArray] | simp only [List.getElem?_cons_zero] | simp only [List.getElem?_cons_succ])); (try dsimp only); change wpQuiet _ _ _ _ (_ :: _ :: _ :: _ :: _ :: _ :: _ :: _ :: _ :: _ :: _ :: []) _; (repeat (go_big_quiet_step (fail))); refine wpQuiet_nil ?_; (try dsimp only))
      -- MARKF
      clear p0 p1 p2 p3 p4 p5 c0
      have HIW : Hid (∀ y, Below wr.heap.size wr y → edtK.In (some ⟨b, off, none⟩) L y) := fun y h => HIL.out.below h
      refine ⟨?_, ?_⟩
      · skip
        (unfold wpAct; (repeat (first | simp only [List.getElem?_toArray] | simp only [List.getElem?_cons_zero] | simp only [List.getElem?_cons_succ])); (try dsimp only))
        go_wp2_with fail
        refine (HPR.out _ (HIW.out _ HS.out)).mono ?_
        rintro e y1 ⟨E2, e2, R2, r2, rfl, hi1, hf1, hb1⟩
        unfold pndV pndC
        dsimp only at hi1 ⊢
        have HY1 := Lib.hid (HS.out.trans (hb1.mono HS.out.size))
        have HI1 := Lib.hid hi1
        have HFq : Hid (∀ b off, E2 = some ⟨b, off, none⟩ → b ≠ w5.heap.size) := fun b off e => by have := hf1 b off e; have := HS.out.size; omega
        clear hb1 hi1 hf1
        go_wp2_with fail
        refine ⟨HY1.out, ?_⟩
        (unfold wpMixF wpRd; (repeat (first | simp only [List.filterMap_cons] | simp only [List.filterMap_nil] | simp only [List.getElem?_toArray] | simp only [List.getElem?_cons_zero] | simp only [List.getElem?_cons_succ])); (try dsimp only); change wpQuiet _ _ _ _ (_ :: _ :: _ :: []) _; (repeat (go_big_quiet_step (fail))); refine wpQuiet_nil ?_; (try dsimp only))
        (unfold wpAct; (repeat (first | simp only [List.getElem?_toArray] | simp only [List.getElem?_cons_zero] | simp only [List.getElem?_cons_succ])); (try dsimp only))
        go_wp2_with fail
        have hub := HY1.out.size
        have HY2 := Lib.hid (HY1.out.alloc HY1.out.size (.cells ([.int .i64 0, .string ⟨#[]⟩, .string ⟨#[]⟩, .bool false, .slice none 0 0, .slice none 0 0] : List Value).toArray 34))
        refine ⟨HY2.out, ?_⟩
        (unfold wpMix wpRd; (repeat (first | simp only [List.filterMap_cons] | simp only [List.filterMap_nil] | simp only [List.getElem?_toArray] | simp only [List.getElem?_cons_zero] | simp only [List.getElem?_cons_succ])); (try dsimp only); change wpQuiet _ _ _ _ ([]) _; (repeat (go_big_quiet_step (fail))); refine wpQuiet_nil ?_; (try dsimp only))
        -- MARKI
        go_wp2_with fail
        -- MARKJ
        have HYq : Hid (Below wr.heap.size wr (y1.alloc (.cells [.int .i64 1, .string ⟨#[99]⟩, .string qt, .bool qs, .slice E2 M.length e2, .slice R2 0 r2].toArray 34))) := HY1.out.alloc HY1.out.size _
        have HMq : Hid (Bs [(y1.heap.size, 34, [.int .i64 1, .string ⟨#[99]⟩, .string qt, .bool qs, .slice E2 M.length e2, .slice R2 0 r2]), (w5.heap.size, 34, [.int .i64 1, .string ⟨#[99]⟩, .string pt, .bool ps, .slice (some ⟨b, off, none⟩) L.length ec, .slice R 0 rc])] (y1.alloc (.cells [.int .i64 1, .string ⟨#[99]⟩, .string qt, .bool qs, .slice E2 M.length e2, .slice R2 0 r2].toArray 34))) := Bs.cons (Blk.new y1 34 [.int .i64 1, .string ⟨#[99]⟩, .string qt, .bool qs, .slice E2 M.length e2, .slice R2 0 r2]) (HM.out.below HYq.out)
        have HBq : Hid (Below w.heap.size w (y1.alloc (.cells [.int .i64 1, .string ⟨#[99]⟩, .string qt, .bool qs, .slice E2 M.length e2, .slice R2 0 r2].toArray 34))) := HB.out.trans (HYq.out.mono HB.out.size)
        have HIq := Lib.hid (HI1.out.below ((Below.refl _ _).alloc (Nat.le_refl _) (.cells [.int .i64 1, .string ⟨#[99]⟩, .string qt, .bool qs, .slice E2 M.length e2, .slice R2 0 r2].toArray 34)))
        refine ⟨HYq.out, ?_⟩
        generalize World.alloc y1 (.cells #[.int .i64 1, .string ⟨#[99]⟩, .string qt, .bool qs, .slice E2 M.length e2, .slice R2 0 r2] 34) = yq at *
        (unfold wpMix wpRd; (repeat (first | simp only [List.filterMap_cons] | simp only [List.filterMap_nil] | simp only [List.getElem?_toArray] | simp only [List.getElem?_cons_zero] | simp only [List.getElem?_cons_succ])); (try dsimp only); change wpQuiet _ _ _ _ (_ :: []) _; (repeat (go_big_quiet_step (fail))); refine wpQuiet_nil ?_; (try dsimp only))
        -- MARKK
        have ltq := HMq.out.1.lt
        have ltp := HMq.out.2.1.lt
        obtain ⟨n0, n1, n2, n3, n4, n5⟩ := HMq.out.1.c6
        obtain ⟨p0, p1, p2, p3, p4, p5⟩ := HMq.out.2.1.c6
        have f0 := HMq.out.2.1.fz 0
        have f1 := HMq.out.2.1.fz 1
        have f2 := HMq.out.2.1.fz 2
        have f3 := HMq.out.2.1.fz 3
        have f4 := HMq.out.2.1.fz 4
        have f5 := HMq.out.2.1.fz 5
        have hml := HML.out
        have hge : ¬ (L.length : Int) ≤ (M.length : Int) := by omega
        -- MARKG
        go_wp2_with fail
        -- MARKH
        go_roundw
        case rel => exact ⟨n - 1, qt, qs, M, E2, R2, e2, r2, by go_num, by omega, by omega, HOR.out, in_putF HIq.out (b := w5.heap.size) (fun b off e => HFq.out b off e) (.int .i64 1) (.string ⟨#[99]⟩) (.string qt) (.bool qs) (.slice E2 M.length e2) (.slice R2 0 r2), (fun b off e _ => HFq.out b off e), below_put6 HBq.out (b := w5.heap.size) hszw (.int .i64 1) (.string ⟨#[99]⟩) (.string qt) (.bool qs) (.slice E2 M.length e2) (.slice R2 0 r2), zero_put HMq.out.2.1 (.int .i64 1) (.string ⟨#[99]⟩) (.string qt) (.bool qs) (.slice E2 M.length e2) (.slice R2 0 r2), trivial⟩
        case measure => simp [intOf]; omega
      · skip
        (unfold wpAct; (repeat (first | simp only [List.getElem?_toArray] | simp only [List.getElem?_cons_zero] | simp only [List.getElem?_cons_succ])); (try dsimp only))
        go_wp2_with fail
        have HY1 := Lib.hid (HS.out.alloc HS.out.size (.cells ([.int .i64 0, .string ⟨#[]⟩, .string ⟨#[]⟩, .bool false, .slice none 0 0, .slice none 0 0] : List Value).toArray 34))
        have KN := Lib.hid (Blk.new wq 34 [.int .i64 0, .string ⟨#[]⟩, .string ⟨#[]⟩, .bool false, .slice none 0 0, .slice none 0 0])
        have hub := HS.out.size
        refine ⟨HY1.out, ?_⟩
        generalize hy1 : World.alloc wq (.cells #[.int .i64 0, .string ⟨#[]⟩, .string ⟨#[]⟩, .bool false, .slice none 0 0, .slice none 0 0] 34) = y1 at *
        clear hy1
        (unfold wpMix wpRd; (repeat (first | simp only [List.filterMap_cons] | simp only [List.filterMap_nil] | simp only [List.getElem?_toArray] | simp only [List.getElem?_cons_zero] | simp only [List.getElem?_cons_succ])); (try dsimp only); change wpQuiet _ _ _ _ ([]) _; (repeat (go_big_quiet_step (fail))); refine wpQuiet_nil ?_; (try dsimp only))
        ((repeat (first | simp only [List.getElem?_toArray] | simp only [List.getElem?_cons_zero] | simp only [List.getElem?_cons_succ])); (try dsimp only))
        go_wp2_with fail
        refine (HPR.out _ (HIW.out _ HY1.out)).mono ?_
        rintro e y2 ⟨E2, e2, R2, r2, rfl, hi1, hf1, hb1⟩
        unfold pndV pndC
        dsimp only at hi1 ⊢
        have HY2 := Lib.hid (HY1.out.trans (hb1.mono HY1.out.size))
        have HI2 := Lib.hid hi1
        have KN2 := Lib.hid (KN.out.below hb1)
        have ltk := KN.out.lt
        have HF2 : Hid (∀ b off, E2 = some ⟨b, off, none⟩ → y1.heap.size ≤ b) := fun b off e => hf1 b off e
        have HFq : Hid (∀ b off, E2 = some ⟨b, off, none⟩ → b ≠ w5.heap.size) := fun b off e => by have := hf1 b off e; have := HY1.out.size; omega
        clear hb1 hi1 hf1
        go_wp2_with fail
        refine ⟨HY2.out, ?_⟩
        (unfold wpMix wpRd; (repeat (first | simp only [List.filterMap_cons] | simp only [List.filterMap_nil] | simp only [List.getElem?_toArray] | simp only [List.getElem?_cons_zero] | simp only [List.getElem?_cons_succ])); (try dsimp only); change wpQuiet _ _ _ _ (_ :: _ :: _ :: []) _; (repeat (go_big_quiet_step (fail))); refine wpQuiet_nil ?_; (try dsimp only))
        ((repeat (first | simp only [List.getElem?_toArray] | simp only [List.getElem?_cons_zero] | simp only [List.getElem?_cons_succ])); (try dsimp only))
        obtain ⟨z0, z1, z2, z3, z4, z5⟩ := KN2.out.c6
        have f0 := KN2.out.fz 0
        have f1 := KN2.out.fz 1
        have f2 := KN2.out.fz 2
        have f3 := KN2.out.fz 3
        have f4 := KN2.out.fz 4
        have f5 := KN2.out.fz 5
        have HYq := Lib.hid (below_put6 HY2.out (b := wq.heap.size) hub (.int .i64 1) (.string ⟨#[99]⟩) (.string qt) (.bool qs) (.slice E2 M.length e2) (.slice R2 0 r2))
        have HMq := Lib.hid (show Bs [(wq.heap.size, 34, [.int .i64 1, .string ⟨#[99]⟩, .string qt, .bool qs, .slice E2 M.length e2, .slice R2 0 r2]), (w5.heap.size, 34, [.int .i64 1, .string ⟨#[99]⟩, .string pt, .bool ps, .slice (some ⟨b, off, none⟩) L.length ec, .slice R 0 rc])] _ from ⟨zero_put KN2.out (.int .i64 1) (.string ⟨#[99]⟩) (.string qt) (.bool qs) (.slice E2 M.length e2) (.slice R2 0 r2), far6 (HM.out.below HY2.out).1 (b := wq.heap.size) (by omega) (.int .i64 1) (.string ⟨#[99]⟩) (.string qt) (.bool qs) (.slice E2 M.length e2) (.slice R2 0 r2), trivial⟩)
        have HBq := Lib.hid (below_put6 (HB.out.trans (HY2.out.mono HB.out.size)) (b := wq.heap.size) (Nat.le_trans HB.out.size hub) (.int .i64 1) (.string ⟨#[99]⟩) (.string qt) (.bool qs) (.slice E2 M.length e2) (.slice R2 0 r2))
        have HIq := Lib.hid (in_putF HI2.out (b := wq.heap.size) (fun b off e => by have := HF2.out b off e; omega) (.int .i64 1) (.string ⟨#[99]⟩) (.string qt) (.bool qs) (.slice E2 M.length e2) (.slice R2 0 r2))
        -- MARKL
        go_wp2_with fail
        (generalize World.setCell (World.setCell (World.setCell (World.setCell (World.setCell (World.setCell _ _ _) _ _) _ _) _ _) _ _) _ _ = yq at *)
        refine ⟨HYq.out, ?_⟩
        clear z0 z1 z2 z3 z4 z5 f0 f1 f2 f3 f4 f5
        (unfold wpMix wpRd; (repeat (first | simp only [List.filterMap_cons] | simp only [List.filterMap_nil] | simp only [List.getElem?_toArray] | simp only [List.getElem?_cons_zero] | simp only [List.getElem?_cons_succ])); (try dsimp only); change wpQuiet _ _ _ _ (_ :: []) _; (repeat (go_big_quiet_step (fail))); refine wpQuiet_nil ?_; (try dsimp only))
        -- MARKM
        have ltq := HMq.out.1.lt
        have ltp := HMq.out.2.1.lt
        obtain ⟨n0, n1, n2, n3, n4, n5⟩ := HMq.out.1.c6
        obtain ⟨p0, p1, p2, p3, p4, p5⟩ := HMq.out.2.1.c6
        have f0 := HMq.out.2.1.fz 0
        have f1 := HMq.out.2.1.fz 1
        have f2 := HMq.out.2.1.fz 2
        have f3 := HMq.out.2.1.fz 3
        have f4 := HMq.out.2.1.fz 4
        have f5 := HMq.out.2.1.fz 5
        have hml := HML.out
        have hge : ¬ (L.length : Int) ≤ (M.length : Int) := by omega
        -- MARKG
        go_wp2_with fail
        -- MARKH
        go_roundw
        case rel => exact ⟨n - 1, qt, qs, M, E2, R2, e2, r2, by go_num, by omega, by omega, HOR.out, in_putF HIq.out (b := w5.heap.size) (fun b off e => HFq.out b off e) (.int .i64 1) (.string ⟨#[99]⟩) (.string qt) (.bool qs) (.slice E2 M.length e2) (.slice R2 0 r2), (fun b off e _ => HFq.out b off e), below_put6 HBq.out (b := w5.heap.size) hszw (.int .i64 1) (.string ⟨#[99]⟩) (.string qt) (.bool qs) (.slice E2 M.length e2) (.slice R2 0 r2), zero_put HMq.out.2.1 (.int .i64 1) (.string ⟨#[99]⟩) (.string qt) (.bool qs) (.slice E2 M.length e2) (.slice R2 0 r2), trivial⟩
        case measure => simp [intOf]; omega
    · obtain rfl : L = [] := List.length_eq_zero_iff.1 (by omega)
      (obtain ⟨p0, p1, p2, p3, p4, p5⟩ := (HM.out.1).c6)
      by_cases hn0 : 0 < n
      · have hnp : (0 : Int) < (n : Int) := by omega
        -- MARKN
        go_wp2_with (go_at_call 10; refine (awake18_any _).mono ?_; rintro e w9 ⟨rfl, HB9⟩)
        go_ret
        exact ⟨rfl, HB.out.trans (HB9.mono HB.out.size)⟩
      · have hnp : ¬ (0 : Int) < (n : Int) := by omega
        go_wp2_with (go_at_call 10; refine (awake18_any _).mono ?_; rintro e w9 ⟨rfl, HB9⟩)
        go_ret
        exact ⟨rfl, HB.out.trans (HB9.mono HB.out.size)⟩
end Go.Proofs.YtocffknoeknabaaDoor
