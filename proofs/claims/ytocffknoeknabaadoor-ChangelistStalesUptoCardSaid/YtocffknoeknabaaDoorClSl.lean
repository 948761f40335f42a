/-
  ChangelistStales returns true for all changes and calls whose texts are not longer than 1048576 bytes; what was in memory before the call stays as it was (printed by mkstales.py).
-/
import Derived.Test.YtocffknoeknabaaDoorClSt
import Derived.Test.YtocffknoeknabaaDoorClCg
import Derived.Test.YtocffknoeknabaaDoorCgK
import Derived.Test.YtocffknoeknabaaDoorCgJ
import Derived.Test.YtocffknoeknabaaDoorCgH
namespace Go.Proofs.YtocffknoeknabaaDoor
open Go.RowKit

/-! Two lists of changes, one behind the other. -/
abbrev Ch5 := { cs : List Value // cs.length = 5 ∧ ∀ u ∈ cs, u.oneCell' = true }
def chK : RowK Ch5 := ⟨fun x => x.1, 5, by decide, fun x => x.2.1, fun x u hu => x.2.2 u hu⟩
def ChQ (cs : List Value) (c : Chg) (w : World) : Prop := ∃ (E : Option Addr) (ec : Nat) (R : Option Addr) (rc : Nat), cs = [.int .i64 c.num, .string c.client, .string c.text, .slice E c.edits.length ec, .slice R c.recs.length rc] ∧ edtK.In E c.edits w ∧ rcdK.In R c.recs w
theorem ChQ.below {cs : List Value} {c : Chg} {w w' : World} (h : ChQ cs c w) (hb : Below w.heap.size w w') : ChQ cs c w' := by
  obtain ⟨E, ec, R, rc, h1, h2, h3⟩ := h
  exact ⟨E, ec, R, rc, h1, h2.below hb, h3.below hb⟩
def ChR (rs : List Ch5) (l : List Chg) (w : World) : Prop := rs.length = l.length ∧ ∀ (i : Nat) (c : Chg) (r : Ch5), l[i]? = some c → rs[i]? = some r → ChQ r.1 c w
theorem ChR.below {rs : List Ch5} {l : List Chg} {w w' : World} (h : ChR rs l w) (hb : Below w.heap.size w w') : ChR rs l w' := ⟨h.1, fun i c r h1 h2 => (h.2 i c r h1 h2).below hb⟩
theorem ChR.append {rs rs' : List Ch5} {l l' : List Chg} {w : World} (h : ChR rs l w) (h' : ChR rs' l' w) : ChR (rs ++ rs') (l ++ l') w := by
  refine ⟨by rw [List.length_append, List.length_append, h.1, h'.1], fun i c r h1 h2 => ?_⟩
  by_cases hi : i < l.length
  · rw [List.getElem?_append_left hi] at h1
    rw [List.getElem?_append_left (by rw [h.1]; exact hi)] at h2
    exact h.2 i c r h1 h2
  · rw [List.getElem?_append_right (by omega)] at h1
    rw [List.getElem?_append_right (by rw [h.1]; omega), h.1] at h2
    exact h'.2 _ c r h1 h2
theorem chs_go {b : Nat} {w : World} : ∀ (l : List Chg) (off : Nat), (∀ i c, l[i]? = some c → ChAt w b (off + i * 5) c) → ∃ rs : List Ch5, chK.At b off rs w ∧ ChR rs l w
  | [], off, _ => ⟨[], (fun j u hu => by simp [RowK.flat] at hu), rfl, fun i c r h1 _ => by simp at h1⟩
  | x :: r, off, h => by
    obtain ⟨rs, hat, hr⟩ := chs_go r (off + 5) (fun i c hc => by
      have := h (i + 1) c (by simpa using hc)
      rwa [show off + (i + 1) * 5 = off + 5 + i * 5 by omega] at this)
    obtain ⟨E, ec, R, rc, ⟨h0, h1, h2, h3, h4⟩, h5, h6⟩ := h 0 x rfl
    simp only [Nat.zero_mul, Nat.add_zero] at h0 h1 h2 h3 h4
    have hone : ∀ u ∈ ([.int .i64 x.num, .string x.client, .string x.text, .slice E x.edits.length ec, .slice R x.recs.length rc] : List Value), u.oneCell' = true := by
      intro u hu
      simp only [List.mem_cons, List.not_mem_nil, or_false] at hu
      rcases hu with rfl | rfl | rfl | rfl | rfl <;> rfl
    refine ⟨⟨_, rfl, hone⟩ :: rs, fun j u hu => ?_, by simp [hr.1], fun i c q hc hq => ?_⟩
    · have hu' : ([.int .i64 x.num, .string x.client, .string x.text, .slice E x.edits.length ec, .slice R x.recs.length rc] ++ chK.flat rs : List Value)[j]? = some u := hu
      by_cases hj : j < 5
      · rw [List.getElem?_append_left (by simpa using hj)] at hu'
        have : j = 0 ∨ j = 1 ∨ j = 2 ∨ j = 3 ∨ j = 4 := by omega
        rcases this with rfl | rfl | rfl | rfl | rfl
        · exact h0.trans hu'
        · exact h1.trans hu'
        · exact h2.trans hu'
        · exact h3.trans hu'
        · exact h4.trans hu'
      · rw [List.getElem?_append_right (by simp; omega)] at hu'
        have := hat (j - 5) u (by simpa using hu')
        rwa [show off + 5 + (j - 5) = off + j by omega] at this
    · cases i with
      | zero =>
        simp only [List.getElem?_cons_zero, Option.some.injEq] at hc hq
        subst hc hq
        exact ⟨E, ec, R, rc, rfl, h5, h6⟩
      | succ i =>
        rw [List.getElem?_cons_succ] at hc hq
        exact hr.2 i c q hc hq
theorem chs_rows {A : Option Addr} {l : List Chg} {w : World} (h : ChsIn A l w) : ∃ rs : List Ch5, chK.In A rs w ∧ ChR rs l w := by
  by_cases h0 : 0 < l.length
  · obtain ⟨b, off, e, hl, hc⟩ := h h0
    obtain ⟨rs, hat, hr⟩ := chs_go l off hc
    exact ⟨rs, fun _ => ⟨b, off, e, hl, hat⟩, hr⟩
  · obtain rfl : l = [] := List.length_eq_zero_iff.1 (by omega)
    exact ⟨[], RowK.In.nil _ _, rfl, fun i c r h1 _ => by simp at h1⟩
theorem chs_of {A : Option Addr} {rs : List Ch5} {l : List Chg} {w : World} (h : chK.In A rs w) (hr : ChR rs l w) : ChsIn A l w := fun h0 => by
  obtain ⟨b, off, e, hl, hat⟩ := h (by rw [hr.1]; exact h0)
  refine ⟨b, off, e, hl, fun i c hc => ?_⟩
  have hi : i < rs.length := by rw [hr.1]; exact (List.getElem?_eq_some_iff.1 hc).1
  obtain ⟨E, ec, R, rc, hq, h5, h6⟩ := hr.2 i c _ hc (List.getElem?_eq_getElem hi)
  have hg := fun j u (hu : (chK.cells rs[i])[j]? = some u) => hat.get (List.getElem?_eq_getElem hi) hu
  have hq' : chK.cells rs[i] = _ := hq
  rw [hq'] at hg
  have e5 : chK.n = 5 := rfl
  have g0 := hg 0 _ rfl
  have g1 := hg 1 _ rfl
  have g2 := hg 2 _ rfl
  have g3 := hg 3 _ rfl
  have g4 := hg 4 _ rfl
  rw [e5] at g0 g1 g2 g3 g4
  exact ⟨E, ec, R, rc, ⟨g0, g1, g2, g3, g4⟩, h5, h6⟩
def zeroCh : Value := .agg #[.int .i64 0, .string ⟨#[]⟩, .string ⟨#[]⟩, .slice none 0 0, .slice none 0 0]
theorem Tryd.infoChg18 : (Tryd.prog.info? 44).map (fun i => (i.zero, i.size, i.bytes)) = some (some zeroCh, 5, 88) := by kernel_rfl
set_option maxRecDepth 100000 in
set_option maxHeartbeats 12800000 in
theorem stales_any (l more : List Chg) (ops : List Opr) (A F G : Option Addr) (ca fc gc : Nat) (num : Int) (w : World) (hA : ChsIn A l w) (hG : ChsIn G more w) (hb : ChBnd (l ++ more)) (hF : oprK.In F ops w) (hn : ops.length ≤ 1048576) (ho : ∀ o ∈ ops, o.s.size ≤ 1048576 ∧ o.t.size ≤ 1048576) (hg : G0 w) :
    Calls Tryd.prog 4 #[.slice A l.length ca, .slice F ops.length fc, .slice G more.length gc, .int .i64 num] w fun e w' => e = .returned (.bool true) ∧ Below w.heap.size w w' := by
  obtain ⟨ra, hra, hqa⟩ := chs_rows hA
  obtain ⟨rg, hrg, hqg⟩ := chs_rows hG
  obtain ⟨i0, hi0, hz0, hz1, hz2⟩ := info_parts Tryd.infoChg18
  have hla := hqa.1
  have hlg := hqg.1
  have hlen := hb.len
  rw [List.length_append] at hlen
  have HQ := Lib.hid (fun x (hx : Below w.heap.size w x) => (hqa.append hqg).below hx)
  have HNA := Lib.hid hra.news
  have HNG := Lib.hid (fun x (hx : Below w.heap.size w x) => (hrg.below hx).news)
  have HSM := Lib.hid (fun A c x hx => rsmall_any (l ++ more) A c x hx hb)
  have HB1A := Lib.hid (fun x (hx : Below w.heap.size w x) => rbuild_any l A ca x (hA.below hx) (by omega) (fun c hc => hb.sz (List.mem_append_left _ hc)) (hg.below hx))
  have HBUA := Lib.hid (fun A c x (hx : Below w.heap.size w x) h => rbuild_any (l ++ more) A c x h (by rw [List.length_append]; omega) (fun c hc => hb.sz hc) (hg.below hx))
  have HFW := Lib.hid (fun x (hx : Below w.heap.size w x) => few_any ops F fc x (hF.below hx) hn ho)
  have HBT := Lib.hid (fun d A B ca nb cb x (hx : Below w.heap.size w x) h1 h2 h3 h4 => built_any d ops A B F ca nb cb fc x h1 (hF.below hx) h2 h3 h4 ho (hg.below hx))
  clear hA hG hb hF hn ho hg hra hrg hqa hqg
  go_enter Tryd.func4, Tryd.ntmps4
  -- MARKA
  go_upto_region 2 with (at_builtin; first
    | (refine wpList_append_any rfl _ _ 22 rfl w.heap.size 44 i0 zeroCh 5 88 Tryd.underlying22 hi0 hz0 hz1 hz2 rfl (by decide) (.slice none 0 0) 0 [] rfl ⟨rfl, .inl ⟨rfl, rfl⟩⟩ A l.length ca (chK.flat ra) rfl (by rw [chK.flat_len, hla]; rfl) (fun h => HNA.out (by rw [hla]; exact h)) (chK.flat_ones ra) (by unfold maxLen; omega) (by omega) (Nat.le_refl _) ?_; intro v1 w1 ho1 hg1; simp only [Nat.zero_add, List.nil_append] at ho1; obtain ⟨A1, c1, rfl⟩ := own_slice ho1; have HO1 := Lib.hid ho1; have HB1 := Lib.hid ((Below.refl w.heap.size w).grown hg1 (Nat.le_refl _) (fun j e => by cases e)); have hsz1 := HB1.out.size; clear ho1 hg1)
    | (go_loud (refine wpList_append_any rfl _ _ 22 rfl w.heap.size 44 i0 zeroCh 5 88 Tryd.underlying22 hi0 hz0 hz1 hz2 rfl (by decide) (.slice A1 l.length c1) l.length (chK.flat ra) rfl HO1.out G more.length gc (chK.flat rg) rfl (by rw [chK.flat_len, hlg]; rfl) (fun h => HNG.out _ HB1.out (by rw [hlg]; exact h)) (chK.flat_ones rg) (by unfold maxLen; omega) (by omega) (by omega) ?_); intro v2 w2 ho2 hg2; obtain ⟨A2, c2, rfl⟩ := own_slice ho2; rw [← chK.flat_append] at ho2; have HI2 := Lib.hid (RowK.In.of_row (R := chK) ho2); have HB2 := Lib.hid (HB1.out.grown hg2 HB1.out.size (fun j e => (HO1.out.lt j e).1)); clear ho2 hg2))
  -- MARKB
  have HCI := Lib.hid (chs_of HI2.out (HQ.out _ HB2.out))
  have hsum : (l ++ more).length = l.length + more.length := List.length_append
  rw [hsum] at HSM HBUA
  clear HO1 HB1 HI2 HNA HNG hsz1
  go_wp2_with fail
  -- MARKC
  refine (HSM.out A2 c2 _ HCI.out).mono ?_
  rintro e w3 ⟨sm, rfl, -, hb3⟩
  have HB3 := Lib.hid (HB2.out.trans (hb3.mono HB2.out.size))
  have HC3 := Lib.hid (HCI.out.below hb3)
  clear hb3 HB2 HCI
  cases sm
  ·
    go_wp2_with (go_at_call 10; refine (awake18_any _).mono ?_; rintro e w9 ⟨rfl, HB9⟩)
    go_ret
    exact ⟨rfl, HB3.out.trans (HB9.mono HB3.out.size)⟩
  go_wp2_with fail
  refine (HFW.out _ HB3.out).mono ?_
  rintro e w4 ⟨fb, rfl, hfw, hb4⟩
  have HB4 := Lib.hid (HB3.out.trans (hb4.mono HB3.out.size))
  have HC4 := Lib.hid (HC3.out.below hb4)
  clear hb4 HB3 HC3
  cases fb
  ·
    clear hfw
    go_wp2_with (go_at_call 10; refine (awake18_any _).mono ?_; rintro e w9 ⟨rfl, HB9⟩)
    go_ret
    exact ⟨rfl, HB4.out.trans (HB9.mono HB4.out.size)⟩
  have HFL := Lib.hid (hfw rfl)
  clear hfw
  go_wp2_with fail
  -- MARKD
  refine (HB1A.out _ HB4.out).mono ?_
  rintro e wa ⟨d0, DA0, DB0, da0, db0, rfl, hblt0, hIA0, -, hba⟩
  have hok0 := hblt0.ok
  have hR0 : d0.revs.length ≤ 512 := hok0.few
  have HBa := Lib.hid (HB4.out.trans (hba.mono HB4.out.size))
  have HCa := Lib.hid (HC4.out.below hba)
  clear hba HB4 HC4
  go_wp2_with fail
  refine (HBT.out _ _ _ _ _ _ _ HBa.out hIA0 hR0 hok0.asc (by have := HFL.out.1; omega)).mono ?_
  have HOK := Lib.hid (run_ok hok0.asc hR0 ops (p := p0P) EOk.nil)
  have HHD := Lib.hid (run_head d0.revs ops p0P)
  clear hblt0 hok0 hIA0
  generalize runP d0.revs p0P ops = P0 at *
  rintro e w5 ⟨E1, e1, R1, r1, rfl, hi5, -, hb5⟩
  obtain ⟨pn, pc, pt, ps, L⟩ := P0
  obtain hps : ps = false := HHD.out.2.2.2
  subst hps
  unfold pndV pndC
  dsimp only at hi5 HOK ⊢
  have HM6 : Hid (Bs [(w5.heap.size, 34, [.int .i64 pn, .string pc, .string pt, .bool false, .slice E1 L.length e1, .slice R1 0 r1])] (w5.alloc (.cells [.int .i64 pn, .string pc, .string pt, .bool false, .slice E1 L.length e1, .slice R1 0 r1].toArray 34))) := ⟨Blk.new w5 34 [.int .i64 pn, .string pc, .string pt, .bool false, .slice E1 L.length e1, .slice R1 0 r1], trivial⟩
  have HB6 : Hid (Below w.heap.size w (w5.alloc (.cells [.int .i64 pn, .string pc, .string pt, .bool false, .slice E1 L.length e1, .slice R1 0 r1].toArray 34))) := (HBa.out.trans (hb5.mono HBa.out.size)).alloc (HBa.out.trans (hb5.mono HBa.out.size)).size _
  have HC6 := Lib.hid ((HCa.out.below hb5).below ((Below.refl _ _).alloc (Nat.le_refl _) (.cells [.int .i64 pn, .string pc, .string pt, .bool false, .slice E1 L.length e1, .slice R1 0 r1].toArray 34)))
  have HP6 := Lib.hid (hi5.below ((Below.refl _ _).alloc (Nat.le_refl _) (.cells [.int .i64 pn, .string pc, .string pt, .bool false, .slice E1 L.length e1, .slice R1 0 r1].toArray 34)))
  clear hb5 hi5 HBa HCa HHD HBT HFW
  go_upto_region 5 with fail
  generalize hw6 : World.alloc w5 (.cells #[.int .i64 pn, .string pc, .string pt, .bool false, .slice E1 L.length e1, .slice R1 0 r1] 34) = y6 at *
  clear hw6
  go_wp2_with fail
  -- MARKE
  refine (HBUA.out A2 c2 _ HB6.out HC6.out).mono ?_
  rintro e w6 ⟨d, DA, DB, da, db, rfl, hblt, hIA, -, hb6⟩
  have hok := hblt.ok
  have hRl : d.revs.length ≤ 512 := hok.few
  have HAS := Lib.hid hok.asc
  have HM7 : Hid (Bs [(w6.heap.size, 30, [.slice DA d.revs.length da, .slice DB d.recs.length db]), (w5.heap.size, 34, [.int .i64 pn, .string pc, .string pt, .bool false, .slice E1 L.length e1, .slice R1 0 r1])] (w6.alloc (.cells [.slice DA d.revs.length da, .slice DB d.recs.length db].toArray 30))) := Bs.cons (Blk.new w6 30 [.slice DA d.revs.length da, .slice DB d.recs.length db]) ((HM6.out.below hb6).alloc _)
  have HB7 : Hid (Below w.heap.size w (w6.alloc (.cells [.slice DA d.revs.length da, .slice DB d.recs.length db].toArray 30))) := (HB6.out.trans (hb6.mono HB6.out.size)).alloc (HB6.out.trans (hb6.mono HB6.out.size)).size _
  have HI7 := Lib.hid (hIA.below ((Below.refl _ _).alloc (Nat.le_refl _) (.cells [.slice DA d.revs.length da, .slice DB d.recs.length db].toArray 30)))
  have HP7 := Lib.hid ((HP6.out.below hb6).below ((Below.refl _ _).alloc (Nat.le_refl _) (.cells [.slice DA d.revs.length da, .slice DB d.recs.length db].toArray 30)))
  clear hb6 hIA hblt hok HM6 HB6 HC6 HP6 HBUA
  generalize d.revs = D at *
  generalize d.recs.length = rl at *
  go_upto_region 6 with fail
  generalize hw7 : World.alloc w6 (.cells #[.slice DA D.length da, .slice DB rl db] 30) = w7 at *
  clear hw7
  have HST := Lib.hid (fun y (h : Below w7.heap.size w7 y) => stale_any D ⟨pn, pc, pt, false, L⟩ DA DB E1 R1 da rl db e1 r1 y (HI7.out.below h) (HP7.out.below h) (by have := HOK.out.len; dsimp only; omega) hRl HAS.out)
  have HRS := Lib.hid (fun y (h : Below w7.heap.size w7 y) => rstale_any D ⟨pn, pc, pt, false, L⟩ DA DB E1 R1 da rl db e1 r1 y (HI7.out.below h) (HP7.out.below h) (by have := HOK.out.len; dsimp only; omega) hRl)
  unfold pndV pndC at HST HRS
  dsimp only at HST HRS
  have hll := HOK.out.len
  have hsl := Nat.le_trans (stale_len D L) hll
  generalize staleL D L = SL at *
  have hS : Bs [(w6.heap.size, 30, [.slice DA D.length da, .slice DB rl db]), (w5.heap.size, 34, [.int .i64 pn, .string pc, .string pt, .bool false, .slice E1 L.length e1, .slice R1 0 r1])] w7.drew := (show Bs [(w6.heap.size, 30, [.slice DA D.length da, .slice DB rl db]), (w5.heap.size, 34, [.int .i64 pn, .string pc, .string pt, .bool false, .slice E1 L.length e1, .slice R1 0 r1])] w7 from HM7.out).drew
  have HR7 : Hid (Below w7.heap.size w7 w7.drew) := (Below.refl _ _).drew
  -- MARKF
  (refine wp_region_mix (S := Bs [(w6.heap.size, 30, [.slice DA D.length da, .slice DB rl db]), (w5.heap.size, 34, [.int .i64 pn, .string pc, .string pt, .bool false, .slice E1 L.length e1, .slice R1 0 r1])]) [6, 7] [([0, 1, 3, 4], 2), ([], 5)] (by kernel_rfl) (by kernel_rfl) (by intro c a d v w h; cases d <;> exact h) hS ?_; have hN : Nonempty (Held (Bs [(w6.heap.size, 30, [.slice DA D.length da, .slice DB rl db]), (w5.heap.size, 34, [.int .i64 pn, .string pc, .string pt, .bool false, .slice E1 L.length e1, .slice R1 0 r1])])) := ⟨⟨_, hS⟩⟩)
  obtain ⟨p0, p1, p2, p3, p4, p5⟩ := fun_and6 (fun y : Held (Bs [(w6.heap.size, 30, [.slice DA D.length da, .slice DB rl db]), (w5.heap.size, 34, [.int .i64 pn, .string pc, .string pt, .bool false, .slice E1 L.length e1, .slice R1 0 r1])]) => y.ok.2.1.c6)
  obtain ⟨d0, d1⟩ := fun_and2 (fun y : Held (Bs [(w6.heap.size, 30, [.slice DA D.length da, .slice DB rl db]), (w5.heap.size, 34, [.int .i64 pn, .string pc, .string pt, .bool false, .slice E1 L.length e1, .slice R1 0 r1])]) => y.ok.1.c2)
  (unfold wpMix wpRd; (repeat (first | simp only [List.filterMap_cons] | simp only [List.filterMap_nil] | simp only [List.getElem?_toArray] | simp only [List.getElem?_cons_zero] | simp only [List.getElem?_cons_succ])); (try dsimp only); change wpQuiet _ _ _ _ (_ :: _ :: _ :: _ :: []) _; (repeat (go_big_quiet_step (fail))); refine wpQuiet_nil ?_; (try dsimp only))
  clear p0 p1 p2 p3 p4 p5 d0 d1
  generalize w7.drew = wq at *
  go_wp2_with fail
  refine (HST.out _ HR7.out).mono ?_
  rintro e w8 ⟨A3, c3, rfl, hi8, hb8⟩
  have HS8 := Lib.hid (hS.below hb8)
  have HR8 := Lib.hid (HR7.out.trans (hb8.mono HR7.out.size))
  have HI8 := Lib.hid hi8
  clear hb8 hi8 hS HR7
  go_wp2_with fail
  refine ⟨HS8.out, ?_⟩
  (unfold wpMix wpRd; (repeat (first | simp only [List.filterMap_cons] | simp only [List.filterMap_nil] | simp only [List.getElem?_toArray] | simp only [List.getElem?_cons_zero] | simp only [List.getElem?_cons_succ])); (try dsimp only); change wpQuiet _ _ _ _ ([]) _; (repeat (go_big_quiet_step (fail))); refine wpQuiet_nil ?_; (try dsimp only))
  ((repeat (first | simp only [List.getElem?_toArray] | simp only [List.getElem?_cons_zero] | simp only [List.getElem?_cons_succ])); (try dsimp only))
  go_wp2_with fail
  refine (HRS.out _ HR8.out).mono ?_
  rintro e w9 ⟨A4, c4, rfl, hi9, hb9⟩
  have HS9 := Lib.hid (HS8.out.below hb9)
  have HR9 := Lib.hid (HR8.out.trans (hb9.mono HR8.out.size))
  have HI9 := Lib.hid (HI8.out.below hb9)
  have HJ9 := Lib.hid hi9
  clear hb9 hi9 HS8 HR8 HI8
  go_wp2_with fail
  refine ⟨HS9.out, ?_⟩
  (unfold wpMix wpRd; (repeat (first | simp only [List.filterMap_cons] | simp only [List.filterMap_nil] | simp only [List.getElem?_toArray] | simp only [List.getElem?_cons_zero] | simp only [List.getElem?_cons_succ])); (try dsimp only); change wpQuiet _ _ _ _ (_ :: _ :: []) _; (repeat (go_big_quiet_step (fail))); refine wpQuiet_nil ?_; (try dsimp only))
  -- MARKG
  go_wp2_with fail
  go_loopw [49] (fun i wr => ∃ k : Nat, i = .int .i64 k ∧ k ≤ SL.length ∧ Hid (Below w9.heap.size w9 wr)) (fun i _ => SL.length - (intOf i).toNat)
  case atStart => exact ⟨0, rfl, Nat.zero_le _, Below.refl _ _⟩
  case round =>
    obtain ⟨k, rfl, hk, HW⟩ := hrel
    by_cases hlt : k < SL.length
    · obtain ⟨b, off, rfl, hbl, hat⟩ := (HI9.out.below HW.out) (by omega)
      obtain ⟨b2, off2, rfl, hbl2, hat2⟩ := (HJ9.out.below HW.out) (by omega)
      have hg := List.getElem?_eq_getElem hlt
      generalize SL[k] = x at *
      have hkn : (k : Int) < (SL.length : Int) := by omega
      have hk0 : (0 : Int) ≤ (k : Int) := by omega
      have hS : Below wr.heap.size wr wr.drew := (Below.refl _ _).drew
      have c0 : ∀ y : Held (Below wr.heap.size wr), y.w.cell? ⟨b, off + k, none⟩ = some (.string x) := fun y => by
        have := (hat.below y.ok hbl).get hg (j := 0) (u := .string x) rfl
        simpa [strK] using this
      have c1 : ∀ y : Held (Below wr.heap.size wr), y.w.cell? ⟨b2, off2 + k, none⟩ = some (.string x) := fun y => by
        have := (hat2.below y.ok hbl2).get hg (j := 0) (u := .string x) rfl
        simpa [strK] using this
      clear hat hat2 hg
      go_upto_region 12 with fail
      -- MARKH
      (refine wp_region_mix (S := Below wr.heap.size wr) [0, 1, 2, 3, 4, 5, 6, 7, 8] [] (by kernel_rfl) (by kernel_rfl) (by intro c a d v w h; cases d <;> exact h) hS ?_; have hN : Nonempty (Held (Below wr.heap.size wr)) := ⟨⟨_, hS⟩⟩)
      generalize hwd : wr.drew = wd at *
      have HD := Lib.hid (HW.out.trans (hS.mono HW.out.size))
      clear hS hwd
      (unfold wpMix wpRd; (repeat (first | simp only [List.filterMap_cons] | simp only [List.filterMap_nil] | simp only [List.getElem?_toArray] | simp only [List.getElem?_cons_zero] | simp only [List.getElem?_cons_succ])); (try dsimp only); change wpQuiet _ _ _ _ (_ :: _ :: _ :: _ :: _ :: _ :: _ :: _ :: _ :: []) _; (repeat (go_big_quiet_step (fail))); refine wpQuiet_nil ?_; (try dsimp only))
      clear c0 c1
      -- MARKI
      go_wp2_with fail
      go_roundw
      case rel => exact ⟨k + 1, by go_num, by omega, HD.out⟩
      case measure => simp [intOf]; omega
    · obtain rfl : k = SL.length := by omega
      have HSX : Hid (Bs [(w6.heap.size, 30, [.slice DA D.length da, .slice DB rl db]), (w5.heap.size, 34, [.int .i64 pn, .string pc, .string pt, .bool false, .slice E1 L.length e1, .slice R1 0 r1])] wr) := HS9.out.below HW.out
      have HRX := Lib.hid (HR9.out.trans (HW.out.mono HR9.out.size))
      have HPX := Lib.hid (HP7.out.below HRX.out)
      have HBX := Lib.hid (HB7.out.trans (HRX.out.mono HB7.out.size))
      obtain ⟨p0, p1, p2, p3, p4, p5⟩ := HSX.out.2.1.c6
      have HCH := Lib.hid (change_any ⟨pn, pc, pt, false, L⟩ num E1 R1 e1 r1 wr HPX.out (by dsimp only; omega))
      unfold pndV pndC at HCH
      dsimp only at HCH
      go_wp2_with fail
      -- MARKJ
      refine HCH.out.mono ?_
      rintro e wc ⟨E2, R2, e2, r2, rfl, hic, hbc⟩
      dsimp only at hic ⊢
      have hbx : Below wc.heap.size wc (wc.alloc (.cells [.int .i64 num, .string pc, .string pt, .slice E2 L.length e2, .slice R2 0 r2].toArray 44)) := (Below.refl _ _).alloc (Nat.le_refl _) _
      have HMC : Hid (Bs [(wc.heap.size, 44, [.int .i64 num, .string pc, .string pt, .slice E2 L.length e2, .slice R2 0 r2]), (w6.heap.size, 30, [.slice DA D.length da, .slice DB rl db]), (w5.heap.size, 34, [.int .i64 pn, .string pc, .string pt, .bool false, .slice E1 L.length e1, .slice R1 0 r1])] (wc.alloc (.cells [.int .i64 num, .string pc, .string pt, .slice E2 L.length e2, .slice R2 0 r2].toArray 44))) := Bs.cons (Blk.new wc 44 [.int .i64 num, .string pc, .string pt, .slice E2 L.length e2, .slice R2 0 r2]) ((HSX.out.below hbc).alloc _)
      have HBC : Hid (Below w.heap.size w (wc.alloc (.cells [.int .i64 num, .string pc, .string pt, .slice E2 L.length e2, .slice R2 0 r2].toArray 44))) := (HBX.out.trans (hbc.mono HBX.out.size)).alloc (HBX.out.trans (hbc.mono HBX.out.size)).size _
      have HPC := Lib.hid ((HPX.out.below hbc).below hbx)
      have HQC := Lib.hid (hic.below hbx)
      clear hbc hic hbx HSX HPX HBX p0 p1 p2 p3 p4 p5 HCH
      go_upto_region 16 with fail
      generalize hw12 : World.alloc wc (.cells #[.int .i64 num, .string pc, .string pt, .slice E2 L.length e2, .slice R2 0 r2] 44) = w12 at *
      clear hw12
      obtain ⟨p0, p1, p2, p3, p4, p5⟩ := HMC.out.2.2.1.c6
      obtain ⟨g0, g1, g2, g3, g4⟩ := HMC.out.1.c5
      have hbx : Below w12.heap.size w12 (w12.alloc (.cells [.int .i64 pn, .string pc, .string pt, .bool false, .slice E2 L.length e2, .slice R2 0 r2].toArray 34)) := (Below.refl _ _).alloc (Nat.le_refl _) _
      have HMQ : Hid (Bs [(w12.heap.size, 34, [.int .i64 pn, .string pc, .string pt, .bool false, .slice E2 L.length e2, .slice R2 0 r2]), (wc.heap.size, 44, [.int .i64 num, .string pc, .string pt, .slice E2 L.length e2, .slice R2 0 r2]), (w6.heap.size, 30, [.slice DA D.length da, .slice DB rl db]), (w5.heap.size, 34, [.int .i64 pn, .string pc, .string pt, .bool false, .slice E1 L.length e1, .slice R1 0 r1])] (w12.alloc (.cells [.int .i64 pn, .string pc, .string pt, .bool false, .slice E2 L.length e2, .slice R2 0 r2].toArray 34))) := Bs.cons (Blk.new w12 34 [.int .i64 pn, .string pc, .string pt, .bool false, .slice E2 L.length e2, .slice R2 0 r2]) (HMC.out.alloc _)
      have HBQ : Hid (Below w.heap.size w (w12.alloc (.cells [.int .i64 pn, .string pc, .string pt, .bool false, .slice E2 L.length e2, .slice R2 0 r2].toArray 34))) := HBC.out.alloc HBC.out.size _
      have HPQ := Lib.hid (HPC.out.below hbx)
      have HQQ := Lib.hid (HQC.out.below hbx)
      clear hbx
      go_upto_region 17 with fail
      generalize hw13 : World.alloc w12 (.cells #[.int .i64 pn, .string pc, .string pt, .bool false, .slice E2 L.length e2, .slice R2 0 r2] 34) = w13 at *
      clear hw13 HMC HBC HPC HQC p0 p1 p2 p3 p4 p5 g0 g1 g2 g3 g4
      have HSM2 := Lib.hid (rsame_any ⟨pn, pc, pt, false, L⟩ E1 R1 E2 R2 e1 r1 e2 r2 w13 HPQ.out HQQ.out (by dsimp only; omega))
      unfold pndV pndC at HSM2
      dsimp only at HSM2
      obtain ⟨p0, p1, p2, p3, p4, p5⟩ := HMQ.out.2.2.2.1.c6
      obtain ⟨g0, g1, g2, g3, g4⟩ := HMQ.out.2.1.c5
      obtain ⟨q0, q1, q2, q3, q4, q5⟩ := HMQ.out.1.c6
      -- MARKK
      go_wp2_with fail
      refine HSM2.out.mono ?_
      rintro e w14 ⟨rfl, hb14⟩
      have HBE := Lib.hid (HBQ.out.trans (hb14.mono HBQ.out.size))
      clear hb14 HSM2 p0 p1 p2 p3 p4 p5 g0 g1 g2 g3 g4 q0 q1 q2 q3 q4 q5
      go_wp2_with (go_at_call 10; refine (awake18_any _).mono ?_; rintro e w9 ⟨rfl, HB9⟩)
      go_ret
      exact ⟨rfl, HBE.out.trans (HB9.mono HBE.out.size)⟩
end Go.Proofs.YtocffknoeknabaaDoor
