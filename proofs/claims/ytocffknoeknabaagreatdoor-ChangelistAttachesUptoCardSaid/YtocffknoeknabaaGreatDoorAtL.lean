/-
  ChangelistAttaches returns true for all changes, calls, edits and records whose texts are not longer than 1048576 bytes; what was in memory before the call stays as it was (printed by mkatl.py).
-/
import Derived.Test.YtocffknoeknabaaGreatDoorAtR
import Derived.Test.YtocffknoeknabaaGreatDoorAtE
import Derived.Test.YtocffknoeknabaaGreatDoorCgK
import Derived.Test.YtocffknoeknabaaGreatDoorCgJ
import Derived.Test.YtocffknoeknabaaGreatDoorCgH
namespace Go.Proofs.YtocffknoeknabaaGreatDoor
open Go.RowKit

/-! Changes in memory, one by one. -/
abbrev Ch5 := { cs : List Value // cs.length = 5 ∧ ∀ u ∈ cs, u.oneCell' = true }
def chK : RowK Ch5 := ⟨fun x => x.1, 5, by decide, fun x => x.2.1, fun x u hu => x.2.2 u hu⟩
def ChQ (cs : List Value) (c : Chg) (w : World) : Prop := ∃ (E : Option Addr) (ec : Nat) (R : Option Addr) (rc : Nat), cs = [.int .i64 c.num, .string c.client, .string c.text, .slice E c.edits.length ec, .slice R c.recs.length rc] ∧ edtK.In E c.edits w ∧ rcdK.In R c.recs w
theorem ChQ.below {cs : List Value} {c : Chg} {w w' : World} (h : ChQ cs c w) (hb : Below w.heap.size w w') : ChQ cs c w' := by
  obtain ⟨E, ec, R, rc, h1, h2, h3⟩ := h
  exact ⟨E, ec, R, rc, h1, h2.below hb, h3.below hb⟩
def ChR (rs : List Ch5) (l : List Chg) (w : World) : Prop := rs.length = l.length ∧ ∀ (i : Nat) (c : Chg) (r : Ch5), l[i]? = some c → rs[i]? = some r → ChQ r.1 c w
theorem ChR.below {rs : List Ch5} {l : List Chg} {w w' : World} (h : ChR rs l w) (hb : Below w.heap.size w w') : ChR rs l w' := ⟨h.1, fun i c r h1 h2 => (h.2 i c r h1 h2).below hb⟩
theorem ChR.append {rs rs' : List Ch5} {l l' : List Chg} {w : World} (h : ChR rs l w) (h' : ChR rs' l' w) : ChR (rs ++ rs') (l ++ l') w := by
  refine ⟨by rw [List.length_append, List.length_append, h.1, h'.1], fun i c r h1 h2 => ?_⟩
  by_cases hi : i < l.length
  · rw [List.getElem?_append_left hi] at h1
    rw [List.getElem?_append_left (by rw [h.1]; exact hi)] at h2
    exact h.2 i c r h1 h2
  · rw [List.getElem?_append_right (by omega)] at h1
    rw [List.getElem?_append_right (by rw [h.1]; omega), h.1] at h2
    exact h'.2 _ c r h1 h2
theorem chs_go {b : Nat} {w : World} : ∀ (l : List Chg) (off : Nat), (∀ i c, l[i]? = some c → ChAt w b (off + i * 5) c) → ∃ rs : List Ch5, chK.At b off rs w ∧ ChR rs l w
  | [], off, _ => ⟨[], (fun j u hu => by simp [RowK.flat] at hu), rfl, fun i c r h1 _ => by simp at h1⟩
  | x :: r, off, h => by
    obtain ⟨rs, hat, hr⟩ := chs_go r (off + 5) (fun i c hc => by
      have := h (i + 1) c (by simpa using hc)
      rwa [show off + (i + 1) * 5 = off + 5 + i * 5 by omega] at this)
    obtain ⟨E, ec, R, rc, ⟨h0, h1, h2, h3, h4⟩, h5, h6⟩ := h 0 x rfl
    simp only [Nat.zero_mul, Nat.add_zero] at h0 h1 h2 h3 h4
    have hone : ∀ u ∈ ([.int .i64 x.num, .string x.client, .string x.text, .slice E x.edits.length ec, .slice R x.recs.length rc] : List Value), u.oneCell' = true := by
      intro u hu
      simp only [List.mem_cons, List.not_mem_nil, or_false] at hu
      rcases hu with rfl | rfl | rfl | rfl | rfl <;> rfl
    refine ⟨⟨_, rfl, hone⟩ :: rs, fun j u hu => ?_, by simp [hr.1], fun i c q hc hq => ?_⟩
    · have hu' : ([.int .i64 x.num, .string x.client, .string x.text, .slice E x.edits.length ec, .slice R x.recs.length rc] ++ chK.flat rs : List Value)[j]? = some u := hu
      by_cases hj : j < 5
      · rw [List.getElem?_append_left (by simpa using hj)] at hu'
        have : j = 0 ∨ j = 1 ∨ j = 2 ∨ j = 3 ∨ j = 4 := by omega
        rcases this with rfl | rfl | rfl | rfl | rfl
        · exact h0.trans hu'
        · exact h1.trans hu'
        · exact h2.trans hu'
        · exact h3.trans hu'
        · exact h4.trans hu'
      · rw [List.getElem?_append_right (by simp; omega)] at hu'
        have := hat (j - 5) u (by simpa using hu')
        rwa [show off + 5 + (j - 5) = off + j by omega] at this
    · cases i with
      | zero =>
        simp only [List.getElem?_cons_zero, Option.some.injEq] at hc hq
        subst hc hq
        exact ⟨E, ec, R, rc, rfl, h5, h6⟩
      | succ i =>
        rw [List.getElem?_cons_succ] at hc hq
        exact hr.2 i c q hc hq
theorem chs_rows {A : Option Addr} {l : List Chg} {w : World} (h : ChsIn A l w) : ∃ rs : List Ch5, chK.In A rs w ∧ ChR rs l w := by
  by_cases h0 : 0 < l.length
  · obtain ⟨b, off, e, hl, hc⟩ := h h0
    obtain ⟨rs, hat, hr⟩ := chs_go l off hc
    exact ⟨rs, fun _ => ⟨b, off, e, hl, hat⟩, hr⟩
  · obtain rfl : l = [] := List.length_eq_zero_iff.1 (by omega)
    exact ⟨[], RowK.In.nil _ _, rfl, fun i c r h1 _ => by simp at h1⟩
theorem chs_of {A : Option Addr} {rs : List Ch5} {l : List Chg} {w : World} (h : chK.In A rs w) (hr : ChR rs l w) : ChsIn A l w := fun h0 => by
  obtain ⟨b, off, e, hl, hat⟩ := h (by rw [hr.1]; exact h0)
  refine ⟨b, off, e, hl, fun i c hc => ?_⟩
  have hi : i < rs.length := by rw [hr.1]; exact (List.getElem?_eq_some_iff.1 hc).1
  obtain ⟨E, ec, R, rc, hq, h5, h6⟩ := hr.2 i c _ hc (List.getElem?_eq_getElem hi)
  have hg := fun j u (hu : (chK.cells rs[i])[j]? = some u) => hat.get (List.getElem?_eq_getElem hi) hu
  have hq' : chK.cells rs[i] = _ := hq
  rw [hq'] at hg
  have e5 : chK.n = 5 := rfl
  have g0 := hg 0 _ rfl
  have g1 := hg 1 _ rfl
  have g2 := hg 2 _ rfl
  have g3 := hg 3 _ rfl
  have g4 := hg 4 _ rfl
  rw [e5] at g0 g1 g2 g3 g4
  exact ⟨E, ec, R, rc, ⟨g0, g1, g2, g3, g4⟩, h5, h6⟩
def zeroCh : Value := .agg #[.int .i64 0, .string ⟨#[]⟩, .string ⟨#[]⟩, .slice none 0 0, .slice none 0 0]
theorem Tryz.infoChg18 : (Tryz.prog.info? 52).map (fun i => (i.zero, i.size, i.bytes)) = some (some zeroCh, 5, 88) := by kernel_rfl
theorem insOuter_sz {α : Type} [Inhabited α] (lt : α → α → Bool) (a b : Nat) : ∀ (k i : Nat) (d : Array α), b - i = k → (Sort.insOuter lt a b i d).size = d.size
  | 0, i, d, h => by rw [insOuter_stop _ _ _ _ _ (by omega)]
  | k + 1, i, d, h => by rw [insOuter_go _ _ _ _ _ (by omega), insOuter_sz lt a b k (i + 1) _ (by omega), insInner_size]
theorem sortR_len (Q : List Rcd) : (sortR Q).length = Q.length := by
  unfold sortR
  rw [Array.length_toList, insOuter_sz _ _ _ _ _ _ rfl]
  simp
theorem addE_len : ∀ (X E : List Edt), (addE E X).length = E.length + X.length
  | [], E => rfl
  | x :: r, E => by
    show (addE (insE E x) r).length = _
    rw [addE_len r, ins_len, List.length_cons]
    omega
theorem att_len (p : Pnd) (X : List Edt) (Q : List Rcd) : (attP p X Q).2.1.length ≤ p.edits.length + X.length ∧ (attP p X Q).2.2.1.length ≤ Q.length := by
  unfold attP
  split
  · simp
  · split
    · simp
    · simp [addE_len, sortR_len]
theorem new_cells (w : World) (T : TypeId) (cs : List Value) (j : Nat) (u : Value) (h : cs[j]? = some u) : (w.alloc (.cells cs.toArray T)).cell? ((⟨w.heap.size, 0, none⟩ : Addr).add j) = some u := by
  rw [← h, ← (Blk.new w T cs).cell j]
  cases j with
  | zero => rfl
  | succ j => simp [Addr.add]
theorem small_last {l : List Chg} {X : List Edt} {Q : List Rcd} (h : SmallL (l ++ [(⟨0, ⟨#[]⟩, ⟨#[]⟩, X, Q⟩ : Chg)]))
    : X.length + Q.length ≤ 200 := by
  have h1 := h.2.1
  rw [List.map_append, List.sum_append] at h1
  have h2 : ChN (⟨0, ⟨#[]⟩, ⟨#[]⟩, X, Q⟩ : Chg) = X.length + Q.length := rfl
  simp only [List.map_cons, List.map_nil, List.sum_cons, List.sum_nil] at h1
  omega
set_option maxRecDepth 100000 in
set_option maxHeartbeats 12800000 in
theorem attaches_any (l : List Chg) (ops : List Opr) (X : List Edt) (Q : List Rcd) (A F G H : Option Addr) (ca fc gc hc : Nat) (w : World) (hA : ChsIn A l w) (hF : oprK.In F ops w) (hG : edtK.In G X w) (hH : rcdK.In H Q w) (hb : ChBnd (l ++ [(⟨0, ⟨#[]⟩, ⟨#[]⟩, X, Q⟩ : Chg)])) (hn : ops.length ≤ 1048576) (ho : ∀ o ∈ ops, o.s.size ≤ 1048576 ∧ o.t.size ≤ 1048576) (hgc : X.length ≤ gc) (hg : G0 w) :
    Calls Tryz.prog 4 #[.slice A l.length ca, .slice F ops.length fc, .slice G X.length gc, .slice H Q.length hc] w fun e w' => e = .returned (.bool true) ∧ Below w.heap.size w w' := by
  obtain ⟨ra, hra, hqa⟩ := chs_rows hA
  obtain ⟨i0, hi0, hz0, hz1, hz2⟩ := info_parts Tryz.infoChg18
  have hla := hqa.1
  have hlen := hb.len
  rw [List.length_append, List.length_singleton] at hlen
  have HXS := Lib.hid (fun x (hx : x ∈ X) => (hb.edits (⟨0, ⟨#[]⟩, ⟨#[]⟩, X, Q⟩ : Chg) (by simp) x hx).1)
  have HQS := Lib.hid (fun r (hr : r ∈ Q) => hb.recs (⟨0, ⟨#[]⟩, ⟨#[]⟩, X, Q⟩ : Chg) (by simp) r hr)
  have HQA := Lib.hid (fun x (hx : Below w.heap.size w x) => hqa.below hx)
  have HNA := Lib.hid hra.news
  have HSM := Lib.hid (fun A c x hx => rsmall_any (l ++ [(⟨0, ⟨#[]⟩, ⟨#[]⟩, X, Q⟩ : Chg)]) A c x hx hb)
  have HBU := Lib.hid (fun x (hx : Below w.heap.size w x) => rbuild_any l A ca x (hA.below hx) (by omega) (fun c hc => hb.sz (List.mem_append_left _ hc)) (hg.below hx))
  have HFW := Lib.hid (fun x (hx : Below w.heap.size w x) => few_any ops F fc x (hF.below hx) hn ho)
  have HBT := Lib.hid (fun d A B ca nb cb x (hx : Below w.heap.size w x) h1 h2 h3 h4 => built_any d ops A B F ca nb cb fc x h1 (hF.below hx) h2 h3 h4 ho (hg.below hx))
  have HGI := Lib.hid hG
  have HHI := Lib.hid hH
  have HG0 := Lib.hid hg
  clear hA hb hF hn ho hg hra hqa hG hH
  have hsum : (l ++ [(⟨0, ⟨#[]⟩, ⟨#[]⟩, X, Q⟩ : Chg)]).length = l.length + 1 := by rw [List.length_append, List.length_singleton]
  rw [hsum] at HSM
  clear hsum
  go_enter Tryz.func4, Tryz.ntmps4
  -- MARKA
  go_wp2_with (at_builtin; first
    | (refine wpList_append_any rfl _ _ 22 rfl w.heap.size 52 i0 zeroCh 5 88 Tryz.underlying22 hi0 hz0 hz1 hz2 rfl (by decide) (.slice none 0 0) 0 [] rfl ⟨rfl, .inl ⟨rfl, rfl⟩⟩ A l.length ca (chK.flat ra) rfl (by rw [chK.flat_len, hla]; rfl) (fun h => HNA.out (by rw [hla]; exact h)) (chK.flat_ones ra) (by unfold maxLen; omega) (by omega) (Nat.le_refl _) ?_; intro v1 w1 ho1 hg1; simp only [Nat.zero_add, List.nil_append] at ho1; obtain ⟨A1, c1, rfl⟩ := own_slice ho1; have HO1 := Lib.hid (ho1.alloc (.cells [.int .i64 0, .string ⟨#[]⟩, .string ⟨#[]⟩, .slice G X.length gc, .slice H Q.length hc].toArray 52)); have HBA := Lib.hid ((Below.refl w.heap.size w).grown hg1 (Nat.le_refl _) (fun j e => by cases e)); have HB1 := Lib.hid (HBA.out.alloc HBA.out.size (.cells [.int .i64 0, .string ⟨#[]⟩, .string ⟨#[]⟩, .slice G X.length gc, .slice H Q.length hc].toArray 52)); have HNC := Lib.hid (new_cells w1 52 [.int .i64 0, .string ⟨#[]⟩, .string ⟨#[]⟩, .slice G X.length gc, .slice H Q.length hc]); have hsz1 := HB1.out.size; clear ho1 hg1 HBA)
    | (go_loud (refine wpList_append_any rfl _ _ 22 rfl w.heap.size 52 i0 zeroCh 5 88 Tryz.underlying22 hi0 hz0 hz1 hz2 rfl (by decide) (.slice A1 l.length c1) l.length (chK.flat ra) rfl HO1.out (some ⟨w1.heap.size, 0, none⟩) 1 1 [.int .i64 0, .string ⟨#[]⟩, .string ⟨#[]⟩, .slice G X.length gc, .slice H Q.length hc] rfl rfl (fun _ => ⟨_, rfl, HNC.out⟩) (by intro u hu; simp only [List.mem_cons, List.not_mem_nil, or_false] at hu; rcases hu with rfl | rfl | rfl | rfl | rfl <;> rfl) (by unfold maxLen; omega) (by omega) hsz1 ?_); intro v2 w2 ho2 hg2; obtain ⟨A2, c2, rfl⟩ := own_slice ho2; have HO2 := Lib.hid ho2; have HB2 := Lib.hid (HB1.out.grown hg2 HB1.out.size (fun j e => (HO1.out.lt j e).1)); clear ho2 hg2))
  -- MARKB
  have HCI : Hid (ChsIn A2 (l ++ [(⟨0, ⟨#[]⟩, ⟨#[]⟩, X, Q⟩ : Chg)]) w2) := by
    have hone : ∀ u ∈ ([.int .i64 0, .string ⟨#[]⟩, .string ⟨#[]⟩, .slice G X.length gc, .slice H Q.length hc] : List Value), u.oneCell' = true := by
      intro u hu
      simp only [List.mem_cons, List.not_mem_nil, or_false] at hu
      rcases hu with rfl | rfl | rfl | rfl | rfl <;> rfl
    have h1 := HO2.out
    have h2 : chK.flat ra ++ ([.int .i64 0, .string ⟨#[]⟩, .string ⟨#[]⟩, .slice G X.length gc, .slice H Q.length hc] : List Value) = chK.flat (ra ++ [⟨[.int .i64 0, .string ⟨#[]⟩, .string ⟨#[]⟩, .slice G X.length gc, .slice H Q.length hc], rfl, hone⟩]) := by rw [chK.flat_append]; rfl
    rw [h2] at h1
    have h3 : ChR [(⟨[.int .i64 0, .string ⟨#[]⟩, .string ⟨#[]⟩, .slice G X.length gc, .slice H Q.length hc], rfl, hone⟩ : Ch5)] [(⟨0, ⟨#[]⟩, ⟨#[]⟩, X, Q⟩ : Chg)] w2 := ⟨rfl, fun i c r hc hr => by
      cases i with
      | zero =>
        simp only [List.getElem?_cons_zero, Option.some.injEq] at hc hr
        subst hc hr
        exact ⟨G, gc, H, hc, rfl, HGI.out.below HB2.out, HHI.out.below HB2.out⟩
      | succ i => simp at hc⟩
    have hl2 : (ra ++ [(⟨[.int .i64 0, .string ⟨#[]⟩, .string ⟨#[]⟩, .slice G X.length gc, .slice H Q.length hc], rfl, hone⟩ : Ch5)]).length = l.length + 1 := by rw [List.length_append, List.length_singleton, hla]
    rw [← hl2] at h1
    exact chs_of (RowK.In.of_row (R := chK) h1) ((HQA.out _ HB2.out).append h3)
  clear HO1 HB1 HO2 HNC HNA hsz1
  refine (HSM.out A2 c2 _ HCI.out).mono ?_
  rintro e w3 ⟨sm, rfl, hsm, hb3⟩
  have HB3 := Lib.hid (HB2.out.trans (hb3.mono HB2.out.size))
  clear hb3 HB2 HCI
  cases sm
  · clear hsm
    go_wp2_with (go_at_call 8; refine (awake18_any _).mono ?_; rintro e w9 ⟨rfl, HB9⟩)
    go_ret
    exact ⟨rfl, HB3.out.trans (HB9.mono HB3.out.size)⟩
  have HSL := Lib.hid (small_last (hsm rfl))
  have hxl : X.length ≤ 200 := by have := HSL.out; omega
  have hql : Q.length ≤ 200 := by have := HSL.out; omega
  clear hsm
  go_wp2_with fail
  refine (HFW.out _ HB3.out).mono ?_
  rintro e w4 ⟨fb, rfl, hfw, hb4⟩
  have HB4 := Lib.hid (HB3.out.trans (hb4.mono HB3.out.size))
  clear hb4 HB3
  cases fb
  · clear hfw
    go_wp2_with (go_at_call 8; refine (awake18_any _).mono ?_; rintro e w9 ⟨rfl, HB9⟩)
    go_ret
    exact ⟨rfl, HB4.out.trans (HB9.mono HB4.out.size)⟩
  have HFL := Lib.hid (hfw rfl)
  clear hfw
  go_wp2_with fail
  -- MARKC
  go_loopw [35] (fun i wr => ∃ k : Nat, i = .int .i64 k ∧ k ≤ X.length ∧ Hid (Below w.heap.size w wr) ∧ Hid (∀ x ∈ X.take k, validB x.path.data.toList = true)) (fun i _ => X.length - (intOf i).toNat)
  case atStart => exact ⟨0, rfl, Nat.zero_le _, HB4.out, fun x hx => by simp at hx⟩
  case round =>
    obtain ⟨k, rfl, hk, HB, HV⟩ := hrel
    clear HB4
    by_cases hlt : k < X.length
    · obtain ⟨g, off, rfl, hgl, hat⟩ := HGI.out (by omega)
      have hgk := List.getElem?_eq_getElem hlt
      have htk : X.take (k + 1) = X.take k ++ [X[k]] := by rw [List.take_succ_eq_append_getElem hlt]
      have hxs := HXS.out _ (List.getElem_mem hlt)
      generalize hqv : X[k] = v at *
      obtain ⟨xp, xa, ⟨tb, tk, te, tx⟩, ⟨cs, cz⟩, xb, xs, xm, xf⟩ := v
      have HTK := Lib.hid htk
      have HVA := Lib.hid (fun x => valid_any xp x (by dsimp only at hxs; omega))
      have hat := hat.below HB.out hgl
      (have hcv := fun j (u : Value) (hj : ((⟨xp, xa, ⟨tb, tk, te, tx⟩, ⟨cs, cz⟩, xb, xs, xm, xf⟩ : Edt)).cells[j]? = some u) => ((hat).get hgk hj); have c0 := hcv 0 _ rfl; have c1 := hcv 1 _ rfl; have c2 := hcv 2 _ rfl; have c3 := hcv 3 _ rfl; have c4 := hcv 4 _ rfl; have c5 := hcv 5 _ rfl; have c6 := hcv 6 _ rfl; have c7 := hcv 7 _ rfl; have c8 := hcv 8 _ rfl; have c9 := hcv 9 _ rfl; have c10 := hcv 10 _ rfl; have c11 := hcv 11 _ rfl; have e12 : edtK.n = 12 := rfl; simp only [e12, Nat.add_zero] at c0 c1 c2 c3 c4 c5 c6 c7 c8 c9 c10 c11; clear hcv e12)
      have hb4 := (Below.refl wr.heap.size wr).alloc (Nat.le_refl _) (.cells [.string xp, .int .i64 xa, .int .i64 tb, .bool tk, .bool te, .bool tx, .int .u64 cs, .int .i64 cz, .int .i64 xb, .string xs, .int .i64 xm, .int .i64 xf].toArray 44)
      have HB5 := Lib.hid (HB.out.trans (hb4.mono HB.out.size))
      have HX5 := Lib.hid (Blk.new wr 44 [.string xp, .int .i64 xa, .int .i64 tb, .bool tk, .bool te, .bool tx, .int .u64 cs, .int .i64 cz, .int .i64 xb, .string xs, .int .i64 xm, .int .i64 xf])
      clear hat hgk hqv hb4 HB htk hxs
      go_upto_region 6 with fail
      generalize World.alloc wr _ = w5 at *
      generalize wr.heap.size = eb at *
      clear c0 c1 c2 c3 c4 c5 c6 c7 c8 c9 c10 c11
      have e0 := HX5.out.cell 0
      cases hv : validB xp.data.toList
      · rw [hv] at HVA
        clear hv
        go_wp2_with (first | (go_at_call 14; refine (HVA.out _).mono ?_; rintro e _ ⟨rfl, rfl⟩) | (go_at_call 8; refine (awake18_any _).mono ?_; rintro e w9 ⟨rfl, HB9⟩))
        go_ret
        exact ⟨rfl, HB5.out.trans (HB9.mono HB5.out.size)⟩
      · rw [hv] at HVA
        have HV2 : Hid (∀ x ∈ X.take (k + 1), validB x.path.data.toList = true) := fun x hx => by
          rw [HTK.out] at hx
          rcases List.mem_append.1 hx with hx | hx
          · exact HV.out x hx
          · rw [List.mem_singleton] at hx
            subst hx
            exact hv
        clear hv
        go_wp2_with (go_at_call 14; refine (HVA.out _).mono ?_; rintro e _ ⟨rfl, rfl⟩)
        go_roundw
        case rel => exact ⟨k + 1, by go_num, by omega, HB5.out, HV2⟩
        case measure => simp [intOf]; omega
    · obtain rfl : k = X.length := by omega
      have HVX : Hid (∀ x ∈ X, validB x.path.data.toList = true) := by
        have h := HV.out
        rw [List.take_length] at h
        exact h
      clear HV
      go_wp2_with fail
      -- MARKD
      go_loopw [47] (fun i wr => ∃ k : Nat, i = .int .i64 k ∧ k ≤ Q.length ∧ Hid (Below w.heap.size w wr) ∧ Hid (∀ r ∈ Q.take k, validB r.src.data.toList = true ∧ validB r.dst.data.toList = true)) (fun i _ => Q.length - (intOf i).toNat)
      case atStart => exact ⟨0, rfl, Nat.zero_le _, HB.out, fun x hx => by simp at hx⟩
      case round =>
        obtain ⟨k, rfl, hk, HB, HV⟩ := hrel
        by_cases hlt : k < Q.length
        · obtain ⟨g, off, rfl, hgl, hat⟩ := HHI.out (by omega)
          have hgk := List.getElem?_eq_getElem hlt
          have htk : Q.take (k + 1) = Q.take k ++ [Q[k]] := by rw [List.take_succ_eq_append_getElem hlt]
          have hxs := HQS.out _ (List.getElem_mem hlt)
          generalize hqv : Q[k] = v at *
          obtain ⟨yp, ya, yb, yq, yc, yd⟩ := v
          have HTK := Lib.hid htk
          have HVA := Lib.hid (fun x => valid_any yp x (by dsimp only at hxs; omega))
          have HVB := Lib.hid (fun x => valid_any yq x (by dsimp only at hxs; omega))
          have hat := hat.below HB.out hgl
          (have hcv := fun j (u : Value) (hj : ((⟨yp, ya, yb, yq, yc, yd⟩ : Rcd)).cells[j]? = some u) => ((hat).get hgk hj); have c0 := hcv 0 _ rfl; have c1 := hcv 1 _ rfl; have c2 := hcv 2 _ rfl; have c3 := hcv 3 _ rfl; have c4 := hcv 4 _ rfl; have c5 := hcv 5 _ rfl; have e12 : rcdK.n = 6 := rfl; simp only [e12, Nat.add_zero] at c0 c1 c2 c3 c4 c5; clear hcv e12)
          have hb4 := (Below.refl wr.heap.size wr).alloc (Nat.le_refl _) (.cells [.string yp, .int .i64 ya, .int .i64 yb, .string yq, .int .i64 yc, .int .i64 yd].toArray 55)
          have HB5 := Lib.hid (HB.out.trans (hb4.mono HB.out.size))
          have HX5 := Lib.hid (Blk.new wr 55 [.string yp, .int .i64 ya, .int .i64 yb, .string yq, .int .i64 yc, .int .i64 yd])
          clear hat hgk hqv hb4 HB htk hxs
          go_upto_region 12 with fail
          generalize World.alloc wr _ = w5 at *
          generalize wr.heap.size = eb at *
          clear c0 c1 c2 c3 c4 c5
          have e0 := HX5.out.cell 0
          have e3 := HX5.out.cell 3
          -- MARKE
          cases hv : validB yp.data.toList
          · rw [hv] at HVA
            clear hv
            go_wp2_with (first | (go_at_call 14; refine (HVA.out _).mono ?_; rintro e _ ⟨rfl, rfl⟩) | (go_at_call 8; refine (awake18_any _).mono ?_; rintro e w9 ⟨rfl, HB9⟩))
            go_ret
            exact ⟨rfl, HB5.out.trans (HB9.mono HB5.out.size)⟩
          rw [hv] at HVA
          have HY1 := Lib.hid hv
          clear hv
          cases hv : validB yq.data.toList
          · rw [hv] at HVB
            clear hv
            go_wp2_with (first | (go_at_call 14; refine (HVA.out _).mono ?_; rintro e _ ⟨rfl, rfl⟩; clear HVA) | (go_at_call 14; refine (HVB.out _).mono ?_; rintro e _ ⟨rfl, rfl⟩) | (go_at_call 8; refine (awake18_any _).mono ?_; rintro e w9 ⟨rfl, HB9⟩))
            go_ret
            exact ⟨rfl, HB5.out.trans (HB9.mono HB5.out.size)⟩
          rw [hv] at HVB
          have HV2 : Hid (∀ r ∈ Q.take (k + 1), validB r.src.data.toList = true ∧ validB r.dst.data.toList = true) := fun x hx => by
            rw [HTK.out] at hx
            rcases List.mem_append.1 hx with hx | hx
            · exact HV.out x hx
            · rw [List.mem_singleton] at hx
              subst hx
              exact ⟨HY1.out, hv⟩
          clear hv
          go_wp2_with (first | (go_at_call 14; refine (HVA.out _).mono ?_; rintro e _ ⟨rfl, rfl⟩; clear HVA) | (go_at_call 14; refine (HVB.out _).mono ?_; rintro e _ ⟨rfl, rfl⟩))
          go_roundw
          case rel => exact ⟨k + 1, by go_num, by omega, HB5.out, HV2⟩
          case measure => simp [intOf]; omega
        · obtain rfl : k = Q.length := by omega
          have HVQ : Hid (∀ r ∈ Q, validB r.src.data.toList = true ∧ validB r.dst.data.toList = true) := by
            have h := HV.out
            rw [List.take_length] at h
            exact h
          clear HV
          -- MARKF
          go_wp2_with fail
          refine (HBU.out _ HB.out).mono ?_
          rintro e wa ⟨d0, DA0, DB0, da0, db0, rfl, hblt0, hIA0, -, hba⟩
          have hok0 := hblt0.ok
          have hR0 : d0.revs.length ≤ 512 := hok0.few
          have HBa := Lib.hid (HB.out.trans (hba.mono HB.out.size))
          clear hba HB
          go_wp2_with fail
          refine (HBT.out _ _ _ _ _ _ _ HBa.out hIA0 hR0 hok0.asc (by have := HFL.out.1; omega)).mono ?_
          have HOK := Lib.hid (run_ok hok0.asc hR0 ops (p := p0P) EOk.nil)
          have HHD := Lib.hid (run_head d0.revs ops p0P)
          clear hblt0 hok0 hIA0
          generalize runP d0.revs p0P ops = P0 at *
          rintro e w5 ⟨E1, e1, R1, r1, rfl, hi5, -, hb5⟩
          obtain ⟨pn, pc, pt, ps, L⟩ := P0
          obtain hps : ps = false := HHD.out.2.2.2
          subst hps
          unfold pndV pndC
          dsimp only at hi5 HOK ⊢
          have hb6 := (Below.refl w5.heap.size w5).alloc (Nat.le_refl _) (.cells [.int .i64 pn, .string pc, .string pt, .bool false, .slice E1 L.length e1, .slice R1 0 r1].toArray 41)
          have HM6 : Hid (Bs [(w5.heap.size, 41, [.int .i64 pn, .string pc, .string pt, .bool false, .slice E1 L.length e1, .slice R1 0 r1])] (w5.alloc (.cells [.int .i64 pn, .string pc, .string pt, .bool false, .slice E1 L.length e1, .slice R1 0 r1].toArray 41))) := ⟨Blk.new w5 41 [.int .i64 pn, .string pc, .string pt, .bool false, .slice E1 L.length e1, .slice R1 0 r1], trivial⟩
          have HB5 := Lib.hid (HBa.out.trans (hb5.mono HBa.out.size))
          have HB6 := Lib.hid (HB5.out.trans (hb6.mono HB5.out.size))
          have HP6 := Lib.hid (hi5.below hb6)
          have hll := HOK.out.len
          have hsl := HSL.out
          clear hb5 hb6 hi5 HBa HB5 HHD HBT HFW
          go_upto_region 16 with fail
          generalize World.alloc w5 _ = w6 at *
          generalize w5.heap.size = pb at *
          -- MARKG
          have HAT := Lib.hid (fun y (hy : Below w6.heap.size w6 y) => attach_any ⟨pn, pc, pt, false, L⟩ X Q E1 R1 G H e1 r1 gc hc y (HP6.out.below hy) (HGI.out.below (HB6.out.trans (hy.mono HB6.out.size))) (HHI.out.below (HB6.out.trans (hy.mono HB6.out.size))) HOK.out.pl (fun x hx => ⟨HVX.out x hx, by have := HXS.out x hx; omega⟩) (fun r hr => ⟨⟨(HVQ.out r hr).1, by have := HQS.out r hr; omega⟩, (HVQ.out r hr).2, by have := HQS.out r hr; omega⟩) (by constructor <;> omega))
          have HRA := Lib.hid (fun y (hy : Below w6.heap.size w6 y) => rattach_any ⟨pn, pc, pt, false, L⟩ X Q E1 R1 G H e1 r1 gc hc y (HP6.out.below hy) (HGI.out.below (HB6.out.trans (hy.mono HB6.out.size))) (HHI.out.below (HB6.out.trans (hy.mono HB6.out.size))) HOK.out.pl (fun x hx => by
            rcases List.mem_append.1 hx with hx | hx
            · have h1 := use_valid (HOK.out.use x hx)
              exact ⟨h1.1, by omega⟩
            · exact ⟨HVX.out x hx, by have := HXS.out x hx; omega⟩) (fun r hr => by have := HQS.out r hr; constructor <;> omega) ⟨by dsimp only; omega, by omega⟩ hgc (HG0.out.below (HB6.out.trans (hy.mono HB6.out.size))))
          have HAL := Lib.hid (att_len ⟨pn, pc, pt, false, L⟩ X Q)
          unfold AtRet pnrV pnrC at HAT HRA
          unfold pndV pndC at HAT HRA
          dsimp only at HAT HRA HAL
          generalize attP ⟨pn, pc, pt, false, L⟩ X Q = q at *
          obtain ⟨⟨qn, qc, qt, qs, qV⟩, qL, qQ, qe⟩ := q
          dsimp only at HAT HRA HAL
          have hal := HAL.out
          obtain ⟨p0, p1, p2, p3, p4, p5⟩ := HM6.out.1.c6
          go_wp2_with fail
          refine (HAT.out _ (Below.refl _ _)).mono ?_
          rintro e w7 ⟨E2, e2, R2, r2, rfl, hi7, hr7, hb7⟩
          have hb8 := (Below.refl w7.heap.size w7).alloc (Nat.le_refl _) (.cells [.int .i64 qn, .string qc, .string qt, .bool qs, .slice E2 qL.length e2, .slice R2 qQ.length r2].toArray 41)
          have HM8 : Hid (Bs [(w7.heap.size, 41, [.int .i64 qn, .string qc, .string qt, .bool qs, .slice E2 qL.length e2, .slice R2 qQ.length r2]), (pb, 41, [.int .i64 pn, .string pc, .string pt, .bool false, .slice E1 L.length e1, .slice R1 0 r1])] (w7.alloc (.cells [.int .i64 qn, .string qc, .string qt, .bool qs, .slice E2 qL.length e2, .slice R2 qQ.length r2].toArray 41))) := Bs.cons (Blk.new w7 41 [.int .i64 qn, .string qc, .string qt, .bool qs, .slice E2 qL.length e2, .slice R2 qQ.length r2]) ((HM6.out.below hb7).alloc _)
          have HB68 := Lib.hid (hb7.trans (hb8.mono hb7.size))
          have HE8 := Lib.hid (hi7.below hb8)
          have HR8 := Lib.hid (hr7.below hb8)
          clear hb7 hb8 hi7 hr7 HAT HM6 p0 p1 p2 p3 p4 p5
          go_upto_region 17 with fail
          generalize World.alloc w7 _ = w8 at *
          generalize w7.heap.size = nb at *
          -- MARKH
          obtain ⟨p0, p1, p2, p3, p4, p5⟩ := HM8.out.2.1.c6
          go_wp2_with fail
          refine (HRA.out _ HB68.out).mono ?_
          rintro e w9 ⟨E3, e3, R3, r3, rfl, hi9, hr9, hb9⟩
          have hb10 := (Below.refl w9.heap.size w9).alloc (Nat.le_refl _) (.cells [.int .i64 qn, .string qc, .string qt, .bool qs, .slice E3 qL.length e3, .slice R3 qQ.length r3].toArray 41)
          have HM10 : Hid (Bs [(w9.heap.size, 41, [.int .i64 qn, .string qc, .string qt, .bool qs, .slice E3 qL.length e3, .slice R3 qQ.length r3]), (nb, 41, [.int .i64 qn, .string qc, .string qt, .bool qs, .slice E2 qL.length e2, .slice R2 qQ.length r2]), (pb, 41, [.int .i64 pn, .string pc, .string pt, .bool false, .slice E1 L.length e1, .slice R1 0 r1])] (w9.alloc (.cells [.int .i64 qn, .string qc, .string qt, .bool qs, .slice E3 qL.length e3, .slice R3 qQ.length r3].toArray 41))) := Bs.cons (Blk.new w9 41 [.int .i64 qn, .string qc, .string qt, .bool qs, .slice E3 qL.length e3, .slice R3 qQ.length r3]) ((HM8.out.below hb9).alloc _)
          have HB8 := Lib.hid (HB6.out.trans (HB68.out.mono HB6.out.size))
          have HB9 := Lib.hid (HB8.out.trans (hb9.mono HB8.out.size))
          have HB10 := Lib.hid (HB9.out.trans (hb10.mono HB9.out.size))
          have HE10 := Lib.hid ((HE8.out.below hb9).below hb10)
          have HR10 := Lib.hid ((HR8.out.below hb9).below hb10)
          have HF10 := Lib.hid (hi9.below hb10)
          have HS10 := Lib.hid (hr9.below hb10)
          clear hb9 hb10 hi9 hr9 HRA HM8 HB8 HB9 HB68 HB6 HE8 HR8 HP6 p0 p1 p2 p3 p4 p5
          go_upto_region 18 with fail
          generalize World.alloc w9 _ = w10 at *
          generalize w9.heap.size = mb at *
          -- MARKI
          have HSS := Lib.hid (rsamer_any ⟨qn, qc, qt, qs, qV⟩ qL qQ E2 R2 E3 R3 e2 r2 e3 r3 w10 HE10.out HF10.out HR10.out HS10.out (by omega) (by omega))
          unfold pnrV pnrC at HSS
          dsimp only at HSS
          obtain ⟨n0, n1, n2, n3, n4, n5⟩ := HM10.out.2.1.c6
          obtain ⟨m0, m1, m2, m3, m4, m5⟩ := HM10.out.1.c6
          go_wp2_with fail
          refine HSS.out.mono ?_
          rintro e w11 ⟨rfl, hb11⟩
          have HB11 := Lib.hid (HB10.out.trans (hb11.mono HB10.out.size))
          clear hb11 HSS n0 n1 n2 n3 n4 n5 m0 m1 m2 m3 m4 m5
          go_wp2_with (go_at_call 8; refine (awake18_any _).mono ?_; rintro e w9 ⟨rfl, HB9⟩)
          go_ret
          exact ⟨rfl, HB11.out.trans (HB9.mono HB11.out.size)⟩
end Go.Proofs.YtocffknoeknabaaGreatDoor
