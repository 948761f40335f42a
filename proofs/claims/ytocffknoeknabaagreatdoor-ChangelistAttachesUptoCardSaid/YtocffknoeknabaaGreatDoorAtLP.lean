/-
  ChangelistAttaches: whatever the input whose bulk is at most 1048576, true.
-/
import Derived.Test.YtocffknoeknabaaGreatDoorDoorL
import Derived.Test.YtocffknoeknabaaGreatDoorCards
import Derived.Test.YtocffknoeknabaaGreatDoorTie
import Derived.Test.YtocffknoeknabaaGreatDoorAtL
import Derived.Test.YtocffknoeknabaaGreatDoorOpC
import Derived.Test.YtocffknoeknabaaGreatDoorCgI
import Derived.Deep.Strs
import Derived.Deep.Slices
namespace Go.Proofs.YtocffknoeknabaaGreatDoor
open Go.ChangeShapes Go.WideShapes Go.ChangeAt Go.RowKit Go.Joins Go.Deep
open Go.ChangeMaps (open_string)

structure ChBN (N : Nat) (l : List Chg) : Prop where
  len : l.length ≤ N
  sum : (l.map ChN).sum ≤ N
  edits : ∀ c ∈ l, ∀ x ∈ c.edits, x.path.size ≤ N ∧ x.src.size ≤ N
  recs : ∀ c ∈ l, ∀ x ∈ c.recs, x.src.size ≤ N ∧ x.dst.size ≤ N
theorem ChBN.last {N n1 n2 M : Nat} {l : List Chg} {X : List Edt} {Q : List Rcd} (h : ChBN N l) (hX : X.length + 1 ≤ n1) (hQ : Q.length + 1 ≤ n2) (sX : ∀ x ∈ X, x.path.size + x.src.size ≤ n1) (sQ : ∀ x ∈ Q, x.src.size + x.dst.size ≤ n2) (hs : N + n1 + n2 ≤ M) (hM : M ≤ 1048576) : ChBnd (l ++ [(⟨0, ⟨#[]⟩, ⟨#[]⟩, X, Q⟩ : Chg)]) := by
  have h1 := h.len
  have h3 := h.sum
  have h2 : ChN (⟨0, ⟨#[]⟩, ⟨#[]⟩, X, Q⟩ : Chg) = X.length + Q.length := rfl
  refine ⟨by rw [List.length_append, List.length_singleton]; omega, ?_, fun c hc x hx => ?_, fun c hc x hx => ?_⟩
  · rw [List.map_append, List.sum_append]
    simp only [List.map_cons, List.map_nil, List.sum_cons, List.sum_nil]
    omega
  · rcases List.mem_append.1 hc with hc | hc
    · have := h.edits c hc x hx
      omega
    · rw [List.mem_singleton] at hc
      subst hc
      have := sX x hx
      omega
  · rcases List.mem_append.1 hc with hc | hc
    · have := h.recs c hc x hx
      omega
    · rw [List.mem_singleton] at hc
      subst hc
      have := sQ x hx
      omega
theorem bulk3 {H : Type} {d0 d1 d2 d3 : DataW H} {gs : List (DataW H)} (h : Rows.uptoBulkAll ([d0, d1, d2, d3] ++ gs) ≤ 1048576) : Rows.uptoBulk d0 + Rows.uptoBulk d2 + Rows.uptoBulk d3 ≤ 1048576 := by
  simp only [List.cons_append, List.nil_append, Rows.uptoBulkAll] at h
  omega
section
variable {H : Type} {enc : TypeId × Value → H} {w : World} {base : Nat} {spare : Nat → Bool} {held : Bool}
set_option maxRecDepth 100000 in
theorem open_chgsV {r : Reach} {b0 : Nat} {v : Value} {d : DataW H} {ps : List MemPlace}
    (_hv : Value.okWide Tryz.prog w r b0 22 v) (h : DataW.Trod enc Tryz.prog w base spare held 22 v d ps) :
    ∃ (A : Option Addr) (c : Nat) (l : List Chg), v = .slice A l.length c ∧ ChsIn A l w ∧ ChBN (Rows.uptoBulk d) l := by
  obtain ⟨A0, len0, c0, rfl⟩ := okWide_slice Tryz.underlying22 _hv
  obtain ⟨fuel, hf⟩ := h
  obtain ⟨A, c, l, Ds, h1, h2, h3, h4⟩ := open_list (α := Chg) Tryz.underlying22 Tryz.cellsChg (QC w) chg_el hf
  simp only [Value.cells, List.cons.injEq, Value.slice.injEq, and_true] at h1
  obtain ⟨rfl, rfl, rfl⟩ := h1
  have hq : ∀ (i : Nat) (x : Chg) (D : DataW H), l[i]? = some x → Ds[i]? = some D → ChN x ≤ Rows.uptoBulk D ∧ (∀ y ∈ x.edits, y.path.size + y.src.size ≤ Rows.uptoBulk D) ∧ ∀ y ∈ x.recs, y.src.size + y.dst.size ≤ Rows.uptoBulk D := by
    intro i x D hx hD
    have h0 : 0 < l.length := by have := (List.getElem?_eq_some_iff.1 hx).1; omega
    obtain ⟨a, _, ha⟩ := h4 h0
    obtain ⟨cs', D', hD', _, _, E, ec, R, rc, _, _, _, q1, q2, q3⟩ := ha i x hx
    rw [hD] at hD'
    injection hD' with hD'
    subst hD'
    exact ⟨q1, q2, q3⟩
  refine ⟨A0, c0, l, rfl, fun h0 => ?_, ⟨?_, ?_, fun x hx y hy => ?_, fun x hx y hy => ?_⟩⟩
  · obtain ⟨a, rfl, ha⟩ := h4 h0
    have hx0 := List.getElem?_eq_getElem h0
    obtain ⟨cs', D', _, _, e2, E, ec, R, rc, e3, _⟩ := ha 0 _ hx0
    have c0 := e2 0 (by omega)
    rw [e3, Nat.zero_mul, Nat.zero_add] at c0
    have c0' : w.cell? a = some (.int .i64 l[0].num) := c0
    have hs := spot_none c0'
    have hlt := cell_lt c0'
    obtain ⟨ab, ao, asp⟩ := a
    dsimp only at hs hlt
    subst hs
    refine ⟨ab, ao, rfl, hlt, fun i x hx => ?_⟩
    obtain ⟨cs', D', _, _, e2, E, ec, R, rc, e3, hE, hR, _⟩ := ha i x hx
    subst e3
    have k0 := e2 0 (by omega)
    have k1 := e2 1 (by omega)
    have k2 := e2 2 (by omega)
    have k3 := e2 3 (by omega)
    have k4 := e2 4 (by omega)
    simp only [add_lit, ← Nat.add_assoc, Nat.add_zero] at k0 k1 k2 k3 k4
    exact ⟨E, ec, R, rc, ⟨k0, k1, k2, k3, k4⟩, hE, hR⟩
  · have := bulk_len Ds
    omega
  · have := bulk_sum ChN l Ds h2 (fun i x D hx hD => (hq i x D hx hD).1)
    omega
  · obtain ⟨i, hi⟩ := List.mem_iff_getElem?.1 hx
    have hil : i < Ds.length := by rw [← h2]; exact (List.getElem?_eq_some_iff.1 hi).1
    have hD := List.getElem?_eq_getElem hil
    have h5 := (hq i x _ hi hD).2.1 y hy
    have h6 := bulk_mem (List.getElem_mem hil)
    omega
  · obtain ⟨i, hi⟩ := List.mem_iff_getElem?.1 hx
    have hil : i < Ds.length := by rw [← h2]; exact (List.getElem?_eq_some_iff.1 hi).1
    have hD := List.getElem?_eq_getElem hil
    have h5 := (hq i x _ hi hD).2.2 y hy
    have h6 := bulk_mem (List.getElem_mem hil)
    omega
theorem slice_cap {P : Program} {T e : TypeId} (hT : P.underlying T = some (.slice e)) {fuel n c : Nat} {A : Option Addr} {x : DataW H × List MemPlace} (h : DataW.trod enc P w base spare held fuel T [.slice A n c] = some x) : n ≤ c := by
  rcases open_slice hT h with ⟨hcs, _⟩ | ⟨a, len, cap, m, k, D, Pl, hcs, _, hl, _⟩
  · simp only [List.cons.injEq, Value.slice.injEq, and_true] at hcs
    omega
  · simp only [List.cons.injEq, Value.slice.injEq, and_true] at hcs
    omega
set_option maxRecDepth 100000 in
theorem open_edtsU {r : Reach} {b0 : Nat} {v : Value} {d : DataW H} {ps : List MemPlace}
    (_hv : Value.okWide Tryz.prog w r b0 39 v) (h : DataW.Trod enc Tryz.prog w base spare held 39 v d ps) :
    ∃ (A : Option Addr) (c : Nat) (l : List Edt), v = .slice A l.length c ∧ edtK.In A l w ∧ l.length ≤ c ∧ l.length + 1 ≤ Rows.uptoBulk d ∧ ∀ x ∈ l, x.path.size + x.src.size ≤ Rows.uptoBulk d := by
  obtain ⟨A0, len0, c0, rfl⟩ := okWide_slice Tryz.underlying39 _hv
  obtain ⟨fuel, hf⟩ := h
  have hcap := slice_cap Tryz.underlying39 hf
  obtain ⟨A, c, l, h1, h2, h3, h4⟩ := open_rows edtK Tryz.underlying39 Tryz.cellsEdt (fun x => x.path.size + x.src.size) edt_el hf
  simp only [Value.cells, List.cons.injEq, Value.slice.injEq, and_true] at h1
  obtain ⟨rfl, rfl, rfl⟩ := h1
  exact ⟨_, _, l, rfl, h2, hcap, h3, h4⟩
set_option maxRecDepth 100000 in
theorem open_rcdsU {r : Reach} {b0 : Nat} {v : Value} {d : DataW H} {ps : List MemPlace}
    (_hv : Value.okWide Tryz.prog w r b0 35 v) (h : DataW.Trod enc Tryz.prog w base spare held 35 v d ps) :
    ∃ (A : Option Addr) (c : Nat) (l : List Rcd), v = .slice A l.length c ∧ rcdK.In A l w ∧ l.length + 1 ≤ Rows.uptoBulk d ∧ ∀ x ∈ l, x.src.size + x.dst.size ≤ Rows.uptoBulk d := by
  obtain ⟨A0, len0, c0, rfl⟩ := okWide_slice Tryz.underlying35 _hv
  obtain ⟨fuel, hf⟩ := h
  obtain ⟨A, c, l, h1, h2, h3, h4⟩ := open_rows rcdK Tryz.underlying35 Tryz.cellsRcd (fun x => x.src.size + x.dst.size) rcd_el hf
  simp only [Value.cells, List.cons.injEq, Value.slice.injEq, and_true] at h1
  obtain ⟨rfl, rfl, rfl⟩ := h1
  exact ⟨_, _, l, rfl, h2, h3, h4⟩
end
theorem lawAtt (A : Option Addr) (ca : Nat) (l : List Chg) (F : Option Addr) (fc : Nat) (ops : List Opr) (G : Option Addr) (gc : Nat) (X : List Edt) (H : Option Addr) (hc : Nat) (Q : List Rcd) (W : World) (hA : ChsIn A l W) (hF : oprK.In F ops W) (hG : edtK.In G X W) (hH : rcdK.In H Q W) (hb : ChBnd (l ++ [(⟨0, ⟨#[]⟩, ⟨#[]⟩, X, Q⟩ : Chg)])) (ho : ops.length ≤ 1048576 ∧ ∀ o ∈ ops, o.s.size ≤ 1048576 ∧ o.t.size ≤ 1048576) (hgc : X.length ≤ gc) (hg : G0 W) :
    Calls Tryz.prog 4 #[.slice A l.length ca, .slice F ops.length fc, .slice G X.length gc, .slice H Q.length hc] W fun e w' => e = .returned (.bool true) ∧ Below W.heap.size W w' :=
  attaches_any l ops X Q A F G H ca fc gc hc W hA hF hG hH hb ho.1 ho.2 hgc hg

set_option maxRecDepth 100000 in
theorem attaches_contract (H : Type) (enc : TypeId × Value → H) (W : World) (base : Nat) (args : Array Value) (ds gs : List (DataW H)) (before : List MemPlace)
    (hval0 : ∀ (j : Nat) t v, Tryz.f4.params[j]? = some t → args[j]? = some v → Value.okWide Tryz.prog W .any base t v)
    (hW : DataW.Whole enc Tryz.prog Tryz.f4.params.toList Rows.changelistAttachesSpec.vars false W args.toList ds gs before) (hsh : W.ShapedOpen Tryz.prog) (hcond : Rows.uptoBulkAll (ds ++ gs) ≤ 1048576) :
    Calls Tryz.prog 4 args W fun e W' => ∃ v, e = .returned v ∧ Rows.changelistAttachesSpec.post enc Tryz.prog Tryz.f4 false true false false W args v W' := by
  have hg : G0 W := g0_of_shaped hsh
  have hval : ∀ (j : Nat) t v, Tryz.f4.params[j]? = some t → args[j]? = some v → Value.okWide Tryz.prog W .any base t v := hval0
  have hW' := hW
  obtain ⟨_, _, hA0, hV, rfl, hfz, hnd⟩ := hW
  have hA : DataW.TrodAll enc Tryz.prog W 0 (fun _ => true) true Tryz.f4.params.toList args.toList ds _ := hA0
  rw [Tryz.params4] at hA hval
  obtain ⟨argl⟩ := args
  obtain ⟨v0, vs0, d0, ds0, p0, q0, eqv0, eqd0, _, h0, t0⟩ := trodAll_cons hA
  obtain ⟨v1, vs1, d1, ds1, p1, q1, eqv1, eqd1, _, h1, t1⟩ := trodAll_cons t0
  obtain ⟨v2, vs2, d2, ds2, p2, q2, eqv2, eqd2, _, h2, t2⟩ := trodAll_cons t1
  obtain ⟨v3, vs3, d3, ds3, p3, q3, eqv3, eqd3, _, h3, t3⟩ := trodAll_cons t2
  obtain ⟨eqv, eqd, _⟩ := trodAll_nil t3
  dsimp only at eqv0
  obtain rfl : argl = [v0, v1, v2, v3] := by rw [eqv0, eqv1, eqv2, eqv3, eqv]
  obtain rfl : ds = [d0, d1, d2, d3] := by rw [eqd0, eqd1, eqd2, eqd3, eqd]
  obtain ⟨la, lc, l, rfl, r_l, s_l⟩ := open_chgsV (hval 0 22 v0 rfl rfl) h0
  obtain ⟨opsa, opsc, ops, rfl, r_ops, s_ops⟩ := open_oprsU (hval 1 23 v1 rfl rfl) h1
  obtain ⟨eda, edc, ed, rfl, r_ed, k_ed, n_ed, s_ed⟩ := open_edtsU (hval 2 39 v2 rfl rfl) h2
  obtain ⟨rca, rcc, rc, rfl, r_rc, n_rc, s_rc⟩ := open_rcdsU (hval 3 35 v3 rfl rfl) h3
  have b_0 : Rows.uptoBulk d0 ≤ 1048576 := Nat.le_trans (bulk_mem (by simp)) hcond
  have b_1 : Rows.uptoBulk d1 ≤ 1048576 := Nat.le_trans (bulk_mem (by simp)) hcond
  have b_2 : Rows.uptoBulk d2 ≤ 1048576 := Nat.le_trans (bulk_mem (by simp)) hcond
  have b_3 : Rows.uptoBulk d3 ≤ 1048576 := Nat.le_trans (bulk_mem (by simp)) hcond
  refine (lawAtt la lc l opsa opsc ops eda edc ed rca rcc rc W r_l r_ops r_ed r_rc (s_l.last n_ed n_rc s_ed s_rc (Nat.le_refl _) (bulk3 hcond)) (s_ops b_1) k_ed hg).mono fun e W' ⟨he, hb⟩ => ⟨_, he, ?_⟩
  exact law_post Tryz.laidOut rfl hW' (by kernel_rfl) rfl Tryz.underlying4 (fun hg => by subst hg; exact ⟨rfl, rfl, rfl⟩) hb

theorem attaches_met (os : Os) : laidMet Tryz.prog Rows.changelistAttachesUptoRow.laid ((laidWorld os).forCall (fun _ _ => 0) ⟨#[], #[.slice none 0 0, .slice none 0 0, .slice none 0 0, .slice none 0 0], []⟩).memory :=
  laidMet_of_run' 8 (by kernel_rfl) (by kernel_rfl)
theorem attaches_reads (os : Os) {H : Type} (enc : TypeId × Value → H) : ∃ places, DataW.whole enc Tryz.prog ((laidWorld os).forCall (fun _ _ => 0) ⟨#[], #[.slice none 0 0, .slice none 0 0, .slice none 0 0, .slice none 0 0], []⟩).memory Tryz.f4.params.toList Rows.changelistAttachesSpec.vars false (#[.slice none 0 0, .slice none 0 0, .slice none 0 0, .slice none 0 0] : Array Value).toList 8 = some ([.nil, .nil, .nil, .nil], [], places) :=
  ⟨[], by kernel_rfl⟩

set_option maxRecDepth 100000 in
theorem attaches_lifted (os : Os) (started : os.Started) (H : Type) (enc : TypeId × Value → H) (F : Stop.Interp) :
    ReturnsInHanded {} Tryz.checked os 4 .any ((Rows.OpenSpec.upto Rows.changelistAttachesSpec).preRow enc Tryz.prog Tryz.f4 Rows.changelistAttachesUptoRow.domain false Rows.changelistAttachesUptoRow.laid) (((Rows.OpenSpec.upto Rows.changelistAttachesSpec).at F).post enc Tryz.prog Tryz.f4 false true false false) := by
  obtain ⟨places, hx⟩ := attaches_reads os enc
  refine returnsInHanded_of_row (C := Tryz.checked) (s := Rows.OpenSpec.upto Rows.changelistAttachesSpec) Tryz.own started (by kernel_rfl) Tryz.func4
    (witness_row_at (enc := enc) (C := Tryz.checked) false (laidWorld os) #[.slice none 0 0, .slice none 0 0, .slice none 0 0, .slice none 0 0] rfl (by kernel_rfl) (by kernel_rfl) (by kernel_rfl)
      (OpenSpec.preRow_of_cond 8 hx (by kernel_rfl) (fun k hk => by cases hk; kernel_rfl) (by kernel_rfl) (attaches_met os))) ?_
  intro W base args ds gs before hval hW _ hcond _ _ hsh _
  exact attaches_contract H enc W base args ds gs before hval hW hsh (of_decide_eq_true (hcond _ rfl))

theorem attaches_holds : Rows.ChangelistAttachesUptoSaid :=
  OpenClaim.holds_of_cond 4 Tryz.f4 rfl rfl rfl rfl rfl rfl rfl ⟨rfl, rfl, rfl, rfl, rfl⟩ rfl rfl rfl rfl rfl (by kernel_rfl) Tryz.func4 (by kernel_rfl)
    (of_decide_eq_true (by kernel_rfl)) (by unfold Func.isWrapper; first | (rw [if_pos (by decide +kernel)]; kernel_rfl) | (rw [if_neg (by decide +kernel)]; exact ⟨rfl, rfl⟩))
    (fun os started H enc _ F => by rw [OpenClaim.pre_eq_preRow]; exact attaches_lifted os started H enc F)

theorem attaches_plain (f : FuncId) (fn : Func) (hf : Tryz.pinned.checked.prog.funcNamed "stockyard/stockyardlaw18.ChangelistAttaches" = some f) (hfn : Tryz.pinned.checked.prog.funcs[f]? = some fn) :
    false = Tryz.pinned.checked.prog.looks [] ∧ ∀ (j : Nat) t, fn.params[j]? = some t → Tryz.pinned.checked.prog.wantsStandIn t = false := by
  obtain rfl : f = 4 := Option.some.inj ((show Tryz.prog.funcNamed "stockyard/stockyardlaw18.ChangelistAttaches" = some 4 by kernel_rfl).symm.trans hf) |>.symm
  obtain rfl : fn = Tryz.f4 := (Option.some.inj (Tryz.func4.symm.trans hfn)).symm
  refine ⟨by kernel_rfl, fun j t ht => ?_⟩
  rw [Tryz.params4] at ht
  have hm := Array.mem_of_getElem? ht
  exact wants_all (by kernel_rfl) t hm

/-- The card. -/
theorem attaches_card : Rows.ChangelistAttachesUptoCardSaid :=
  Claim7.holds_tied_plain_at .later [] _ _ _ _ attaches_holds (fun _ h => by cases h) (by kernel_rfl) (fun _ h => by cases h) changelistAttachesUpto_row_tie rfl ⟨rfl, rfl⟩ (by kernel_rfl) rfl attaches_plain (by kernel_rfl)

#print axioms attaches_card
end Go.Proofs.YtocffknoeknabaaGreatDoor
