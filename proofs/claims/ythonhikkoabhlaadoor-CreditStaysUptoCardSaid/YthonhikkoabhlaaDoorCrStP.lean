/-
  CreditStays: whatever the input whose bulk is at most 1048576, true.
-/
import Derived.Test.YthonhikkoabhlaaDoorDoorL
import Derived.Test.YthonhikkoabhlaaDoorCards
import Derived.Test.YthonhikkoabhlaaDoorTie
import Derived.Test.YthonhikkoabhlaaDoorCrSt
import Derived.Test.YthonhikkoabhlaaDoorOpC
import Derived.Deep.Strs
import Derived.Deep.Slices
namespace Go.Proofs.YthonhikkoabhlaaDoor
open Go.ChangeShapes Go.WideShapes Go.ChangeAt Go.RowKit Go.Joins Go.Deep
open Go.ChangeMaps (open_string)

structure ChBN (N : Nat) (l : List Chg) : Prop where
  len : l.length ≤ N
  sum : (l.map ChN).sum ≤ N
  edits : ∀ c ∈ l, ∀ x ∈ c.edits, x.path.size ≤ N ∧ x.src.size ≤ N
  recs : ∀ c ∈ l, ∀ x ∈ c.recs, x.src.size ≤ N ∧ x.dst.size ≤ N
theorem ChBN.both {N M : Nat} {l l' : List Chg} (h : ChBN N l) (h' : ChBN M l') (hs : N + M ≤ 1048576) : ChBnd (l ++ l') := by
  have h1 := h.len
  have h2 := h'.len
  have h3 := h.sum
  have h4 := h'.sum
  refine ⟨by rw [List.length_append]; omega, by rw [List.map_append, List.sum_append]; omega, fun c hc x hx => ?_, fun c hc x hx => ?_⟩
  · rcases List.mem_append.1 hc with hc | hc
    · have := h.edits c hc x hx
      omega
    · have := h'.edits c hc x hx
      omega
  · rcases List.mem_append.1 hc with hc | hc
    · have := h.recs c hc x hx
      omega
    · have := h'.recs c hc x hx
      omega
theorem str_le {H : Type} {d : DataW H} {s : ByteArray} (e : d = .lit (.string s.data.toList)) (h : Rows.uptoBulk d ≤ 1048576) : s.size ≤ 1048576 := by
  subst e
  have h2 : Rows.uptoBulk (.lit (.string s.data.toList) : DataW H) = s.size + 1 := by
    simp only [Rows.uptoBulk, Array.length_toList]
    rfl
  omega
theorem bulk2 {H : Type} {d0 d1 : DataW H} {rs gs : List (DataW H)} (h : Rows.uptoBulkAll (d0 :: d1 :: rs ++ gs) ≤ 1048576) : Rows.uptoBulk d0 + Rows.uptoBulk d1 ≤ 1048576 := by
  simp only [List.cons_append, Rows.uptoBulkAll] at h
  omega
section
variable {H : Type} {enc : TypeId × Value → H} {w : World} {base : Nat} {spare : Nat → Bool} {held : Bool}
set_option maxRecDepth 100000 in
theorem open_chgsV {r : Reach} {b0 : Nat} {v : Value} {d : DataW H} {ps : List MemPlace}
    (_hv : Value.okWide Tryd.prog w r b0 22 v) (h : DataW.Trod enc Tryd.prog w base spare held 22 v d ps) :
    ∃ (A : Option Addr) (c : Nat) (l : List Chg), v = .slice A l.length c ∧ ChsIn A l w ∧ ChBN (Rows.uptoBulk d) l := by
  obtain ⟨A0, len0, c0, rfl⟩ := okWide_slice Tryd.underlying22 _hv
  obtain ⟨fuel, hf⟩ := h
  obtain ⟨A, c, l, Ds, h1, h2, h3, h4⟩ := open_list (α := Chg) Tryd.underlying22 Tryd.cellsChg (QC w) chg_el hf
  simp only [Value.cells, List.cons.injEq, Value.slice.injEq, and_true] at h1
  obtain ⟨rfl, rfl, rfl⟩ := h1
  have hq : ∀ (i : Nat) (x : Chg) (D : DataW H), l[i]? = some x → Ds[i]? = some D → ChN x ≤ Rows.uptoBulk D ∧ (∀ y ∈ x.edits, y.path.size + y.src.size ≤ Rows.uptoBulk D) ∧ ∀ y ∈ x.recs, y.src.size + y.dst.size ≤ Rows.uptoBulk D := by
    intro i x D hx hD
    have h0 : 0 < l.length := by have := (List.getElem?_eq_some_iff.1 hx).1; omega
    obtain ⟨a, _, ha⟩ := h4 h0
    obtain ⟨cs', D', hD', _, _, E, ec, R, rc, _, _, _, q1, q2, q3⟩ := ha i x hx
    rw [hD] at hD'
    injection hD' with hD'
    subst hD'
    exact ⟨q1, q2, q3⟩
  refine ⟨A0, c0, l, rfl, fun h0 => ?_, ⟨?_, ?_, fun x hx y hy => ?_, fun x hx y hy => ?_⟩⟩
  · obtain ⟨a, rfl, ha⟩ := h4 h0
    have hx0 := List.getElem?_eq_getElem h0
    obtain ⟨cs', D', _, _, e2, E, ec, R, rc, e3, _⟩ := ha 0 _ hx0
    have c0 := e2 0 (by omega)
    rw [e3, Nat.zero_mul, Nat.zero_add] at c0
    have c0' : w.cell? a = some (.int .i64 l[0].num) := c0
    have hs := spot_none c0'
    have hlt := cell_lt c0'
    obtain ⟨ab, ao, asp⟩ := a
    dsimp only at hs hlt
    subst hs
    refine ⟨ab, ao, rfl, hlt, fun i x hx => ?_⟩
    obtain ⟨cs', D', _, _, e2, E, ec, R, rc, e3, hE, hR, _⟩ := ha i x hx
    subst e3
    have k0 := e2 0 (by omega)
    have k1 := e2 1 (by omega)
    have k2 := e2 2 (by omega)
    have k3 := e2 3 (by omega)
    have k4 := e2 4 (by omega)
    simp only [add_lit, ← Nat.add_assoc, Nat.add_zero] at k0 k1 k2 k3 k4
    exact ⟨E, ec, R, rc, ⟨k0, k1, k2, k3, k4⟩, hE, hR⟩
  · have := bulk_len Ds
    omega
  · have := bulk_sum ChN l Ds h2 (fun i x D hx hD => (hq i x D hx hD).1)
    omega
  · obtain ⟨i, hi⟩ := List.mem_iff_getElem?.1 hx
    have hil : i < Ds.length := by rw [← h2]; exact (List.getElem?_eq_some_iff.1 hi).1
    have hD := List.getElem?_eq_getElem hil
    have h5 := (hq i x _ hi hD).2.1 y hy
    have h6 := bulk_mem (List.getElem_mem hil)
    omega
  · obtain ⟨i, hi⟩ := List.mem_iff_getElem?.1 hx
    have hil : i < Ds.length := by rw [← h2]; exact (List.getElem?_eq_some_iff.1 hi).1
    have hD := List.getElem?_eq_getElem hil
    have h5 := (hq i x _ hi hD).2.2 y hy
    have h6 := bulk_mem (List.getElem_mem hil)
    omega
end
set_option maxRecDepth 100000 in
theorem open_chgU {H : Type} {enc : TypeId × Value → H} {w : World} {base : Nat} {spare : Nat → Bool} {held : Bool} {r : Reach} {b0 : Nat} {v : Value} {d : DataW H} {ps : List MemPlace}
    (hv : Value.okWide Tryd.prog w r b0 58 v) (h : DataW.Trod enc Tryd.prog w base spare held 58 v d ps) :
    ∃ (c : Chg) (E : Option Addr) (ec : Nat) (R : Option Addr) (rc : Nat), v = chgV c E ec R rc ∧ edtK.In E c.edits w ∧ rcdK.In R c.recs w ∧ ChBN (Rows.uptoBulk d) [c] := by
  obtain ⟨⟨cs⟩, rfl, hsz⟩ := okWide_struct Tryd.underlying58 hv
  obtain ⟨fuel, hf⟩ := h
  have hlen : cs.length = 5 := by simpa [Tryd.cellsChg] using hsz
  have hone : (Value.agg ⟨cs⟩).cells.toList = cs := rfl
  obtain ⟨c, E, ec, R, rc, h1, h2, h3, h4, h5, h6⟩ := chg_el (w := w) fuel cs d ps hlen hf
  subst h1
  have hb := bulk_pos d
  refine ⟨c, E, ec, R, rc, rfl, h2, h3, by simpa using hb, by simpa using h4, fun x hx y hy => ?_, fun x hx y hy => ?_⟩
  · rw [List.mem_singleton] at hx
    subst hx
    have := h5 y hy
    omega
  · rw [List.mem_singleton] at hx
    subst hx
    have := h6 y hy
    omega

set_option maxRecDepth 100000 in
theorem stays_contract (H : Type) (enc : TypeId × Value → H) (W : World) (base : Nat) (args : Array Value) (ds gs : List (DataW H)) (before : List MemPlace)
    (hval0 : ∀ (j : Nat) t v, Tryd.f8.params[j]? = some t → args[j]? = some v → Value.okWide Tryd.prog W .any base t v)
    (hW : DataW.Whole enc Tryd.prog Tryd.f8.params.toList Rows.creditStaysSpec.vars false W args.toList ds gs before) (hsh : W.ShapedOpen Tryd.prog) (hcond : Rows.uptoBulkAll (ds ++ gs) ≤ 1048576) :
    Calls Tryd.prog 8 args W fun e W' => ∃ v, e = .returned v ∧ Rows.creditStaysSpec.post enc Tryd.prog Tryd.f8 false true false false W args v W' := by
  have hg : G0 W := g0_of_shaped hsh
  have hval : ∀ (j : Nat) t v, Tryd.f8.params[j]? = some t → args[j]? = some v → Value.okWide Tryd.prog W .any base t v := hval0
  have hW' := hW
  obtain ⟨_, _, hA0, hV, rfl, hfz, hnd⟩ := hW
  have hA : DataW.TrodAll enc Tryd.prog W 0 (fun _ => true) true Tryd.f8.params.toList args.toList ds _ := hA0
  rw [Tryd.params8] at hA hval
  obtain ⟨argl⟩ := args
  obtain ⟨v0, vs0, d0, ds0, p0, q0, eqv0, eqd0, _, h0, t0⟩ := trodAll_cons hA
  obtain ⟨v1, vs1, d1, ds1, p1, q1, eqv1, eqd1, _, h1, t1⟩ := trodAll_cons t0
  obtain ⟨v2, vs2, d2, ds2, p2, q2, eqv2, eqd2, _, h2, t2⟩ := trodAll_cons t1
  obtain ⟨v3, vs3, d3, ds3, p3, q3, eqv3, eqd3, _, h3, t3⟩ := trodAll_cons t2
  obtain ⟨eqv, eqd, _⟩ := trodAll_nil t3
  dsimp only at eqv0
  obtain rfl : argl = [v0, v1, v2, v3] := by rw [eqv0, eqv1, eqv2, eqv3, eqv]
  obtain rfl : ds = [d0, d1, d2, d3] := by rw [eqd0, eqd1, eqd2, eqd3, eqd]
  obtain ⟨la, lc, l, rfl, r_l, s_l⟩ := open_chgsV (hval 0 22 v0 rfl rfl) h0
  obtain ⟨c, cE, ce, cR, cr, rfl, r_cE, r_cR, s_c⟩ := open_chgU (hval 1 58 v1 rfl rfl) h1
  obtain ⟨p, rfl, e_p, _, s_p⟩ := open_string Tryd.underlying9 (hval 2 9 v2 rfl rfl) h2
  obtain ⟨n, rfl, _, _, w_n⟩ := open_int Tryd.underlying3 (hval 3 3 v3 rfl rfl) h3
  have b_0 : Rows.uptoBulk d0 ≤ 1048576 := Nat.le_trans (bulk_mem (by simp)) hcond
  have b_1 : Rows.uptoBulk d1 ≤ 1048576 := Nat.le_trans (bulk_mem (by simp)) hcond
  have b_2 : Rows.uptoBulk d2 ≤ 1048576 := Nat.le_trans (bulk_mem (by simp)) hcond
  have b_3 : Rows.uptoBulk d3 ≤ 1048576 := Nat.le_trans (bulk_mem (by simp)) hcond
  refine (stays_any l c la cE cR lc ce cr p n W r_l r_cE r_cR (s_l.both s_c (bulk2 hcond)) (str_le e_p b_2) w_n hg).mono fun e W' ⟨he, hb⟩ => ⟨_, he, ?_⟩
  exact law_post Tryd.laidOut rfl hW' (by kernel_rfl) rfl Tryd.underlying4 (fun hg => by subst hg; exact ⟨rfl, rfl, rfl⟩) hb

theorem stays_met (os : Os) : laidMet Tryd.prog Rows.creditStaysUptoRow.laid ((laidWorld os).forCall (fun _ _ => 0) ⟨#[], #[.slice none 0 0, .agg #[.int .i64 0, .string ⟨#[]⟩, .string ⟨#[]⟩, .slice none 0 0, .slice none 0 0], .string ⟨#[]⟩, .int .i64 0], []⟩).memory :=
  laidMet_of_run' 8 (by kernel_rfl) (by kernel_rfl)
theorem stays_reads (os : Os) {H : Type} (enc : TypeId × Value → H) : ∃ places, DataW.whole enc Tryd.prog ((laidWorld os).forCall (fun _ _ => 0) ⟨#[], #[.slice none 0 0, .agg #[.int .i64 0, .string ⟨#[]⟩, .string ⟨#[]⟩, .slice none 0 0, .slice none 0 0], .string ⟨#[]⟩, .int .i64 0], []⟩).memory Tryd.f8.params.toList Rows.creditStaysSpec.vars false (#[.slice none 0 0, .agg #[.int .i64 0, .string ⟨#[]⟩, .string ⟨#[]⟩, .slice none 0 0, .slice none 0 0], .string ⟨#[]⟩, .int .i64 0] : Array Value).toList 8 = some ([.nil, .agg [.lit (.int .i64 0), .lit (.string []), .lit (.string []), .nil, .nil], .lit (.string []), .lit (.int .i64 0)], [], places) :=
  ⟨[], by kernel_rfl⟩

set_option maxRecDepth 100000 in
theorem stays_lifted (os : Os) (started : os.Started) (H : Type) (enc : TypeId × Value → H) (F : Stop.Interp) :
    ReturnsInHanded {} Tryd.checked os 8 .any ((Rows.OpenSpec.upto Rows.creditStaysSpec).preRow enc Tryd.prog Tryd.f8 Rows.creditStaysUptoRow.domain false Rows.creditStaysUptoRow.laid) (((Rows.OpenSpec.upto Rows.creditStaysSpec).at F).post enc Tryd.prog Tryd.f8 false true false false) := by
  obtain ⟨places, hx⟩ := stays_reads os enc
  refine returnsInHanded_of_row (C := Tryd.checked) (s := Rows.OpenSpec.upto Rows.creditStaysSpec) Tryd.own started (by kernel_rfl) Tryd.func8
    (witness_row_at (enc := enc) (C := Tryd.checked) false (laidWorld os) #[.slice none 0 0, .agg #[.int .i64 0, .string ⟨#[]⟩, .string ⟨#[]⟩, .slice none 0 0, .slice none 0 0], .string ⟨#[]⟩, .int .i64 0] rfl (by kernel_rfl) (by kernel_rfl) (by kernel_rfl)
      (OpenSpec.preRow_of_cond 8 hx (by kernel_rfl) (fun k hk => by cases hk; kernel_rfl) (by kernel_rfl) (stays_met os))) ?_
  intro W base args ds gs before hval hW _ hcond _ _ hsh _
  exact stays_contract H enc W base args ds gs before hval hW hsh (of_decide_eq_true (hcond _ rfl))

theorem stays_holds : Rows.CreditStaysUptoSaid :=
  OpenClaim.holds_of_cond 8 Tryd.f8 rfl rfl rfl rfl rfl rfl rfl ⟨rfl, rfl, rfl, rfl, rfl⟩ rfl rfl rfl rfl rfl (by kernel_rfl) Tryd.func8 (by kernel_rfl)
    (of_decide_eq_true (by kernel_rfl)) (by unfold Func.isWrapper; first | (rw [if_pos (by decide +kernel)]; kernel_rfl) | (rw [if_neg (by decide +kernel)]; exact ⟨rfl, rfl⟩))
    (fun os started H enc _ F => by rw [OpenClaim.pre_eq_preRow]; exact stays_lifted os started H enc F)

theorem stays_plain (f : FuncId) (fn : Func) (hf : Tryd.pinned.checked.prog.funcNamed "stockyard/stockyardlaw14.CreditStays" = some f) (hfn : Tryd.pinned.checked.prog.funcs[f]? = some fn) :
    false = Tryd.pinned.checked.prog.looks [] ∧ ∀ (j : Nat) t, fn.params[j]? = some t → Tryd.pinned.checked.prog.wantsStandIn t = false := by
  obtain rfl : f = 8 := Option.some.inj ((show Tryd.prog.funcNamed "stockyard/stockyardlaw14.CreditStays" = some 8 by kernel_rfl).symm.trans hf) |>.symm
  obtain rfl : fn = Tryd.f8 := (Option.some.inj (Tryd.func8.symm.trans hfn)).symm
  refine ⟨by kernel_rfl, fun j t ht => ?_⟩
  rw [Tryd.params8] at ht
  have hm := Array.mem_of_getElem? ht
  exact wants_all (by kernel_rfl) t hm

/-- The card. -/
theorem stays_card : Rows.CreditStaysUptoCardSaid :=
  Claim7.holds_tied_plain_at .later [] _ _ _ _ stays_holds (fun _ h => by cases h) (by kernel_rfl) (fun _ h => by cases h) creditStaysUpto_row_tie rfl ⟨rfl, rfl⟩ (by kernel_rfl) rfl stays_plain (by kernel_rfl)

#print axioms stays_card
end Go.Proofs.YthonhikkoabhlaaDoor
