/-
  CreditNests: whatever the input whose bulk is at most 1048576, true.
-/
import Derived.Test.YthonhikkoabhlaaGreatDoorDoorL
import Derived.Test.YthonhikkoabhlaaGreatDoorCards
import Derived.Test.YthonhikkoabhlaaGreatDoorTie
import Derived.Test.YthonhikkoabhlaaGreatDoorCrNs
import Derived.Test.YthonhikkoabhlaaGreatDoorOpC
import Derived.Deep.Strs
import Derived.Deep.Slices
namespace Go.Proofs.YthonhikkoabhlaaGreatDoor
open Go.ChangeShapes Go.WideShapes Go.ChangeAt Go.RowKit Go.Joins Go.Deep
open Go.ChangeMaps (open_string)

theorem str_le {H : Type} {d : DataW H} {s : ByteArray} (e : d = .lit (.string s.data.toList)) (h : Rows.uptoBulk d ≤ 1048576) : s.size ≤ 1048576 := by
  subst e
  have h2 : Rows.uptoBulk (.lit (.string s.data.toList) : DataW H) = s.size + 1 := by
    simp only [Rows.uptoBulk, Array.length_toList]
    rfl
  omega

set_option maxRecDepth 100000 in
theorem nests_contract (H : Type) (enc : TypeId × Value → H) (W : World) (base : Nat) (args : Array Value) (ds gs : List (DataW H)) (before : List MemPlace)
    (hval0 : ∀ (j : Nat) t v, Tryz.f3.params[j]? = some t → args[j]? = some v → Value.okWide Tryz.prog W .any base t v)
    (hW : DataW.Whole enc Tryz.prog Tryz.f3.params.toList Rows.creditNestsSpec.vars false W args.toList ds gs before) (hsh : W.ShapedOpen Tryz.prog) (hcond : Rows.uptoBulkAll (ds ++ gs) ≤ 1048576) :
    Calls Tryz.prog 3 args W fun e W' => ∃ v, e = .returned v ∧ Rows.creditNestsSpec.post enc Tryz.prog Tryz.f3 false true false false W args v W' := by
  have hg : G0 W := g0_of_shaped hsh
  have hval : ∀ (j : Nat) t v, Tryz.f3.params[j]? = some t → args[j]? = some v → Value.okWide Tryz.prog W .any base t v := hval0
  have hW' := hW
  obtain ⟨_, _, hA0, hV, rfl, hfz, hnd⟩ := hW
  have hA : DataW.TrodAll enc Tryz.prog W 0 (fun _ => true) true Tryz.f3.params.toList args.toList ds _ := hA0
  rw [Tryz.params3] at hA hval
  obtain ⟨argl⟩ := args
  obtain ⟨v0, vs0, d0, ds0, p0, q0, eqv0, eqd0, _, h0, t0⟩ := trodAll_cons hA
  obtain ⟨v1, vs1, d1, ds1, p1, q1, eqv1, eqd1, _, h1, t1⟩ := trodAll_cons t0
  obtain ⟨v2, vs2, d2, ds2, p2, q2, eqv2, eqd2, _, h2, t2⟩ := trodAll_cons t1
  obtain ⟨eqv, eqd, _⟩ := trodAll_nil t2
  dsimp only at eqv0
  obtain rfl : argl = [v0, v1, v2] := by rw [eqv0, eqv1, eqv2, eqv]
  obtain rfl : ds = [d0, d1, d2] := by rw [eqd0, eqd1, eqd2, eqd]
  obtain ⟨la, lc, l, rfl, r_l, s_l⟩ := open_chgsU (hval 0 22 v0 rfl rfl) h0
  obtain ⟨p, rfl, e_p, _, s_p⟩ := open_string Tryz.underlying9 (hval 1 9 v1 rfl rfl) h1
  obtain ⟨n, rfl, _, _, w_n⟩ := open_int Tryz.underlying3 (hval 2 3 v2 rfl rfl) h2
  have b_0 : Rows.uptoBulk d0 ≤ 1048576 := Nat.le_trans (bulk_mem (by simp)) hcond
  have b_1 : Rows.uptoBulk d1 ≤ 1048576 := Nat.le_trans (bulk_mem (by simp)) hcond
  have b_2 : Rows.uptoBulk d2 ≤ 1048576 := Nat.le_trans (bulk_mem (by simp)) hcond
  refine (nests_any l la lc p n W r_l (s_l b_0) (str_le e_p b_1) w_n hg).mono fun e W' ⟨he, hb⟩ => ⟨_, he, ?_⟩
  exact law_post Tryz.laidOut rfl hW' (by kernel_rfl) rfl Tryz.underlying4 (fun hg => by subst hg; exact ⟨rfl, rfl, rfl⟩) hb

theorem nests_met (os : Os) : laidMet Tryz.prog Rows.creditNestsUptoRow.laid ((laidWorld os).forCall (fun _ _ => 0) ⟨#[], #[.slice none 0 0, .string ⟨#[]⟩, .int .i64 0], []⟩).memory :=
  laidMet_of_run' 8 (by kernel_rfl) (by kernel_rfl)
theorem nests_reads (os : Os) {H : Type} (enc : TypeId × Value → H) : ∃ places, DataW.whole enc Tryz.prog ((laidWorld os).forCall (fun _ _ => 0) ⟨#[], #[.slice none 0 0, .string ⟨#[]⟩, .int .i64 0], []⟩).memory Tryz.f3.params.toList Rows.creditNestsSpec.vars false (#[.slice none 0 0, .string ⟨#[]⟩, .int .i64 0] : Array Value).toList 8 = some ([.nil, .lit (.string []), .lit (.int .i64 0)], [], places) :=
  ⟨[], by kernel_rfl⟩

set_option maxRecDepth 100000 in
theorem nests_lifted (os : Os) (started : os.Started) (H : Type) (enc : TypeId × Value → H) (F : Stop.Interp) :
    ReturnsInHanded {} Tryz.checked os 3 .any ((Rows.OpenSpec.upto Rows.creditNestsSpec).preRow enc Tryz.prog Tryz.f3 Rows.creditNestsUptoRow.domain false Rows.creditNestsUptoRow.laid) (((Rows.OpenSpec.upto Rows.creditNestsSpec).at F).post enc Tryz.prog Tryz.f3 false true false false) := by
  obtain ⟨places, hx⟩ := nests_reads os enc
  refine returnsInHanded_of_row (C := Tryz.checked) (s := Rows.OpenSpec.upto Rows.creditNestsSpec) Tryz.own started (by kernel_rfl) Tryz.func3
    (witness_row_at (enc := enc) (C := Tryz.checked) false (laidWorld os) #[.slice none 0 0, .string ⟨#[]⟩, .int .i64 0] rfl (by kernel_rfl) (by kernel_rfl) (by kernel_rfl)
      (OpenSpec.preRow_of_cond 8 hx (by kernel_rfl) (fun k hk => by cases hk; kernel_rfl) (by kernel_rfl) (nests_met os))) ?_
  intro W base args ds gs before hval hW _ hcond _ _ hsh _
  exact nests_contract H enc W base args ds gs before hval hW hsh (of_decide_eq_true (hcond _ rfl))

theorem nests_holds : Rows.CreditNestsUptoSaid :=
  OpenClaim.holds_of_cond 3 Tryz.f3 rfl rfl rfl rfl rfl rfl rfl ⟨rfl, rfl, rfl, rfl, rfl⟩ rfl rfl rfl rfl rfl (by kernel_rfl) Tryz.func3 (by kernel_rfl)
    (of_decide_eq_true (by kernel_rfl)) (by unfold Func.isWrapper; first | (rw [if_pos (by decide +kernel)]; kernel_rfl) | (rw [if_neg (by decide +kernel)]; exact ⟨rfl, rfl⟩))
    (fun os started H enc _ F => by rw [OpenClaim.pre_eq_preRow]; exact nests_lifted os started H enc F)

theorem nests_plain (f : FuncId) (fn : Func) (hf : Tryz.pinned.checked.prog.funcNamed "stockyard/stockyardlaw14.CreditNests" = some f) (hfn : Tryz.pinned.checked.prog.funcs[f]? = some fn) :
    false = Tryz.pinned.checked.prog.looks [] ∧ ∀ (j : Nat) t, fn.params[j]? = some t → Tryz.pinned.checked.prog.wantsStandIn t = false := by
  obtain rfl : f = 3 := Option.some.inj ((show Tryz.prog.funcNamed "stockyard/stockyardlaw14.CreditNests" = some 3 by kernel_rfl).symm.trans hf) |>.symm
  obtain rfl : fn = Tryz.f3 := (Option.some.inj (Tryz.func3.symm.trans hfn)).symm
  refine ⟨by kernel_rfl, fun j t ht => ?_⟩
  rw [Tryz.params3] at ht
  have hm := Array.mem_of_getElem? ht
  exact wants_all (by kernel_rfl) t hm

/-- The card. -/
theorem nests_card : Rows.CreditNestsUptoCardSaid :=
  Claim7.holds_tied_plain_at .later [] _ _ _ _ nests_holds (fun _ h => by cases h) (by kernel_rfl) (fun _ h => by cases h) creditNestsUpto_row_tie rfl ⟨rfl, rfl⟩ (by kernel_rfl) rfl nests_plain (by kernel_rfl)

#print axioms nests_card
end Go.Proofs.YthonhikkoabhlaaGreatDoor
