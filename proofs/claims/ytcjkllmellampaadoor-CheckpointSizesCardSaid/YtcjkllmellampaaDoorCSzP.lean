/-
  CheckpointSizes holds: states of up to MaxStateBytes bytes are kept, and longer ones are refused and leave the checkpoint as it was. No conditions.
-/
import Derived.Test.YtcjkllmellampaaDoorDoorC
import Derived.Test.YtcjkllmellampaaDoorCards
import Derived.Test.YtcjkllmellampaaDoorTie
import Derived.Test.YtcjkllmellampaaDoorCSz
namespace Go.Proofs.YtcjkllmellampaaDoor
open Go.ChangeShapes Go.WideShapes Go.ChangeAt Go.RowKit Go.Joins Go.Deep
open Go.ChangeMaps (open_string)

set_option maxRecDepth 100000 in
theorem sizes_contract (H : Type) (enc : TypeId × Value → H) (W : World) (base : Nat) (args : Array Value) (ds gs : List (DataW H)) (before : List MemPlace)
    (hval0 : ∀ (j : Nat) t v, Tryd.f4.params[j]? = some t → args[j]? = some v → Value.okWide Tryd.prog W .any base t v)
    (hW : DataW.Whole enc Tryd.prog Tryd.f4.params.toList Rows.checkpointSizesSpec.vars false W args.toList ds gs before) (hsh : W.ShapedOpen Tryd.prog) :
    Calls Tryd.prog 4 args W fun e W' => ∃ v, e = .returned v ∧ Rows.checkpointSizesSpec.post enc Tryd.prog Tryd.f4 false true false false W args v W' := by
  clear hsh
  have hval : ∀ (j : Nat) t v, Tryd.f4.params[j]? = some t → args[j]? = some v → Value.okWide Tryd.prog W .any base t v := hval0
  have hW' := hW
  obtain ⟨_, _, hA0, hV, rfl, hfz, hnd⟩ := hW
  have hA : DataW.TrodAll enc Tryd.prog W 0 (fun _ => true) true Tryd.f4.params.toList args.toList ds _ := hA0
  rw [Tryd.params4] at hA hval
  obtain ⟨argl⟩ := args
  obtain ⟨v0, vs0, d0, ds0, p0, q0, eqv0, eqd0, _, h0, t0⟩ := trodAll_cons hA
  obtain ⟨v1, vs1, d1, ds1, p1, q1, eqv1, eqd1, _, h1, t1⟩ := trodAll_cons t0
  obtain ⟨eqv, eqd, _⟩ := trodAll_nil t1
  dsimp only at eqv0
  obtain rfl : argl = [v0, v1] := by rw [eqv0, eqv1, eqv]
  obtain rfl : ds = [d0, d1] := by rw [eqd0, eqd1, eqd]
  obtain ⟨n, rfl, _, _, w_n⟩ := open_int Tryd.underlying3 (hval 0 3 v0 rfl rfl) h0
  obtain ⟨x0, rfl, _, _, w_x⟩ := open_int Tryd.underlying5 (hval 1 5 v1 rfl rfl) h1
  obtain ⟨x, rfl⟩ := wf_u8 w_x
  refine (lawSizes_any W n (wf_i64 w_n).1 (wf_i64 w_n).2 x).mono fun e W' ⟨he, hb⟩ => ⟨_, he, ?_⟩
  exact law_post Tryd.laidOut rfl hW' (by kernel_rfl) rfl Tryd.underlying4 (fun hg => by subst hg; exact ⟨rfl, rfl, rfl⟩) hb

theorem sizes_met (os : Os) : laidMet Tryd.prog Rows.checkpointSizesRow.laid ((laidWorld os).forCall (fun _ _ => 0) ⟨#[], #[.int .i64 0, .int .u8 0], []⟩).memory :=
  laidMet_of_run' 8 (by kernel_rfl) (by kernel_rfl)
theorem sizes_reads (os : Os) {H : Type} (enc : TypeId × Value → H) : ∃ places, DataW.whole enc Tryd.prog ((laidWorld os).forCall (fun _ _ => 0) ⟨#[], #[.int .i64 0, .int .u8 0], []⟩).memory Tryd.f4.params.toList Rows.checkpointSizesSpec.vars false (#[.int .i64 0, .int .u8 0] : Array Value).toList 8 = some ([.lit (.int .i64 0), .lit (.int .u8 0)], [], places) :=
  ⟨[], by kernel_rfl⟩

set_option maxRecDepth 100000 in
theorem sizes_lifted (os : Os) (started : os.Started) (H : Type) (enc : TypeId × Value → H) (F : Stop.Interp) :
    ReturnsInHanded {} Tryd.checked os 4 .any ((OpenSpec.ofChange Rows.checkpointSizesSpec).preRow enc Tryd.prog Tryd.f4 Rows.checkpointSizesRow.domain false Rows.checkpointSizesRow.laid) (((OpenSpec.ofChange Rows.checkpointSizesSpec).at F).post enc Tryd.prog Tryd.f4 false true false false) := by
  obtain ⟨places, hx⟩ := sizes_reads os enc
  refine returnsInHanded_of_row (C := Tryd.checked) (s := OpenSpec.ofChange Rows.checkpointSizesSpec) Tryd.own started (by kernel_rfl) Tryd.func4
    (witness_row_at (enc := enc) (C := Tryd.checked) false (laidWorld os) #[.int .i64 0, .int .u8 0] rfl (by kernel_rfl) (by kernel_rfl) (by kernel_rfl)
      (OpenSpec.preRow_of_cond 8 hx (by kernel_rfl) (fun k hk => by cases hk) (by kernel_rfl) (sizes_met os))) ?_
  intro W base args ds gs before hval hW _ _ _ _ hsh _
  exact sizes_contract H enc W base args ds gs before hval hW hsh

theorem sizes_holds : Rows.CheckpointSizesSaid :=
  OpenClaim.holds_of_cond 4 Tryd.f4 rfl rfl rfl rfl rfl rfl rfl ⟨rfl, rfl, rfl, rfl, rfl⟩ rfl rfl rfl rfl rfl (by kernel_rfl) Tryd.func4 (by kernel_rfl)
    (of_decide_eq_true (by kernel_rfl)) (by unfold Func.isWrapper; first | (rw [if_pos (by decide +kernel)]; kernel_rfl) | (rw [if_neg (by decide +kernel)]; exact ⟨rfl, rfl⟩))
    (fun os started H enc _ F => by rw [OpenClaim.pre_eq_preRow]; exact sizes_lifted os started H enc F)

theorem sizes_plain (f : FuncId) (fn : Func) (hf : Tryd.pinned.checked.prog.funcNamed "stockyard/stockyardlaw32.CheckpointSizes" = some f) (hfn : Tryd.pinned.checked.prog.funcs[f]? = some fn) :
    true = Tryd.pinned.checked.prog.looks [] ∧ ∀ (j : Nat) t, fn.params[j]? = some t → Tryd.pinned.checked.prog.wantsStandIn t = false := by
  obtain rfl : f = 4 := Option.some.inj ((show Tryd.prog.funcNamed "stockyard/stockyardlaw32.CheckpointSizes" = some 4 by kernel_rfl).symm.trans hf) |>.symm
  obtain rfl : fn = Tryd.f4 := (Option.some.inj (Tryd.func4.symm.trans hfn)).symm
  refine ⟨by kernel_rfl, fun j t ht => ?_⟩
  rw [Tryd.params4] at ht
  have hm := Array.mem_of_getElem? ht
  exact wants_all (by kernel_rfl) t hm

/-- The card. -/
theorem sizes_card : Rows.CheckpointSizesCardSaid :=
  Claim7.holds_tied_plain_at .later [] _ _ _ _ sizes_holds (fun _ h => by cases h) (by kernel_rfl) (fun _ h => by cases h) checkpointSizes_row_tie rfl ⟨rfl, rfl⟩ (by kernel_rfl) rfl sizes_plain (by kernel_rfl)

#print axioms sizes_card
end Go.Proofs.YtcjkllmellampaaDoor
