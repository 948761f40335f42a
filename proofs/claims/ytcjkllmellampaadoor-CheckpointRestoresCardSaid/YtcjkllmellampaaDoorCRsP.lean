/-
  CheckpointRestores holds: the recovery theorem. If every state that is saved is the concatenation of the first position records, and records are cut only up to the position of a checkpoint whose Save returned OK, then after any power failures Recover returns a state and records that together are a beginning of the records that were appended, with all whose Commit returned OK. No conditions.
-/
import Derived.Test.YtcjkllmellampaaDoorDoorC
import Derived.Test.YtcjkllmellampaaDoorCards
import Derived.Test.YtcjkllmellampaaDoorTie
import Derived.Test.YtcjkllmellampaaDoorCRs
namespace Go.Proofs.YtcjkllmellampaaDoor
open Go.ChangeShapes Go.WideShapes Go.ChangeAt Go.RowKit Go.Joins Go.Deep
open Go.ChangeMaps (open_string)

set_option maxRecDepth 100000 in
theorem restores_contract (H : Type) (enc : TypeId × Value → H) (W : World) (base : Nat) (args : Array Value) (ds gs : List (DataW H)) (before : List MemPlace)
    (hval0 : ∀ (j : Nat) t v, Tryd.f10.params[j]? = some t → args[j]? = some v → Value.okWide Tryd.prog W .any base t v)
    (hW : DataW.Whole enc Tryd.prog Tryd.f10.params.toList Rows.checkpointRestoresSpec.vars false W args.toList ds gs before) (_hsh : W.ShapedOpen Tryd.prog) :
    Calls Tryd.prog 10 args W fun e W' => ∃ v, e = .returned v ∧ Rows.checkpointRestoresSpec.post enc Tryd.prog Tryd.f10 false true false false W args v W' := by
  have hval : ∀ (j : Nat) t v, Tryd.f10.params[j]? = some t → args[j]? = some v → Value.okWide Tryd.prog W .any base t v := hval0
  have hW' := hW
  obtain ⟨_, _, hA0, hV, rfl, hfz, hnd⟩ := hW
  have hA : DataW.TrodAll enc Tryd.prog W 0 (fun _ => true) true Tryd.f10.params.toList args.toList ds _ := hA0
  rw [Tryd.params10] at hA hval
  obtain ⟨argl⟩ := args
  obtain ⟨v0, vs0, d0, ds0, p0, q0, eqv0, eqd0, _, h0, t0⟩ := trodAll_cons hA
  obtain ⟨eqv, eqd, _⟩ := trodAll_nil t0
  dsimp only at eqv0
  obtain rfl : argl = [v0] := by rw [eqv0, eqv]
  obtain rfl : ds = [d0] := by rw [eqd0, eqd]
  obtain ⟨la, lc, l, rfl, l_l, m_l, z_l, r_l, w_l⟩ := open_nums Tryd.underlying22 Tryd.underlying3 (by kernel_rfl) (hval 0 22 v0 rfl rfl) h0
  refine (lawRestores_any W la lc l r_l w_l).mono fun e W' ⟨he, hb⟩ => ⟨_, he, ?_⟩
  exact law_post Tryd.laidOut rfl hW' (by kernel_rfl) rfl Tryd.underlying4 (fun hg => by subst hg; exact ⟨rfl, rfl, rfl⟩) hb

theorem restores_met (os : Os) : laidMet Tryd.prog Rows.checkpointRestoresRow.laid ((laidWorld os).forCall (fun _ _ => 0) ⟨#[], #[.slice none 0 0], []⟩).memory :=
  laidMet_of_run' 8 (by kernel_rfl) (by kernel_rfl)
theorem restores_reads (os : Os) {H : Type} (enc : TypeId × Value → H) : ∃ places, DataW.whole enc Tryd.prog ((laidWorld os).forCall (fun _ _ => 0) ⟨#[], #[.slice none 0 0], []⟩).memory Tryd.f10.params.toList Rows.checkpointRestoresSpec.vars false (#[.slice none 0 0] : Array Value).toList 8 = some ([.nil], [], places) :=
  ⟨[], by kernel_rfl⟩

set_option maxRecDepth 100000 in
theorem restores_lifted (os : Os) (started : os.Started) (H : Type) (enc : TypeId × Value → H) (F : Stop.Interp) :
    ReturnsInHanded {} Tryd.checked os 10 .any ((OpenSpec.ofChange Rows.checkpointRestoresSpec).preRow enc Tryd.prog Tryd.f10 Rows.checkpointRestoresRow.domain false Rows.checkpointRestoresRow.laid) (((OpenSpec.ofChange Rows.checkpointRestoresSpec).at F).post enc Tryd.prog Tryd.f10 false true false false) := by
  obtain ⟨places, hx⟩ := restores_reads os enc
  refine returnsInHanded_of_row (C := Tryd.checked) (s := OpenSpec.ofChange Rows.checkpointRestoresSpec) Tryd.own started (by kernel_rfl) Tryd.func10
    (witness_row_at (enc := enc) (C := Tryd.checked) false (laidWorld os) #[.slice none 0 0] rfl (by kernel_rfl) (by kernel_rfl) (by kernel_rfl)
      (OpenSpec.preRow_of_cond 8 hx (by kernel_rfl) (fun k hk => by cases hk) (by kernel_rfl) (restores_met os))) ?_
  intro W base args ds gs before hval hW _ _ _ _ hsh _
  exact restores_contract H enc W base args ds gs before hval hW hsh

theorem restores_holds : Rows.CheckpointRestoresSaid :=
  OpenClaim.holds_of_cond 10 Tryd.f10 rfl rfl rfl rfl rfl rfl rfl ⟨rfl, rfl, rfl, rfl, rfl⟩ rfl rfl rfl rfl rfl (by kernel_rfl) Tryd.func10 (by kernel_rfl)
    (of_decide_eq_true (by kernel_rfl)) (by unfold Func.isWrapper; first | (rw [if_pos (by decide +kernel)]; kernel_rfl) | (rw [if_neg (by decide +kernel)]; exact ⟨rfl, rfl⟩))
    (fun os started H enc _ F => by rw [OpenClaim.pre_eq_preRow]; exact restores_lifted os started H enc F)

theorem restores_plain (f : FuncId) (fn : Func) (hf : Tryd.pinned.checked.prog.funcNamed "stockyard/stockyardlaw32.CheckpointRestores" = some f) (hfn : Tryd.pinned.checked.prog.funcs[f]? = some fn) :
    true = Tryd.pinned.checked.prog.looks [] ∧ ∀ (j : Nat) t, fn.params[j]? = some t → Tryd.pinned.checked.prog.wantsStandIn t = false := by
  obtain rfl : f = 10 := Option.some.inj ((show Tryd.prog.funcNamed "stockyard/stockyardlaw32.CheckpointRestores" = some 10 by kernel_rfl).symm.trans hf) |>.symm
  obtain rfl : fn = Tryd.f10 := (Option.some.inj (Tryd.func10.symm.trans hfn)).symm
  refine ⟨by kernel_rfl, fun j t ht => ?_⟩
  rw [Tryd.params10] at ht
  have hm := Array.mem_of_getElem? ht
  exact wants_all (by kernel_rfl) t hm

/-- The card. -/
theorem restores_card : Rows.CheckpointRestoresCardSaid :=
  Claim7.holds_tied_plain_at .later [] _ _ _ _ restores_holds (fun _ h => by cases h) (by kernel_rfl) (fun _ h => by cases h) checkpointRestores_row_tie rfl ⟨rfl, rfl⟩ (by kernel_rfl) rfl restores_plain (by kernel_rfl)

#print axioms restores_card
end Go.Proofs.YtcjkllmellampaaDoor
