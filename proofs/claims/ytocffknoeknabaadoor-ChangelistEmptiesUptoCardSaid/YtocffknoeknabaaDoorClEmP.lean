/-
  ChangelistEmpties: whatever the input whose bulk is at most 1048576, true.
-/
import Derived.Test.YtocffknoeknabaaDoorDoorL
import Derived.Test.YtocffknoeknabaaDoorCards
import Derived.Test.YtocffknoeknabaaDoorTie
import Derived.Test.YtocffknoeknabaaDoorClEm
import Derived.Test.YtocffknoeknabaaDoorOpC
import Derived.Test.YtocffknoeknabaaDoorCgI
import Derived.Deep.Strs
import Derived.Deep.Slices
namespace Go.Proofs.YtocffknoeknabaaDoor
open Go.ChangeShapes Go.WideShapes Go.ChangeAt Go.RowKit Go.Joins Go.Deep
open Go.ChangeMaps (open_string)

theorem lawEmpties (A : Option Addr) (ca : Nat) (l : List Chg) (F : Option Addr) (fc : Nat) (ops : List Opr) (turn : Int) (W : World) (hA : ChsIn A l W) (hb : ChBnd l) (hF : oprK.In F ops W) (ho : ops.length ≤ 1048576 ∧ ∀ o ∈ ops, o.s.size ≤ 1048576 ∧ o.t.size ≤ 1048576) (hg : G0 W) :
    Calls Tryd.prog 5 #[.slice A l.length ca, .slice F ops.length fc, .int .i64 turn] W fun e w' => e = .returned (.bool true) ∧ Below W.heap.size W w' :=
  empties_any l ops A F ca fc turn W hA hb hF ho.1 ho.2 hg

set_option maxRecDepth 100000 in
theorem empties_contract (H : Type) (enc : TypeId × Value → H) (W : World) (base : Nat) (args : Array Value) (ds gs : List (DataW H)) (before : List MemPlace)
    (hval0 : ∀ (j : Nat) t v, Tryd.f5.params[j]? = some t → args[j]? = some v → Value.okWide Tryd.prog W .any base t v)
    (hW : DataW.Whole enc Tryd.prog Tryd.f5.params.toList Rows.changelistEmptiesSpec.vars false W args.toList ds gs before) (hsh : W.ShapedOpen Tryd.prog) (hcond : Rows.uptoBulkAll (ds ++ gs) ≤ 1048576) :
    Calls Tryd.prog 5 args W fun e W' => ∃ v, e = .returned v ∧ Rows.changelistEmptiesSpec.post enc Tryd.prog Tryd.f5 false true false false W args v W' := by
  have hg : G0 W := g0_of_shaped hsh
  have hval : ∀ (j : Nat) t v, Tryd.f5.params[j]? = some t → args[j]? = some v → Value.okWide Tryd.prog W .any base t v := hval0
  have hW' := hW
  obtain ⟨_, _, hA0, hV, rfl, hfz, hnd⟩ := hW
  have hA : DataW.TrodAll enc Tryd.prog W 0 (fun _ => true) true Tryd.f5.params.toList args.toList ds _ := hA0
  rw [Tryd.params5] at hA hval
  obtain ⟨argl⟩ := args
  obtain ⟨v0, vs0, d0, ds0, p0, q0, eqv0, eqd0, _, h0, t0⟩ := trodAll_cons hA
  obtain ⟨v1, vs1, d1, ds1, p1, q1, eqv1, eqd1, _, h1, t1⟩ := trodAll_cons t0
  obtain ⟨v2, vs2, d2, ds2, p2, q2, eqv2, eqd2, _, h2, t2⟩ := trodAll_cons t1
  obtain ⟨eqv, eqd, _⟩ := trodAll_nil t2
  dsimp only at eqv0
  obtain rfl : argl = [v0, v1, v2] := by rw [eqv0, eqv1, eqv2, eqv]
  obtain rfl : ds = [d0, d1, d2] := by rw [eqd0, eqd1, eqd2, eqd]
  obtain ⟨la, lc, l, rfl, r_l, s_l⟩ := open_chgsU (hval 0 22 v0 rfl rfl) h0
  obtain ⟨opsa, opsc, ops, rfl, r_ops, s_ops⟩ := open_oprsU (hval 1 23 v1 rfl rfl) h1
  obtain ⟨turn, rfl, _, _, w_turn⟩ := open_int Tryd.underlying3 (hval 2 3 v2 rfl rfl) h2
  have b_0 : Rows.uptoBulk d0 ≤ 1048576 := Nat.le_trans (bulk_mem (by simp)) hcond
  have b_1 : Rows.uptoBulk d1 ≤ 1048576 := Nat.le_trans (bulk_mem (by simp)) hcond
  have b_2 : Rows.uptoBulk d2 ≤ 1048576 := Nat.le_trans (bulk_mem (by simp)) hcond
  refine (lawEmpties la lc l opsa opsc ops turn W r_l (s_l b_0) r_ops (s_ops b_1) hg).mono fun e W' ⟨he, hb⟩ => ⟨_, he, ?_⟩
  exact law_post Tryd.laidOut rfl hW' (by kernel_rfl) rfl Tryd.underlying4 (fun hg => by subst hg; exact ⟨rfl, rfl, rfl⟩) hb

theorem empties_met (os : Os) : laidMet Tryd.prog Rows.changelistEmptiesUptoRow.laid ((laidWorld os).forCall (fun _ _ => 0) ⟨#[], #[.slice none 0 0, .slice none 0 0, .int .i64 0], []⟩).memory :=
  laidMet_of_run' 8 (by kernel_rfl) (by kernel_rfl)
theorem empties_reads (os : Os) {H : Type} (enc : TypeId × Value → H) : ∃ places, DataW.whole enc Tryd.prog ((laidWorld os).forCall (fun _ _ => 0) ⟨#[], #[.slice none 0 0, .slice none 0 0, .int .i64 0], []⟩).memory Tryd.f5.params.toList Rows.changelistEmptiesSpec.vars false (#[.slice none 0 0, .slice none 0 0, .int .i64 0] : Array Value).toList 8 = some ([.nil, .nil, .lit (.int .i64 0)], [], places) :=
  ⟨[], by kernel_rfl⟩

set_option maxRecDepth 100000 in
theorem empties_lifted (os : Os) (started : os.Started) (H : Type) (enc : TypeId × Value → H) (F : Stop.Interp) :
    ReturnsInHanded {} Tryd.checked os 5 .any ((Rows.OpenSpec.upto Rows.changelistEmptiesSpec).preRow enc Tryd.prog Tryd.f5 Rows.changelistEmptiesUptoRow.domain false Rows.changelistEmptiesUptoRow.laid) (((Rows.OpenSpec.upto Rows.changelistEmptiesSpec).at F).post enc Tryd.prog Tryd.f5 false true false false) := by
  obtain ⟨places, hx⟩ := empties_reads os enc
  refine returnsInHanded_of_row (C := Tryd.checked) (s := Rows.OpenSpec.upto Rows.changelistEmptiesSpec) Tryd.own started (by kernel_rfl) Tryd.func5
    (witness_row_at (enc := enc) (C := Tryd.checked) false (laidWorld os) #[.slice none 0 0, .slice none 0 0, .int .i64 0] rfl (by kernel_rfl) (by kernel_rfl) (by kernel_rfl)
      (OpenSpec.preRow_of_cond 8 hx (by kernel_rfl) (fun k hk => by cases hk; kernel_rfl) (by kernel_rfl) (empties_met os))) ?_
  intro W base args ds gs before hval hW _ hcond _ _ hsh _
  exact empties_contract H enc W base args ds gs before hval hW hsh (of_decide_eq_true (hcond _ rfl))

theorem empties_holds : Rows.ChangelistEmptiesUptoSaid :=
  OpenClaim.holds_of_cond 5 Tryd.f5 rfl rfl rfl rfl rfl rfl rfl ⟨rfl, rfl, rfl, rfl, rfl⟩ rfl rfl rfl rfl rfl (by kernel_rfl) Tryd.func5 (by kernel_rfl)
    (of_decide_eq_true (by kernel_rfl)) (by unfold Func.isWrapper; first | (rw [if_pos (by decide +kernel)]; kernel_rfl) | (rw [if_neg (by decide +kernel)]; exact ⟨rfl, rfl⟩))
    (fun os started H enc _ F => by rw [OpenClaim.pre_eq_preRow]; exact empties_lifted os started H enc F)

theorem empties_plain (f : FuncId) (fn : Func) (hf : Tryd.pinned.checked.prog.funcNamed "stockyard/stockyardlaw18.ChangelistEmpties" = some f) (hfn : Tryd.pinned.checked.prog.funcs[f]? = some fn) :
    false = Tryd.pinned.checked.prog.looks [] ∧ ∀ (j : Nat) t, fn.params[j]? = some t → Tryd.pinned.checked.prog.wantsStandIn t = false := by
  obtain rfl : f = 5 := Option.some.inj ((show Tryd.prog.funcNamed "stockyard/stockyardlaw18.ChangelistEmpties" = some 5 by kernel_rfl).symm.trans hf) |>.symm
  obtain rfl : fn = Tryd.f5 := (Option.some.inj (Tryd.func5.symm.trans hfn)).symm
  refine ⟨by kernel_rfl, fun j t ht => ?_⟩
  rw [Tryd.params5] at ht
  have hm := Array.mem_of_getElem? ht
  exact wants_all (by kernel_rfl) t hm

/-- The card. -/
theorem empties_card : Rows.ChangelistEmptiesUptoCardSaid :=
  Claim7.holds_tied_plain_at .later [] _ _ _ _ empties_holds (fun _ h => by cases h) (by kernel_rfl) (fun _ h => by cases h) changelistEmptiesUpto_row_tie rfl ⟨rfl, rfl⟩ (by kernel_rfl) rfl empties_plain (by kernel_rfl)

#print axioms empties_card
end Go.Proofs.YtocffknoeknabaaDoor
