/-
  ChangelistChain: whatever the input whose bulk is at most 1048576, true.
-/
import Derived.Test.YtocffknoeknabaaDoorDoorL
import Derived.Test.YtocffknoeknabaaDoorCards
import Derived.Test.YtocffknoeknabaaDoorTie
import Derived.Test.YtocffknoeknabaaDoorClCh
import Derived.Test.YtocffknoeknabaaDoorOpC
import Derived.Test.YtocffknoeknabaaDoorCgI
import Derived.Deep.Strs
import Derived.Deep.Slices
namespace Go.Proofs.YtocffknoeknabaaDoor
open Go.ChangeShapes Go.WideShapes Go.ChangeAt Go.RowKit Go.Joins Go.Deep
open Go.ChangeMaps (open_string)

theorem str_le {H : Type} {d : DataW H} {s : ByteArray} (e : d = .lit (.string s.data.toList)) (h : Rows.uptoBulk d ≤ 1048576) : s.size ≤ 1048576 := by
  subst e
  have h2 : Rows.uptoBulk (.lit (.string s.data.toList) : DataW H) = s.size + 1 := by
    simp only [Rows.uptoBulk, Array.length_toList]
    rfl
  omega
theorem lawChain (A : Option Addr) (ca : Nat) (l : List Chg) (F : Option Addr) (fc : Nat) (ops : List Opr) (s m t : ByteArray) (W : World) (hA : ChsIn A l W) (hb : ChBnd l) (hF : oprK.In F ops W) (ho : ops.length ≤ 1048576 ∧ ∀ o ∈ ops, o.s.size ≤ 1048576 ∧ o.t.size ≤ 1048576) (hs : s.size ≤ 1048576) (hm : m.size ≤ 1048576) (ht : t.size ≤ 1048576) (hg : G0 W) :
    Calls Tryd.prog 3 #[.slice A l.length ca, .slice F ops.length fc, .string s, .string m, .string t] W fun e w' => e = .returned (.bool true) ∧ Below W.heap.size W w' :=
  chain_any l ops A F ca fc s m t W hA hb hF ho.1 ho.2 hs hm ht hg

set_option maxRecDepth 100000 in
theorem chain_contract (H : Type) (enc : TypeId × Value → H) (W : World) (base : Nat) (args : Array Value) (ds gs : List (DataW H)) (before : List MemPlace)
    (hval0 : ∀ (j : Nat) t v, Tryd.f3.params[j]? = some t → args[j]? = some v → Value.okWide Tryd.prog W .any base t v)
    (hW : DataW.Whole enc Tryd.prog Tryd.f3.params.toList Rows.changelistChainSpec.vars false W args.toList ds gs before) (hsh : W.ShapedOpen Tryd.prog) (hcond : Rows.uptoBulkAll (ds ++ gs) ≤ 1048576) :
    Calls Tryd.prog 3 args W fun e W' => ∃ v, e = .returned v ∧ Rows.changelistChainSpec.post enc Tryd.prog Tryd.f3 false true false false W args v W' := by
  have hg : G0 W := g0_of_shaped hsh
  have hval : ∀ (j : Nat) t v, Tryd.f3.params[j]? = some t → args[j]? = some v → Value.okWide Tryd.prog W .any base t v := hval0
  have hW' := hW
  obtain ⟨_, _, hA0, hV, rfl, hfz, hnd⟩ := hW
  have hA : DataW.TrodAll enc Tryd.prog W 0 (fun _ => true) true Tryd.f3.params.toList args.toList ds _ := hA0
  rw [Tryd.params3] at hA hval
  obtain ⟨argl⟩ := args
  obtain ⟨v0, vs0, d0, ds0, p0, q0, eqv0, eqd0, _, h0, t0⟩ := trodAll_cons hA
  obtain ⟨v1, vs1, d1, ds1, p1, q1, eqv1, eqd1, _, h1, t1⟩ := trodAll_cons t0
  obtain ⟨v2, vs2, d2, ds2, p2, q2, eqv2, eqd2, _, h2, t2⟩ := trodAll_cons t1
  obtain ⟨v3, vs3, d3, ds3, p3, q3, eqv3, eqd3, _, h3, t3⟩ := trodAll_cons t2
  obtain ⟨v4, vs4, d4, ds4, p4, q4, eqv4, eqd4, _, h4, t4⟩ := trodAll_cons t3
  obtain ⟨eqv, eqd, _⟩ := trodAll_nil t4
  dsimp only at eqv0
  obtain rfl : argl = [v0, v1, v2, v3, v4] := by rw [eqv0, eqv1, eqv2, eqv3, eqv4, eqv]
  obtain rfl : ds = [d0, d1, d2, d3, d4] := by rw [eqd0, eqd1, eqd2, eqd3, eqd4, eqd]
  obtain ⟨la, lc, l, rfl, r_l, s_l⟩ := open_chgsU (hval 0 22 v0 rfl rfl) h0
  obtain ⟨opsa, opsc, ops, rfl, r_ops, s_ops⟩ := open_oprsU (hval 1 23 v1 rfl rfl) h1
  obtain ⟨s, rfl, e_s, _, s_s⟩ := open_string Tryd.underlying9 (hval 2 9 v2 rfl rfl) h2
  obtain ⟨m, rfl, e_m, _, s_m⟩ := open_string Tryd.underlying9 (hval 3 9 v3 rfl rfl) h3
  obtain ⟨t, rfl, e_t, _, s_t⟩ := open_string Tryd.underlying9 (hval 4 9 v4 rfl rfl) h4
  have b_0 : Rows.uptoBulk d0 ≤ 1048576 := Nat.le_trans (bulk_mem (by simp)) hcond
  have b_1 : Rows.uptoBulk d1 ≤ 1048576 := Nat.le_trans (bulk_mem (by simp)) hcond
  have b_2 : Rows.uptoBulk d2 ≤ 1048576 := Nat.le_trans (bulk_mem (by simp)) hcond
  have b_3 : Rows.uptoBulk d3 ≤ 1048576 := Nat.le_trans (bulk_mem (by simp)) hcond
  have b_4 : Rows.uptoBulk d4 ≤ 1048576 := Nat.le_trans (bulk_mem (by simp)) hcond
  refine (lawChain la lc l opsa opsc ops s m t W r_l (s_l b_0) r_ops (s_ops b_1) (str_le e_s b_2) (str_le e_m b_3) (str_le e_t b_4) hg).mono fun e W' ⟨he, hb⟩ => ⟨_, he, ?_⟩
  exact law_post Tryd.laidOut rfl hW' (by kernel_rfl) rfl Tryd.underlying4 (fun hg => by subst hg; exact ⟨rfl, rfl, rfl⟩) hb

theorem chain_met (os : Os) : laidMet Tryd.prog Rows.changelistChainUptoRow.laid ((laidWorld os).forCall (fun _ _ => 0) ⟨#[], #[.slice none 0 0, .slice none 0 0, .string ⟨#[]⟩, .string ⟨#[]⟩, .string ⟨#[]⟩], []⟩).memory :=
  laidMet_of_run' 8 (by kernel_rfl) (by kernel_rfl)
theorem chain_reads (os : Os) {H : Type} (enc : TypeId × Value → H) : ∃ places, DataW.whole enc Tryd.prog ((laidWorld os).forCall (fun _ _ => 0) ⟨#[], #[.slice none 0 0, .slice none 0 0, .string ⟨#[]⟩, .string ⟨#[]⟩, .string ⟨#[]⟩], []⟩).memory Tryd.f3.params.toList Rows.changelistChainSpec.vars false (#[.slice none 0 0, .slice none 0 0, .string ⟨#[]⟩, .string ⟨#[]⟩, .string ⟨#[]⟩] : Array Value).toList 8 = some ([.nil, .nil, .lit (.string []), .lit (.string []), .lit (.string [])], [], places) :=
  ⟨[], by kernel_rfl⟩

set_option maxRecDepth 100000 in
theorem chain_lifted (os : Os) (started : os.Started) (H : Type) (enc : TypeId × Value → H) (F : Stop.Interp) :
    ReturnsInHanded {} Tryd.checked os 3 .any ((Rows.OpenSpec.upto Rows.changelistChainSpec).preRow enc Tryd.prog Tryd.f3 Rows.changelistChainUptoRow.domain false Rows.changelistChainUptoRow.laid) (((Rows.OpenSpec.upto Rows.changelistChainSpec).at F).post enc Tryd.prog Tryd.f3 false true false false) := by
  obtain ⟨places, hx⟩ := chain_reads os enc
  refine returnsInHanded_of_row (C := Tryd.checked) (s := Rows.OpenSpec.upto Rows.changelistChainSpec) Tryd.own started (by kernel_rfl) Tryd.func3
    (witness_row_at (enc := enc) (C := Tryd.checked) false (laidWorld os) #[.slice none 0 0, .slice none 0 0, .string ⟨#[]⟩, .string ⟨#[]⟩, .string ⟨#[]⟩] rfl (by kernel_rfl) (by kernel_rfl) (by kernel_rfl)
      (OpenSpec.preRow_of_cond 8 hx (by kernel_rfl) (fun k hk => by cases hk; kernel_rfl) (by kernel_rfl) (chain_met os))) ?_
  intro W base args ds gs before hval hW _ hcond _ _ hsh _
  exact chain_contract H enc W base args ds gs before hval hW hsh (of_decide_eq_true (hcond _ rfl))

theorem chain_holds : Rows.ChangelistChainUptoSaid :=
  OpenClaim.holds_of_cond 3 Tryd.f3 rfl rfl rfl rfl rfl rfl rfl ⟨rfl, rfl, rfl, rfl, rfl⟩ rfl rfl rfl rfl rfl (by kernel_rfl) Tryd.func3 (by kernel_rfl)
    (of_decide_eq_true (by kernel_rfl)) (by unfold Func.isWrapper; first | (rw [if_pos (by decide +kernel)]; kernel_rfl) | (rw [if_neg (by decide +kernel)]; exact ⟨rfl, rfl⟩))
    (fun os started H enc _ F => by rw [OpenClaim.pre_eq_preRow]; exact chain_lifted os started H enc F)

theorem chain_plain (f : FuncId) (fn : Func) (hf : Tryd.pinned.checked.prog.funcNamed "stockyard/stockyardlaw18.ChangelistChain" = some f) (hfn : Tryd.pinned.checked.prog.funcs[f]? = some fn) :
    false = Tryd.pinned.checked.prog.looks [] ∧ ∀ (j : Nat) t, fn.params[j]? = some t → Tryd.pinned.checked.prog.wantsStandIn t = false := by
  obtain rfl : f = 3 := Option.some.inj ((show Tryd.prog.funcNamed "stockyard/stockyardlaw18.ChangelistChain" = some 3 by kernel_rfl).symm.trans hf) |>.symm
  obtain rfl : fn = Tryd.f3 := (Option.some.inj (Tryd.func3.symm.trans hfn)).symm
  refine ⟨by kernel_rfl, fun j t ht => ?_⟩
  rw [Tryd.params3] at ht
  have hm := Array.mem_of_getElem? ht
  exact wants_all (by kernel_rfl) t hm

/-- The card. -/
theorem chain_card : Rows.ChangelistChainUptoCardSaid :=
  Claim7.holds_tied_plain_at .later [] _ _ _ _ chain_holds (fun _ h => by cases h) (by kernel_rfl) (fun _ h => by cases h) changelistChainUpto_row_tie rfl ⟨rfl, rfl⟩ (by kernel_rfl) rfl chain_plain (by kernel_rfl)

#print axioms chain_card
end Go.Proofs.YtocffknoeknabaaDoor
