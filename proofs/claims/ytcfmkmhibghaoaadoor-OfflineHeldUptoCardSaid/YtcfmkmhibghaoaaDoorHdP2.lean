/-
  OfflineHeld returns true for all operations, changes, paths and clients that are of bulk at most 1048576: the card, second form.
-/
import Derived.Test.YtcfmkmhibghaoaaDoorDoorL
import Derived.Test.YtcfmkmhibghaoaaDoorCards
import Derived.Test.YtcfmkmhibghaoaaDoorTie
import Derived.Test.YtcfmkmhibghaoaaDoorHd
import Derived.Test.YtcfmkmhibghaoaaDoorHdO
import Derived.Deep.Strs
import Derived.Deep.Slices
namespace Go.Proofs.YtcfmkmhibghaoaaDoor
open Go.ChangeShapes Go.WideShapes Go.ChangeAt Go.RowKit Go.Joins Go.Deep
open Go.ChangeMaps (open_string)

theorem str_le {H : Type} {d : DataW H} {s : ByteArray} {N : Nat} (h : d = .lit (.string s.data.toList)) (hb : Rows.uptoBulk d ≤ N) : s.size ≤ N := by
  rw [h] at hb
  simp only [Rows.uptoBulk, Array.length_toList] at hb
  have : s.data.size = s.size := rfl
  omega
theorem lawHeld (OA : Option Addr) (oc : Nat) (ops : List LOp) (A : Option Addr) (ca : Nat) (l : List Chg) (p client : ByteArray) (fence base : Int) (W : World) (hO : OpsIn OA ops W) (hos : ∀ o ∈ ops, o.p.size ≤ 1048576 ∧ o.h.size ≤ 1048576) (hA : ChsIn A l W) (hb : ChBnd l) (hp : p.size ≤ 1048576) (hc : client.size ≤ 1048576) (hbs : -9223372036854775808 ≤ base ∧ base ≤ 9223372036854775807) (hg : G0 W) :
    Calls Tryd.prog 4 #[.slice OA ops.length oc, .slice A l.length ca, .string p, .string client, .int .i64 fence, .int .i64 base] W fun e w' => e = .returned (.bool true) ∧ Below W.heap.size W w' :=
  held_any ops OA oc l A ca p client fence base W hO hos hA hb hp hc hbs hg

set_option maxRecDepth 100000 in
theorem held_contract (H : Type) (enc : TypeId × Value → H) (W : World) (base : Nat) (args : Array Value) (ds gs : List (DataW H)) (before : List MemPlace)
    (hval0 : ∀ (j : Nat) t v, Tryd.f4.params[j]? = some t → args[j]? = some v → Value.okWide Tryd.prog W .any base t v)
    (hW : DataW.Whole enc Tryd.prog Tryd.f4.params.toList Rows.offlineHeldSpec.vars false W args.toList ds gs before) (hsh : W.ShapedOpen Tryd.prog) (hcond : Rows.uptoBulkAll (ds ++ gs) ≤ 1048576) :
    Calls Tryd.prog 4 args W fun e W' => ∃ v, e = .returned v ∧ Rows.offlineHeldSpec.post enc Tryd.prog Tryd.f4 false true false false W args v W' := by
  have hg : G0 W := g0_of_shaped hsh
  have hval : ∀ (j : Nat) t v, Tryd.f4.params[j]? = some t → args[j]? = some v → Value.okWide Tryd.prog W .any base t v := hval0
  have hW' := hW
  obtain ⟨_, _, hA0, hV, rfl, hfz, hnd⟩ := hW
  have hA : DataW.TrodAll enc Tryd.prog W 0 (fun _ => true) true Tryd.f4.params.toList args.toList ds _ := hA0
  rw [Tryd.params4] at hA hval
  obtain ⟨argl⟩ := args
  obtain ⟨v0, vs0, d0, ds0, p0, q0, eqv0, eqd0, _, h0, t0⟩ := trodAll_cons hA
  obtain ⟨v1, vs1, d1, ds1, p1, q1, eqv1, eqd1, _, h1, t1⟩ := trodAll_cons t0
  obtain ⟨v2, vs2, d2, ds2, p2, q2, eqv2, eqd2, _, h2, t2⟩ := trodAll_cons t1
  obtain ⟨v3, vs3, d3, ds3, p3, q3, eqv3, eqd3, _, h3, t3⟩ := trodAll_cons t2
  obtain ⟨v4, vs4, d4, ds4, p4, q4, eqv4, eqd4, _, h4, t4⟩ := trodAll_cons t3
  obtain ⟨v5, vs5, d5, ds5, p5, q5, eqv5, eqd5, _, h5, t5⟩ := trodAll_cons t4
  obtain ⟨eqv, eqd, _⟩ := trodAll_nil t5
  dsimp only at eqv0
  obtain rfl : argl = [v0, v1, v2, v3, v4, v5] := by rw [eqv0, eqv1, eqv2, eqv3, eqv4, eqv5, eqv]
  obtain rfl : ds = [d0, d1, d2, d3, d4, d5] := by rw [eqd0, eqd1, eqd2, eqd3, eqd4, eqd5, eqd]
  obtain ⟨oa, oc, o, rfl, r_o, n_o, s_o⟩ := open_opsU (hval 0 43 v0 rfl rfl) h0
  obtain ⟨la, lc, l, rfl, r_l, s_l⟩ := open_chgsU (hval 1 22 v1 rfl rfl) h1
  obtain ⟨p, rfl, e_p, _, s_p⟩ := open_string Tryd.underlying9 (hval 2 9 v2 rfl rfl) h2
  obtain ⟨client, rfl, e_client, _, s_client⟩ := open_string Tryd.underlying9 (hval 3 9 v3 rfl rfl) h3
  obtain ⟨fence, rfl, _, _, w_fence⟩ := open_int Tryd.underlying3 (hval 4 3 v4 rfl rfl) h4
  obtain ⟨base, rfl, _, _, w_base⟩ := open_int Tryd.underlying3 (hval 5 3 v5 rfl rfl) h5
  have b_0 : Rows.uptoBulk d0 ≤ 1048576 := Nat.le_trans (bulk_mem (by simp)) hcond
  have b_1 : Rows.uptoBulk d1 ≤ 1048576 := Nat.le_trans (bulk_mem (by simp)) hcond
  have b_2 : Rows.uptoBulk d2 ≤ 1048576 := Nat.le_trans (bulk_mem (by simp)) hcond
  have b_3 : Rows.uptoBulk d3 ≤ 1048576 := Nat.le_trans (bulk_mem (by simp)) hcond
  have b_4 : Rows.uptoBulk d4 ≤ 1048576 := Nat.le_trans (bulk_mem (by simp)) hcond
  have b_5 : Rows.uptoBulk d5 ≤ 1048576 := Nat.le_trans (bulk_mem (by simp)) hcond
  refine (lawHeld oa oc o la lc l p client fence base W r_o (fun x hx => ⟨Nat.le_trans (s_o x hx).1 b_0, Nat.le_trans (s_o x hx).2 b_0⟩) r_l (s_l b_1) (str_le e_p b_2) (str_le e_client b_3) (wf_i64 w_base) hg).mono fun e W' ⟨he, hb⟩ => ⟨_, he, ?_⟩
  exact law_post Tryd.laidOut rfl hW' (by kernel_rfl) rfl Tryd.underlying4 (fun hg => by subst hg; exact ⟨rfl, rfl, rfl⟩) hb

theorem held_met (os : Os) : laidMet Tryd.prog Rows.offlineHeldUptoRow.laid ((laidWorld os).forCall (fun _ _ => 0) ⟨#[], #[.slice none 0 0, .slice none 0 0, .string ⟨#[]⟩, .string ⟨#[]⟩, .int .i64 0, .int .i64 0], []⟩).memory :=
  laidMet_of_run' 8 (by kernel_rfl) (by kernel_rfl)
theorem held_reads (os : Os) {H : Type} (enc : TypeId × Value → H) : ∃ places, DataW.whole enc Tryd.prog ((laidWorld os).forCall (fun _ _ => 0) ⟨#[], #[.slice none 0 0, .slice none 0 0, .string ⟨#[]⟩, .string ⟨#[]⟩, .int .i64 0, .int .i64 0], []⟩).memory Tryd.f4.params.toList Rows.offlineHeldSpec.vars false (#[.slice none 0 0, .slice none 0 0, .string ⟨#[]⟩, .string ⟨#[]⟩, .int .i64 0, .int .i64 0] : Array Value).toList 8 = some ([.nil, .nil, .lit (.string []), .lit (.string []), .lit (.int .i64 0), .lit (.int .i64 0)], [], places) :=
  ⟨[], by kernel_rfl⟩

set_option maxRecDepth 100000 in
theorem held_lifted (os : Os) (started : os.Started) (H : Type) (enc : TypeId × Value → H) (F : Stop.Interp) :
    ReturnsInHanded {} Tryd.checked os 4 .any ((Rows.OpenSpec.upto Rows.offlineHeldSpec).preRow enc Tryd.prog Tryd.f4 Rows.offlineHeldUptoRow.domain false Rows.offlineHeldUptoRow.laid) (((Rows.OpenSpec.upto Rows.offlineHeldSpec).at F).post enc Tryd.prog Tryd.f4 false true false false) := by
  obtain ⟨places, hx⟩ := held_reads os enc
  refine returnsInHanded_of_row (C := Tryd.checked) (s := Rows.OpenSpec.upto Rows.offlineHeldSpec) Tryd.own started (by kernel_rfl) Tryd.func4
    (witness_row_at (enc := enc) (C := Tryd.checked) false (laidWorld os) #[.slice none 0 0, .slice none 0 0, .string ⟨#[]⟩, .string ⟨#[]⟩, .int .i64 0, .int .i64 0] rfl (by kernel_rfl) (by kernel_rfl) (by kernel_rfl)
      (OpenSpec.preRow_of_cond 8 hx (by kernel_rfl) (fun k hk => by cases hk; kernel_rfl) (by kernel_rfl) (held_met os))) ?_
  intro W base args ds gs before hval hW _ hcond _ _ hsh _
  exact held_contract H enc W base args ds gs before hval hW hsh (of_decide_eq_true (hcond _ rfl))

theorem held_holds : Rows.OfflineHeldUptoSaid :=
  OpenClaim.holds_of_cond 4 Tryd.f4 rfl rfl rfl rfl rfl rfl rfl ⟨rfl, rfl, rfl, rfl, rfl⟩ rfl rfl rfl rfl rfl (by kernel_rfl) Tryd.func4 (by kernel_rfl)
    (of_decide_eq_true (by kernel_rfl)) (by unfold Func.isWrapper; first | (rw [if_pos (by decide +kernel)]; kernel_rfl) | (rw [if_neg (by decide +kernel)]; exact ⟨rfl, rfl⟩))
    (fun os started H enc _ F => by rw [OpenClaim.pre_eq_preRow]; exact held_lifted os started H enc F)

theorem held_plain (f : FuncId) (fn : Func) (hf : Tryd.pinned.checked.prog.funcNamed "stockyard/stockyardlaw20.OfflineHeld" = some f) (hfn : Tryd.pinned.checked.prog.funcs[f]? = some fn) :
    false = Tryd.pinned.checked.prog.looks [] ∧ ∀ (j : Nat) t, fn.params[j]? = some t → Tryd.pinned.checked.prog.wantsStandIn t = false := by
  obtain rfl : f = 4 := Option.some.inj ((show Tryd.prog.funcNamed "stockyard/stockyardlaw20.OfflineHeld" = some 4 by kernel_rfl).symm.trans hf) |>.symm
  obtain rfl : fn = Tryd.f4 := (Option.some.inj (Tryd.func4.symm.trans hfn)).symm
  refine ⟨by kernel_rfl, fun j t ht => ?_⟩
  rw [Tryd.params4] at ht
  have hm := Array.mem_of_getElem? ht
  exact wants_all (by kernel_rfl) t hm

/-- The card. -/
theorem held_card : Rows.OfflineHeldUptoCardSaid :=
  Claim7.holds_tied_plain_at .later [] _ _ _ _ held_holds (fun _ h => by cases h) (by kernel_rfl) (fun _ h => by cases h) offlineHeldUpto_row_tie rfl ⟨rfl, rfl⟩ (by kernel_rfl) rfl held_plain (by kernel_rfl)

#print axioms held_card
end Go.Proofs.YtcfmkmhibghaoaaDoor
