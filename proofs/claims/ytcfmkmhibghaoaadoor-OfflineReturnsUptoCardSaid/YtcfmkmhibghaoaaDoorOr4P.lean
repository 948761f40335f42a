/-
  OfflineReturns returns true for all changes, claims and leases that are of bulk at most 1048576: the card, second form.
-/
import Derived.Test.YtcfmkmhibghaoaaDoorDoorL
import Derived.Test.YtcfmkmhibghaoaaDoorCards
import Derived.Test.YtcfmkmhibghaoaaDoorTie
import Derived.Test.YtcfmkmhibghaoaaDoorOr4
import Derived.Test.YtcfmkmhibghaoaaDoorOpC
import Derived.Deep.Strs
import Derived.Deep.Slices
namespace Go.Proofs.YtcfmkmhibghaoaaDoor
open Go.ChangeShapes Go.WideShapes Go.ChangeAt Go.RowKit Go.Joins Go.Deep
open Go.ChangeMaps (open_string)

theorem lawReturns (A : Option Addr) (ca : Nat) (l : List Chg) (p : ByteArray) (f s t dr : Int) (client lp lh : ByteArray) (lf ls lu : Int) (holds : Bool) (base : Int) (W : World) (hA : ChsIn A l W) (hb : ChBnd l) (hp : p.size ≤ 1048576) (hlp : lp.size ≤ 1048576) (hg : G0 W) :
    Calls Tryd.prog 3 #[.slice A l.length ca, .agg #[.string p, .int .i64 f, .int .i64 s, .int .i64 t, .int .i64 dr], .string client, .agg #[.string lp, .string lh, .int .i64 lf, .int .i64 ls, .int .i64 lu], .bool holds, .int .i64 base] W fun e w' => e = .returned (.bool true) ∧ Below W.heap.size W w' :=
  returns_any l A ca p f s t dr client lp lh lf ls lu holds base W hA hb hp hlp hg

set_option maxRecDepth 100000 in
theorem returns_contract (H : Type) (enc : TypeId × Value → H) (W : World) (base : Nat) (args : Array Value) (ds gs : List (DataW H)) (before : List MemPlace)
    (hval0 : ∀ (j : Nat) t v, Tryd.f3.params[j]? = some t → args[j]? = some v → Value.okWide Tryd.prog W .any base t v)
    (hW : DataW.Whole enc Tryd.prog Tryd.f3.params.toList Rows.offlineReturnsSpec.vars false W args.toList ds gs before) (hsh : W.ShapedOpen Tryd.prog) (hcond : Rows.uptoBulkAll (ds ++ gs) ≤ 1048576) :
    Calls Tryd.prog 3 args W fun e W' => ∃ v, e = .returned v ∧ Rows.offlineReturnsSpec.post enc Tryd.prog Tryd.f3 false true false false W args v W' := by
  have hg : G0 W := g0_of_shaped hsh
  have hval : ∀ (j : Nat) t v, Tryd.f3.params[j]? = some t → args[j]? = some v → Value.okWide Tryd.prog W .any base t v := hval0
  have hW' := hW
  obtain ⟨_, _, hA0, hV, rfl, hfz, hnd⟩ := hW
  have hA : DataW.TrodAll enc Tryd.prog W 0 (fun _ => true) true Tryd.f3.params.toList args.toList ds _ := hA0
  rw [Tryd.params3] at hA hval
  obtain ⟨argl⟩ := args
  obtain ⟨v0, vs0, d0, ds0, p0, q0, eqv0, eqd0, _, h0, t0⟩ := trodAll_cons hA
  obtain ⟨v1, vs1, d1, ds1, p1, q1, eqv1, eqd1, _, h1, t1⟩ := trodAll_cons t0
  obtain ⟨v2, vs2, d2, ds2, p2, q2, eqv2, eqd2, _, h2, t2⟩ := trodAll_cons t1
  obtain ⟨v3, vs3, d3, ds3, p3, q3, eqv3, eqd3, _, h3, t3⟩ := trodAll_cons t2
  obtain ⟨v4, vs4, d4, ds4, p4, q4, eqv4, eqd4, _, h4, t4⟩ := trodAll_cons t3
  obtain ⟨v5, vs5, d5, ds5, p5, q5, eqv5, eqd5, _, h5, t5⟩ := trodAll_cons t4
  obtain ⟨eqv, eqd, _⟩ := trodAll_nil t5
  dsimp only at eqv0
  obtain rfl : argl = [v0, v1, v2, v3, v4, v5] := by rw [eqv0, eqv1, eqv2, eqv3, eqv4, eqv5, eqv]
  obtain rfl : ds = [d0, d1, d2, d3, d4, d5] := by rw [eqd0, eqd1, eqd2, eqd3, eqd4, eqd5, eqd]
  obtain ⟨la, lc, l, rfl, r_l, s_l⟩ := open_chgsU (hval 0 22 v0 rfl rfl) h0
  obtain ⟨cp, cf, cs, ct, cd, rfl, s_c⟩ := open_claimU (hval 1 24 v1 rfl rfl) h1
  obtain ⟨client, rfl, e_client, _, s_client⟩ := open_string Tryd.underlying9 (hval 2 9 v2 rfl rfl) h2
  obtain ⟨xp, xh, xf, xs, xu, rfl, s_x⟩ := open_leaseU (hval 3 26 v3 rfl rfl) h3
  obtain ⟨holds, rfl, _, _⟩ := open_bool Tryd.underlying4 (hval 4 4 v4 rfl rfl) h4
  obtain ⟨base, rfl, _, _, w_base⟩ := open_int Tryd.underlying3 (hval 5 3 v5 rfl rfl) h5
  have b_0 : Rows.uptoBulk d0 ≤ 1048576 := Nat.le_trans (bulk_mem (by simp)) hcond
  have b_1 : Rows.uptoBulk d1 ≤ 1048576 := Nat.le_trans (bulk_mem (by simp)) hcond
  have b_2 : Rows.uptoBulk d2 ≤ 1048576 := Nat.le_trans (bulk_mem (by simp)) hcond
  have b_3 : Rows.uptoBulk d3 ≤ 1048576 := Nat.le_trans (bulk_mem (by simp)) hcond
  have b_4 : Rows.uptoBulk d4 ≤ 1048576 := Nat.le_trans (bulk_mem (by simp)) hcond
  have b_5 : Rows.uptoBulk d5 ≤ 1048576 := Nat.le_trans (bulk_mem (by simp)) hcond
  refine (lawReturns la lc l cp cf cs ct cd client xp xh xf xs xu holds base W r_l (s_l b_0) (Nat.le_trans s_c b_1) (Nat.le_trans s_x b_3) hg).mono fun e W' ⟨he, hb⟩ => ⟨_, he, ?_⟩
  exact law_post Tryd.laidOut rfl hW' (by kernel_rfl) rfl Tryd.underlying4 (fun hg => by subst hg; exact ⟨rfl, rfl, rfl⟩) hb

theorem returns_met (os : Os) : laidMet Tryd.prog Rows.offlineReturnsUptoRow.laid ((laidWorld os).forCall (fun _ _ => 0) ⟨#[], #[.slice none 0 0, .agg #[.string ⟨#[]⟩, .int .i64 0, .int .i64 0, .int .i64 0, .int .i64 0], .string ⟨#[]⟩, .agg #[.string ⟨#[]⟩, .string ⟨#[]⟩, .int .i64 0, .int .i64 0, .int .i64 0], .bool false, .int .i64 0], []⟩).memory :=
  laidMet_of_run' 8 (by kernel_rfl) (by kernel_rfl)
theorem returns_reads (os : Os) {H : Type} (enc : TypeId × Value → H) : ∃ places, DataW.whole enc Tryd.prog ((laidWorld os).forCall (fun _ _ => 0) ⟨#[], #[.slice none 0 0, .agg #[.string ⟨#[]⟩, .int .i64 0, .int .i64 0, .int .i64 0, .int .i64 0], .string ⟨#[]⟩, .agg #[.string ⟨#[]⟩, .string ⟨#[]⟩, .int .i64 0, .int .i64 0, .int .i64 0], .bool false, .int .i64 0], []⟩).memory Tryd.f3.params.toList Rows.offlineReturnsSpec.vars false (#[.slice none 0 0, .agg #[.string ⟨#[]⟩, .int .i64 0, .int .i64 0, .int .i64 0, .int .i64 0], .string ⟨#[]⟩, .agg #[.string ⟨#[]⟩, .string ⟨#[]⟩, .int .i64 0, .int .i64 0, .int .i64 0], .bool false, .int .i64 0] : Array Value).toList 8 = some ([.nil, .agg [.lit (.string []), .lit (.int .i64 0), .lit (.int .i64 0), .lit (.int .i64 0), .lit (.int .i64 0)], .lit (.string []), .agg [.lit (.string []), .lit (.string []), .lit (.int .i64 0), .lit (.int .i64 0), .lit (.int .i64 0)], .lit (.bool false), .lit (.int .i64 0)], [], places) :=
  ⟨[], by kernel_rfl⟩

set_option maxRecDepth 100000 in
theorem returns_lifted (os : Os) (started : os.Started) (H : Type) (enc : TypeId × Value → H) (F : Stop.Interp) :
    ReturnsInHanded {} Tryd.checked os 3 .any ((Rows.OpenSpec.upto Rows.offlineReturnsSpec).preRow enc Tryd.prog Tryd.f3 Rows.offlineReturnsUptoRow.domain false Rows.offlineReturnsUptoRow.laid) (((Rows.OpenSpec.upto Rows.offlineReturnsSpec).at F).post enc Tryd.prog Tryd.f3 false true false false) := by
  obtain ⟨places, hx⟩ := returns_reads os enc
  refine returnsInHanded_of_row (C := Tryd.checked) (s := Rows.OpenSpec.upto Rows.offlineReturnsSpec) Tryd.own started (by kernel_rfl) Tryd.func3
    (witness_row_at (enc := enc) (C := Tryd.checked) false (laidWorld os) #[.slice none 0 0, .agg #[.string ⟨#[]⟩, .int .i64 0, .int .i64 0, .int .i64 0, .int .i64 0], .string ⟨#[]⟩, .agg #[.string ⟨#[]⟩, .string ⟨#[]⟩, .int .i64 0, .int .i64 0, .int .i64 0], .bool false, .int .i64 0] rfl (by kernel_rfl) (by kernel_rfl) (by kernel_rfl)
      (OpenSpec.preRow_of_cond 8 hx (by kernel_rfl) (fun k hk => by cases hk; kernel_rfl) (by kernel_rfl) (returns_met os))) ?_
  intro W base args ds gs before hval hW _ hcond _ _ hsh _
  exact returns_contract H enc W base args ds gs before hval hW hsh (of_decide_eq_true (hcond _ rfl))

theorem returns_holds : Rows.OfflineReturnsUptoSaid :=
  OpenClaim.holds_of_cond 3 Tryd.f3 rfl rfl rfl rfl rfl rfl rfl ⟨rfl, rfl, rfl, rfl, rfl⟩ rfl rfl rfl rfl rfl (by kernel_rfl) Tryd.func3 (by kernel_rfl)
    (of_decide_eq_true (by kernel_rfl)) (by unfold Func.isWrapper; first | (rw [if_pos (by decide +kernel)]; kernel_rfl) | (rw [if_neg (by decide +kernel)]; exact ⟨rfl, rfl⟩))
    (fun os started H enc _ F => by rw [OpenClaim.pre_eq_preRow]; exact returns_lifted os started H enc F)

theorem returns_plain (f : FuncId) (fn : Func) (hf : Tryd.pinned.checked.prog.funcNamed "stockyard/stockyardlaw20.OfflineReturns" = some f) (hfn : Tryd.pinned.checked.prog.funcs[f]? = some fn) :
    false = Tryd.pinned.checked.prog.looks [] ∧ ∀ (j : Nat) t, fn.params[j]? = some t → Tryd.pinned.checked.prog.wantsStandIn t = false := by
  obtain rfl : f = 3 := Option.some.inj ((show Tryd.prog.funcNamed "stockyard/stockyardlaw20.OfflineReturns" = some 3 by kernel_rfl).symm.trans hf) |>.symm
  obtain rfl : fn = Tryd.f3 := (Option.some.inj (Tryd.func3.symm.trans hfn)).symm
  refine ⟨by kernel_rfl, fun j t ht => ?_⟩
  rw [Tryd.params3] at ht
  have hm := Array.mem_of_getElem? ht
  exact wants_all (by kernel_rfl) t hm

/-- The card. -/
theorem returns_card : Rows.OfflineReturnsUptoCardSaid :=
  Claim7.holds_tied_plain_at .later [] _ _ _ _ returns_holds (fun _ h => by cases h) (by kernel_rfl) (fun _ h => by cases h) offlineReturnsUpto_row_tie rfl ⟨rfl, rfl⟩ (by kernel_rfl) rfl returns_plain (by kernel_rfl)

#print axioms returns_card
end Go.Proofs.YtcfmkmhibghaoaaDoor
