/-
  LeaseLoads returns true for all times, leases and operations of up to 1048576 bytes: the card, second form.
-/
import Derived.Test.YtphoodnclmplhaaDoorDoorL
import Derived.Test.YtphoodnclmplhaaDoorCards
import Derived.Test.YtphoodnclmplhaaDoorTie
import Derived.Test.YtphoodnclmplhaaDoorLdw
import Derived.Test.YtphoodnclmplhaaDoorOpU
import Derived.Test.YtphoodnclmplhaaDoorOpLU
import Derived.Deep.Strs
import Derived.Deep.Slices
namespace Go.Proofs.YtphoodnclmplhaaDoor
open Go.ChangeShapes Go.WideShapes Go.ChangeAt Go.RowKit Go.Joins Go.Deep
open Go.ChangeMaps (open_string)

theorem lawLoads (clk : Int) (A2 : Option Addr) (c2 : Nat) (ll : List Lease) (A : Option Addr) (c : Nat) (l : List LOp) (W : World) (hA2 : LsIn A2 ll W) (hA : OpsIn A l W) (hn : l.length ≤ 9223372036854775807) (hg : G0 W)
    (N : Nat) (hN : N ≤ 1048576) (hs : ∀ o ∈ l, o.p.size ≤ N ∧ o.h.size ≤ N) (M : Nat) (hM : M ≤ 1048576) (ht : ∀ x ∈ ll, x.path.size ≤ M ∧ x.holder.size ≤ M) :
    Calls Tryd.prog 6 #[.int .i64 clk, .slice A2 ll.length c2, .slice A l.length c] W fun e w' => e = .returned (.bool true) ∧ Below W.heap.size W w' :=
  loads_any clk A2 c2 ll A c l W hA2 hA hn hg (fun o ho => by have := hs o ho; omega) (fun x hx => by have := ht x hx; omega)

set_option maxRecDepth 100000 in
theorem loads_contract (H : Type) (enc : TypeId × Value → H) (W : World) (base : Nat) (args : Array Value) (ds gs : List (DataW H)) (before : List MemPlace)
    (hval0 : ∀ (j : Nat) t v, Tryd.f6.params[j]? = some t → args[j]? = some v → Value.okWide Tryd.prog W .any base t v)
    (hW : DataW.Whole enc Tryd.prog Tryd.f6.params.toList Rows.leaseLoadsSpec.vars false W args.toList ds gs before) (hsh : W.ShapedOpen Tryd.prog) (hcond : Rows.uptoBulkAll (ds ++ gs) ≤ 1048576) :
    Calls Tryd.prog 6 args W fun e W' => ∃ v, e = .returned v ∧ Rows.leaseLoadsSpec.post enc Tryd.prog Tryd.f6 false true false false W args v W' := by
  have hg : G0 W := g0_of_shaped hsh
  have hval : ∀ (j : Nat) t v, Tryd.f6.params[j]? = some t → args[j]? = some v → Value.okWide Tryd.prog W .any base t v := hval0
  have hW' := hW
  obtain ⟨_, _, hA0, hV, rfl, hfz, hnd⟩ := hW
  have hA : DataW.TrodAll enc Tryd.prog W 0 (fun _ => true) true Tryd.f6.params.toList args.toList ds _ := hA0
  rw [Tryd.params6] at hA hval
  obtain ⟨argl⟩ := args
  obtain ⟨v0, vs0, d0, ds0, p0, q0, eqv0, eqd0, _, h0, t0⟩ := trodAll_cons hA
  obtain ⟨v1, vs1, d1, ds1, p1, q1, eqv1, eqd1, _, h1, t1⟩ := trodAll_cons t0
  obtain ⟨v2, vs2, d2, ds2, p2, q2, eqv2, eqd2, _, h2, t2⟩ := trodAll_cons t1
  obtain ⟨eqv, eqd, _⟩ := trodAll_nil t2
  dsimp only at eqv0
  obtain rfl : argl = [v0, v1, v2] := by rw [eqv0, eqv1, eqv2, eqv]
  obtain rfl : ds = [d0, d1, d2] := by rw [eqd0, eqd1, eqd2, eqd]
  obtain ⟨clk, rfl, _, _, w_clk⟩ := open_int Tryd.underlying3 (hval 0 3 v0 rfl rfl) h0
  obtain ⟨lla, llc, ll, rfl, r_ll, n_ll, s_ll⟩ := open_leasesU (hval 1 26 v1 rfl rfl) h1
  obtain ⟨la, lc, l, rfl, r_l, n_l, s_l⟩ := open_opsU (hval 2 22 v2 rfl rfl) h2
  have b_0 : Rows.uptoBulk d0 ≤ 1048576 := Nat.le_trans (bulk_mem (by simp)) hcond
  have b_1 : Rows.uptoBulk d1 ≤ 1048576 := Nat.le_trans (bulk_mem (by simp)) hcond
  have b_2 : Rows.uptoBulk d2 ≤ 1048576 := Nat.le_trans (bulk_mem (by simp)) hcond
  refine (lawLoads clk lla llc ll la lc l W r_ll r_l n_l hg _ b_2 s_l _ b_1 s_ll).mono fun e W' ⟨he, hb⟩ => ⟨_, he, ?_⟩
  exact law_post Tryd.laidOut rfl hW' (by kernel_rfl) rfl Tryd.underlying4 (fun hg => by subst hg; exact ⟨rfl, rfl, rfl⟩) hb

theorem loads_met (os : Os) : laidMet Tryd.prog Rows.leaseLoadsUptoRow.laid ((laidWorld os).forCall (fun _ _ => 0) ⟨#[], #[.int .i64 0, .slice none 0 0, .slice none 0 0], []⟩).memory :=
  laidMet_of_run' 8 (by kernel_rfl) (by kernel_rfl)
theorem loads_reads (os : Os) {H : Type} (enc : TypeId × Value → H) : ∃ places, DataW.whole enc Tryd.prog ((laidWorld os).forCall (fun _ _ => 0) ⟨#[], #[.int .i64 0, .slice none 0 0, .slice none 0 0], []⟩).memory Tryd.f6.params.toList Rows.leaseLoadsSpec.vars false (#[.int .i64 0, .slice none 0 0, .slice none 0 0] : Array Value).toList 8 = some ([.lit (.int .i64 0), .nil, .nil], [], places) :=
  ⟨[], by kernel_rfl⟩

set_option maxRecDepth 100000 in
theorem loads_lifted (os : Os) (started : os.Started) (H : Type) (enc : TypeId × Value → H) (F : Stop.Interp) :
    ReturnsInHanded {} Tryd.checked os 6 .any ((Rows.OpenSpec.upto Rows.leaseLoadsSpec).preRow enc Tryd.prog Tryd.f6 Rows.leaseLoadsUptoRow.domain false Rows.leaseLoadsUptoRow.laid) (((Rows.OpenSpec.upto Rows.leaseLoadsSpec).at F).post enc Tryd.prog Tryd.f6 false true false false) := by
  obtain ⟨places, hx⟩ := loads_reads os enc
  refine returnsInHanded_of_row (C := Tryd.checked) (s := Rows.OpenSpec.upto Rows.leaseLoadsSpec) Tryd.own started (by kernel_rfl) Tryd.func6
    (witness_row_at (enc := enc) (C := Tryd.checked) false (laidWorld os) #[.int .i64 0, .slice none 0 0, .slice none 0 0] rfl (by kernel_rfl) (by kernel_rfl) (by kernel_rfl)
      (OpenSpec.preRow_of_cond 8 hx (by kernel_rfl) (fun k hk => by cases hk; kernel_rfl) (by kernel_rfl) (loads_met os))) ?_
  intro W base args ds gs before hval hW _ hcond _ _ hsh _
  exact loads_contract H enc W base args ds gs before hval hW hsh (of_decide_eq_true (hcond _ rfl))

theorem loads_holds : Rows.LeaseLoadsUptoSaid :=
  OpenClaim.holds_of_cond 6 Tryd.f6 rfl rfl rfl rfl rfl rfl rfl ⟨rfl, rfl, rfl, rfl, rfl⟩ rfl rfl rfl rfl rfl (by kernel_rfl) Tryd.func6 (by kernel_rfl)
    (of_decide_eq_true (by kernel_rfl)) (by unfold Func.isWrapper; first | (rw [if_pos (by decide +kernel)]; kernel_rfl) | (rw [if_neg (by decide +kernel)]; exact ⟨rfl, rfl⟩))
    (fun os started H enc _ F => by rw [OpenClaim.pre_eq_preRow]; exact loads_lifted os started H enc F)

theorem loads_plain (f : FuncId) (fn : Func) (hf : Tryd.pinned.checked.prog.funcNamed "stockyard/stockyardlaw19.LeaseLoads" = some f) (hfn : Tryd.pinned.checked.prog.funcs[f]? = some fn) :
    false = Tryd.pinned.checked.prog.looks [] ∧ ∀ (j : Nat) t, fn.params[j]? = some t → Tryd.pinned.checked.prog.wantsStandIn t = false := by
  obtain rfl : f = 6 := Option.some.inj ((show Tryd.prog.funcNamed "stockyard/stockyardlaw19.LeaseLoads" = some 6 by kernel_rfl).symm.trans hf) |>.symm
  obtain rfl : fn = Tryd.f6 := (Option.some.inj (Tryd.func6.symm.trans hfn)).symm
  refine ⟨by kernel_rfl, fun j t ht => ?_⟩
  rw [Tryd.params6] at ht
  have hm := Array.mem_of_getElem? ht
  exact wants_all (by kernel_rfl) t hm

/-- The card. -/
theorem loads_card : Rows.LeaseLoadsUptoCardSaid :=
  Claim7.holds_tied_plain_at .later [] _ _ _ _ loads_holds (fun _ h => by cases h) (by kernel_rfl) (fun _ h => by cases h) leaseLoadsUpto_row_tie rfl ⟨rfl, rfl⟩ (by kernel_rfl) rfl loads_plain (by kernel_rfl)

#print axioms loads_card
end Go.Proofs.YtphoodnclmplhaaDoor
