/-
  LeaseExclusive returns true for all operations, path, holder and term of up to 1048576 bytes: the card, second form.
-/
import Derived.Test.YtphoodnclmplhaaDoorDoorL
import Derived.Test.YtphoodnclmplhaaDoorCards
import Derived.Test.YtphoodnclmplhaaDoorTie
import Derived.Test.YtphoodnclmplhaaDoorExc
import Derived.Test.YtphoodnclmplhaaDoorOpU
import Derived.Deep.Strs
import Derived.Deep.Slices
namespace Go.Proofs.YtphoodnclmplhaaDoor
open Go.ChangeShapes Go.WideShapes Go.ChangeAt Go.RowKit Go.Joins Go.Deep
open Go.ChangeMaps (open_string)

theorem lawExc (A : Option Addr) (c : Nat) (l : List LOp) (p holder : ByteArray) (term : Int) (W : World) (hA : OpsIn A l W) (hn : l.length ≤ 9223372036854775807) (hg : G0 W) (hp : p.size ≤ 1048576) (hh : holder.size ≤ 1048576) :
    Calls Tryd.prog 4 #[.slice A l.length c, .string p, .string holder, .int .i64 term] W fun e w' => e = .returned (.bool true) ∧ Below W.heap.size W w' :=
  exc_any A c l p holder term W hA hn hg hp hh
theorem bulk_str {H : Type} {p : ByteArray} {d : DataW H} (h : d = .lit (.string p.data.toList)) : p.size ≤ Rows.uptoBulk d := by
  rw [h]
  simp only [Rows.uptoBulk]
  have : p.data.toList.length = p.size := by simp
  omega

set_option maxRecDepth 100000 in
theorem exc_contract (H : Type) (enc : TypeId × Value → H) (W : World) (base : Nat) (args : Array Value) (ds gs : List (DataW H)) (before : List MemPlace)
    (hval0 : ∀ (j : Nat) t v, Tryd.f4.params[j]? = some t → args[j]? = some v → Value.okWide Tryd.prog W .any base t v)
    (hW : DataW.Whole enc Tryd.prog Tryd.f4.params.toList Rows.leaseExclusiveSpec.vars false W args.toList ds gs before) (hsh : W.ShapedOpen Tryd.prog) (hcond : Rows.uptoBulkAll (ds ++ gs) ≤ 1048576) :
    Calls Tryd.prog 4 args W fun e W' => ∃ v, e = .returned v ∧ Rows.leaseExclusiveSpec.post enc Tryd.prog Tryd.f4 false true false false W args v W' := by
  have hg : G0 W := g0_of_shaped hsh
  have hval : ∀ (j : Nat) t v, Tryd.f4.params[j]? = some t → args[j]? = some v → Value.okWide Tryd.prog W .any base t v := hval0
  have hW' := hW
  obtain ⟨_, _, hA0, hV, rfl, hfz, hnd⟩ := hW
  have hA : DataW.TrodAll enc Tryd.prog W 0 (fun _ => true) true Tryd.f4.params.toList args.toList ds _ := hA0
  rw [Tryd.params4] at hA hval
  obtain ⟨argl⟩ := args
  obtain ⟨v0, vs0, d0, ds0, p0, q0, eqv0, eqd0, _, h0, t0⟩ := trodAll_cons hA
  obtain ⟨v1, vs1, d1, ds1, p1, q1, eqv1, eqd1, _, h1, t1⟩ := trodAll_cons t0
  obtain ⟨v2, vs2, d2, ds2, p2, q2, eqv2, eqd2, _, h2, t2⟩ := trodAll_cons t1
  obtain ⟨v3, vs3, d3, ds3, p3, q3, eqv3, eqd3, _, h3, t3⟩ := trodAll_cons t2
  obtain ⟨eqv, eqd, _⟩ := trodAll_nil t3
  dsimp only at eqv0
  obtain rfl : argl = [v0, v1, v2, v3] := by rw [eqv0, eqv1, eqv2, eqv3, eqv]
  obtain rfl : ds = [d0, d1, d2, d3] := by rw [eqd0, eqd1, eqd2, eqd3, eqd]
  obtain ⟨la, lc, l, rfl, r_l, n_l, s_l⟩ := open_opsU (hval 0 22 v0 rfl rfl) h0
  obtain ⟨p, rfl, e_p, _, s_p⟩ := open_string Tryd.underlying9 (hval 1 9 v1 rfl rfl) h1
  obtain ⟨h, rfl, e_h, _, s_h⟩ := open_string Tryd.underlying9 (hval 2 9 v2 rfl rfl) h2
  obtain ⟨f, rfl, _, _, w_f⟩ := open_int Tryd.underlying3 (hval 3 3 v3 rfl rfl) h3
  have b_0 : Rows.uptoBulk d0 ≤ 1048576 := Nat.le_trans (bulk_mem (by simp)) hcond
  have b_1 : Rows.uptoBulk d1 ≤ 1048576 := Nat.le_trans (bulk_mem (by simp)) hcond
  have b_2 : Rows.uptoBulk d2 ≤ 1048576 := Nat.le_trans (bulk_mem (by simp)) hcond
  have b_3 : Rows.uptoBulk d3 ≤ 1048576 := Nat.le_trans (bulk_mem (by simp)) hcond
  refine (lawExc la lc l p h f W r_l n_l hg (Nat.le_trans (bulk_str e_p) b_1) (Nat.le_trans (bulk_str e_h) b_2)).mono fun e W' ⟨he, hb⟩ => ⟨_, he, ?_⟩
  exact law_post Tryd.laidOut rfl hW' (by kernel_rfl) rfl Tryd.underlying4 (fun hg => by subst hg; exact ⟨rfl, rfl, rfl⟩) hb

theorem exc_met (os : Os) : laidMet Tryd.prog Rows.leaseExclusiveUptoRow.laid ((laidWorld os).forCall (fun _ _ => 0) ⟨#[], #[.slice none 0 0, .string ⟨#[]⟩, .string ⟨#[]⟩, .int .i64 0], []⟩).memory :=
  laidMet_of_run' 8 (by kernel_rfl) (by kernel_rfl)
theorem exc_reads (os : Os) {H : Type} (enc : TypeId × Value → H) : ∃ places, DataW.whole enc Tryd.prog ((laidWorld os).forCall (fun _ _ => 0) ⟨#[], #[.slice none 0 0, .string ⟨#[]⟩, .string ⟨#[]⟩, .int .i64 0], []⟩).memory Tryd.f4.params.toList Rows.leaseExclusiveSpec.vars false (#[.slice none 0 0, .string ⟨#[]⟩, .string ⟨#[]⟩, .int .i64 0] : Array Value).toList 8 = some ([.nil, .lit (.string []), .lit (.string []), .lit (.int .i64 0)], [], places) :=
  ⟨[], by kernel_rfl⟩

set_option maxRecDepth 100000 in
theorem exc_lifted (os : Os) (started : os.Started) (H : Type) (enc : TypeId × Value → H) (F : Stop.Interp) :
    ReturnsInHanded {} Tryd.checked os 4 .any ((Rows.OpenSpec.upto Rows.leaseExclusiveSpec).preRow enc Tryd.prog Tryd.f4 Rows.leaseExclusiveUptoRow.domain false Rows.leaseExclusiveUptoRow.laid) (((Rows.OpenSpec.upto Rows.leaseExclusiveSpec).at F).post enc Tryd.prog Tryd.f4 false true false false) := by
  obtain ⟨places, hx⟩ := exc_reads os enc
  refine returnsInHanded_of_row (C := Tryd.checked) (s := Rows.OpenSpec.upto Rows.leaseExclusiveSpec) Tryd.own started (by kernel_rfl) Tryd.func4
    (witness_row_at (enc := enc) (C := Tryd.checked) false (laidWorld os) #[.slice none 0 0, .string ⟨#[]⟩, .string ⟨#[]⟩, .int .i64 0] rfl (by kernel_rfl) (by kernel_rfl) (by kernel_rfl)
      (OpenSpec.preRow_of_cond 8 hx (by kernel_rfl) (fun k hk => by cases hk; kernel_rfl) (by kernel_rfl) (exc_met os))) ?_
  intro W base args ds gs before hval hW _ hcond _ _ hsh _
  exact exc_contract H enc W base args ds gs before hval hW hsh (of_decide_eq_true (hcond _ rfl))

theorem exc_holds : Rows.LeaseExclusiveUptoSaid :=
  OpenClaim.holds_of_cond 4 Tryd.f4 rfl rfl rfl rfl rfl rfl rfl ⟨rfl, rfl, rfl, rfl, rfl⟩ rfl rfl rfl rfl rfl (by kernel_rfl) Tryd.func4 (by kernel_rfl)
    (of_decide_eq_true (by kernel_rfl)) (by unfold Func.isWrapper; first | (rw [if_pos (by decide +kernel)]; kernel_rfl) | (rw [if_neg (by decide +kernel)]; exact ⟨rfl, rfl⟩))
    (fun os started H enc _ F => by rw [OpenClaim.pre_eq_preRow]; exact exc_lifted os started H enc F)

theorem exc_plain (f : FuncId) (fn : Func) (hf : Tryd.pinned.checked.prog.funcNamed "stockyard/stockyardlaw19.LeaseExclusive" = some f) (hfn : Tryd.pinned.checked.prog.funcs[f]? = some fn) :
    false = Tryd.pinned.checked.prog.looks [] ∧ ∀ (j : Nat) t, fn.params[j]? = some t → Tryd.pinned.checked.prog.wantsStandIn t = false := by
  obtain rfl : f = 4 := Option.some.inj ((show Tryd.prog.funcNamed "stockyard/stockyardlaw19.LeaseExclusive" = some 4 by kernel_rfl).symm.trans hf) |>.symm
  obtain rfl : fn = Tryd.f4 := (Option.some.inj (Tryd.func4.symm.trans hfn)).symm
  refine ⟨by kernel_rfl, fun j t ht => ?_⟩
  rw [Tryd.params4] at ht
  have hm := Array.mem_of_getElem? ht
  exact wants_all (by kernel_rfl) t hm

/-- The card. -/
theorem exc_card : Rows.LeaseExclusiveUptoCardSaid :=
  Claim7.holds_tied_plain_at .later [] _ _ _ _ exc_holds (fun _ h => by cases h) (by kernel_rfl) (fun _ h => by cases h) leaseExclusiveUpto_row_tie rfl ⟨rfl, rfl⟩ (by kernel_rfl) rfl exc_plain (by kernel_rfl)

#print axioms exc_card
end Go.Proofs.YtphoodnclmplhaaDoor
