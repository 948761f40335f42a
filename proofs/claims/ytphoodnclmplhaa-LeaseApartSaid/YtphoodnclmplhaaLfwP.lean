/-
  LeaseApart returns true for every input, with no condition; its arguments read afterwards as before.
-/
import Derived.Test.YtphoodnclmplhaaOpenOps
import Derived.Test.YtphoodnclmplhaaLfw
namespace Go.Proofs.Ytphoodnclmplhaa
open Go.ChangeShapes Go.WideShapes Go.ChangeAt Go.RowKit Go.Joins Go.Deep
open Go.ChangeMaps (open_string)

theorem apart_any (A : Option Addr) (c : Nat) (l : List LOp) (w : World) (hA : OpsIn A l w) (hn : l.length ≤ 9223372036854775807) :
    Calls Try.prog 3 #[.slice A l.length c] w fun e w' => e = .returned (.bool true) ∧ Below w.heap.size w w' := by
  cases hs : smallB l
  · exact apart_out A c l w hA hn hs
  · have h1 := hs
    unfold smallB at h1
    rw [Bool.and_eq_true, decide_eq_true_eq] at h1
    exact apart_in A c l w hA h1.2 hs

set_option maxRecDepth 100000 in
theorem apart_lifted (os : Os) (started : os.Started) (H : Type) (enc : TypeId × Value → H) :
    ReturnsInHanded {} Try.checked os 3 .any (Rows.leaseApartSpec.pre6 enc Try.prog Try.f3 Rows.leaseApartRow.domain false) (Rows.leaseApartSpec.post enc Try.prog Try.f3 false true false false) := by
  refine returnsInHanded_of_change (C := Try.checked) Try.own started (by kernel_rfl) Try.func3
    (ChangeSpec.witness6 (enc := enc) (C := Try.checked) false ⟨#[], #[.slice none 0 0], []⟩ 8 (by kernel_rfl) (by kernel_rfl) (by kernel_rfl) (by kernel_rfl)) ?_
  intro W base args ds gs before hval0 hW _ _
  have hval : ∀ (j : Nat) t v, Try.f3.params[j]? = some t → args[j]? = some v → Value.okWide Try.prog W .any base t v := hval0
  have hW' := hW
  obtain ⟨_, _, hA0, hV, rfl, hfz, hnd⟩ := hW
  have hA : DataW.TrodAll enc Try.prog W 0 (fun _ => true) true Try.f3.params.toList args.toList ds _ := hA0
  rw [Try.params3] at hA hval
  obtain ⟨argl⟩ := args
  obtain ⟨v0, vs0, d0, ds0, p0, q0, eqv0, eqd0, _, h0, t0⟩ := trodAll_cons hA
  obtain ⟨eqv, eqd, _⟩ := trodAll_nil t0
  dsimp only at eqv0
  obtain rfl : argl = [v0] := by rw [eqv0, eqv]
  obtain rfl : ds = [d0] := by rw [eqd0, eqd]
  obtain ⟨la, lc, l, rfl, r_l, n_l⟩ := open_ops (hval 0 22 v0 rfl rfl) h0
  refine (apart_any la lc l W r_l n_l).mono fun e W' ⟨he, hb⟩ => ⟨_, he, ?_⟩
  exact law_post Try.laidOut rfl hW' (by kernel_rfl) rfl Try.underlying4 (fun hg => by subst hg; exact ⟨rfl, rfl, rfl⟩) hb

theorem apart_holds : Rows.LeaseApartSaid :=
  OpenClaim.holds_of_wide 3 Try.f3 rfl rfl rfl rfl rfl rfl rfl ⟨rfl, rfl, rfl, rfl, rfl⟩ rfl rfl rfl rfl rfl (by kernel_rfl) Try.func3 (by kernel_rfl)
    (of_decide_eq_true (by kernel_rfl)) (by unfold Func.isWrapper; first | (rw [if_pos (by decide +kernel)]; kernel_rfl) | (rw [if_neg (by decide +kernel)]; exact ⟨rfl, rfl⟩))
    (fun os started H enc _ => apart_lifted os started H enc)

#print axioms apart_holds
end Go.Proofs.Ytphoodnclmplhaa
