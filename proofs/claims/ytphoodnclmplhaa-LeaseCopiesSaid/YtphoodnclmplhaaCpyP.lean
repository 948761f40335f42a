/-
  LeaseCopies returns true for every input, with no condition; its arguments read afterwards as before.
-/
import Derived.Test.YtphoodnclmplhaaOpenOps
import Derived.Test.YtphoodnclmplhaaCpy
namespace Go.Proofs.Ytphoodnclmplhaa
open Go.ChangeShapes Go.WideShapes Go.ChangeAt Go.RowKit Go.Joins Go.Deep
open Go.ChangeMaps (open_string)

set_option maxRecDepth 100000 in
theorem copies_lifted (os : Os) (started : os.Started) (H : Type) (enc : TypeId × Value → H) :
    ReturnsInHanded {} Try.checked os 4 .any (Rows.leaseCopiesSpec.pre6 enc Try.prog Try.f4 Rows.leaseCopiesRow.domain false) (Rows.leaseCopiesSpec.post enc Try.prog Try.f4 false true false false) := by
  refine returnsInHanded_of_change (C := Try.checked) Try.own started (by kernel_rfl) Try.func4
    (ChangeSpec.witness6 (enc := enc) (C := Try.checked) false ⟨#[], #[.slice none 0 0, .slice none 0 0], []⟩ 8 (by kernel_rfl) (by kernel_rfl) (by kernel_rfl) (by kernel_rfl)) ?_
  intro W base args ds gs before hval0 hW _ _
  have hval : ∀ (j : Nat) t v, Try.f4.params[j]? = some t → args[j]? = some v → Value.okWide Try.prog W .any base t v := hval0
  have hW' := hW
  obtain ⟨_, _, hA0, hV, rfl, hfz, hnd⟩ := hW
  have hA : DataW.TrodAll enc Try.prog W 0 (fun _ => true) true Try.f4.params.toList args.toList ds _ := hA0
  rw [Try.params4] at hA hval
  obtain ⟨argl⟩ := args
  obtain ⟨v0, vs0, d0, ds0, p0, q0, eqv0, eqd0, _, h0, t0⟩ := trodAll_cons hA
  obtain ⟨v1, vs1, d1, ds1, p1, q1, eqv1, eqd1, _, h1, t1⟩ := trodAll_cons t0
  obtain ⟨eqv, eqd, _⟩ := trodAll_nil t1
  dsimp only at eqv0
  obtain rfl : argl = [v0, v1] := by rw [eqv0, eqv1, eqv]
  obtain rfl : ds = [d0, d1] := by rw [eqd0, eqd1, eqd]
  obtain ⟨la, lc, l, rfl, r_l, n_l⟩ := open_ops (hval 0 22 v0 rfl rfl) h0
  obtain ⟨ra, rc, r, rfl, r_r, n_r⟩ := open_ops (hval 1 22 v1 rfl rfl) h1
  refine (copies_any la lc l ra rc r W r_l n_l r_r n_r).mono fun e W' ⟨he, hb⟩ => ⟨_, he, ?_⟩
  exact law_post Try.laidOut rfl hW' (by kernel_rfl) rfl Try.underlying4 (fun hg => by subst hg; exact ⟨rfl, rfl, rfl⟩) hb

theorem copies_holds : Rows.LeaseCopiesSaid :=
  OpenClaim.holds_of_wide 4 Try.f4 rfl rfl rfl rfl rfl rfl rfl ⟨rfl, rfl, rfl, rfl, rfl⟩ rfl rfl rfl rfl rfl (by kernel_rfl) Try.func4 (by kernel_rfl)
    (of_decide_eq_true (by kernel_rfl)) (by unfold Func.isWrapper; first | (rw [if_pos (by decide +kernel)]; kernel_rfl) | (rw [if_neg (by decide +kernel)]; exact ⟨rfl, rfl⟩))
    (fun os started H enc _ => copies_lifted os started H enc)

#print axioms copies_holds
end Go.Proofs.Ytphoodnclmplhaa
