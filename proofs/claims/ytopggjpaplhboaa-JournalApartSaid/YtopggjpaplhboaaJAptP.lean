/-
  JournalApart holds: journals with different names on one device do not affect each other. No conditions.
-/
import Derived.Test.YtopggjpaplhboaaOpenK
import Derived.Test.YtopggjpaplhboaaJApt
namespace Go.Proofs.Ytopggjpaplhboaa
open Go.ChangeShapes Go.WideShapes Go.ChangeAt Go.RowKit Go.Joins Go.Deep
open Go.ChangeMaps (open_string)

set_option maxRecDepth 100000 in
theorem apart_lifted (os : Os) (started : os.Started) (H : Type) (enc : TypeId × Value → H) :
    ReturnsInHanded {} Try.checked os 9 .any (Rows.journalApartSpec.pre6 enc Try.prog Try.f9 Rows.journalApartRow.domain false) (Rows.journalApartSpec.post enc Try.prog Try.f9 false true false false) := by
  refine returnsInHanded_of_change (C := Try.checked) Try.own started (by kernel_rfl) Try.func9
    (ChangeSpec.witness6 (enc := enc) (C := Try.checked) false ⟨#[], #[.slice none 0 0], []⟩ 8 (by kernel_rfl) (by kernel_rfl) (by kernel_rfl) (by kernel_rfl)) ?_
  intro W base args ds gs before hval0 hW _ _
  have hval : ∀ (j : Nat) t v, Try.f9.params[j]? = some t → args[j]? = some v → Value.okWide Try.prog W .any base t v := hval0
  have hW' := hW
  obtain ⟨_, _, hA0, hV, rfl, hfz, hnd⟩ := hW
  have hA : DataW.TrodAll enc Try.prog W 0 (fun _ => true) true Try.f9.params.toList args.toList ds _ := hA0
  rw [Try.params9] at hA hval
  obtain ⟨argl⟩ := args
  obtain ⟨v0, vs0, d0, ds0, p0, q0, eqv0, eqd0, _, h0, t0⟩ := trodAll_cons hA
  obtain ⟨eqv, eqd, _⟩ := trodAll_nil t0
  dsimp only at eqv0
  obtain rfl : argl = [v0] := by rw [eqv0, eqv]
  obtain rfl : ds = [d0] := by rw [eqd0, eqd]
  obtain ⟨la, lc, l, rfl, l_l, m_l, z_l, r_l, w_l⟩ := open_nums Try.underlying40 Try.underlying3 (by kernel_rfl) (hval 0 40 v0 rfl rfl) h0
  refine (lawApart_any W la lc l r_l w_l).mono fun e W' ⟨he, hb⟩ => ⟨_, he, ?_⟩
  exact law_post Try.laidOut rfl hW' (by kernel_rfl) rfl Try.underlying4 (fun hg => by subst hg; exact ⟨rfl, rfl, rfl⟩) hb

theorem apart_holds : Rows.JournalApartSaid :=
  OpenClaim.holds_of_wide 9 Try.f9 rfl rfl rfl rfl rfl rfl rfl ⟨rfl, rfl, rfl, rfl, rfl⟩ rfl rfl rfl rfl rfl (by kernel_rfl) Try.func9 (by kernel_rfl)
    (of_decide_eq_true (by kernel_rfl)) (by unfold Func.isWrapper; first | (rw [if_pos (by decide +kernel)]; kernel_rfl) | (rw [if_neg (by decide +kernel)]; exact ⟨rfl, rfl⟩))
    (fun os started H enc _ => apart_lifted os started H enc)

#print axioms apart_holds
end Go.Proofs.Ytopggjpaplhboaa
