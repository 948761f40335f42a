/-
  JournalEvery holds: a Commit of two records leaves none, the first or both, at whichever operation the power fails and whatever is kept, and exactly both are there if it returned OK. No conditions.
-/
import Derived.Test.YtopggjpaplhboaaOpenK
import Derived.Test.YtopggjpaplhboaaJEvr2
namespace Go.Proofs.Ytopggjpaplhboaa
open Go.ChangeShapes Go.WideShapes Go.ChangeAt Go.RowKit Go.Joins Go.Deep
open Go.ChangeMaps (open_string)

set_option maxRecDepth 100000 in
theorem every_lifted (os : Os) (started : os.Started) (H : Type) (enc : TypeId × Value → H) :
    ReturnsInHanded {} Try.checked os 10 .any (Rows.journalEverySpec.pre6 enc Try.prog Try.f10 Rows.journalEveryRow.domain false) (Rows.journalEverySpec.post enc Try.prog Try.f10 false true false false) := by
  refine returnsInHanded_of_change (C := Try.checked) Try.own started (by kernel_rfl) Try.func10
    (ChangeSpec.witness6 (enc := enc) (C := Try.checked) false ⟨#[], #[.slice none 0 0, .slice none 0 0, .int .i64 0, .int .i64 0, .int .i64 0], []⟩ 8 (by kernel_rfl) (by kernel_rfl) (by kernel_rfl) (by kernel_rfl)) ?_
  intro W base args ds gs before hval0 hW _ _
  have hval : ∀ (j : Nat) t v, Try.f10.params[j]? = some t → args[j]? = some v → Value.okWide Try.prog W .any base t v := hval0
  have hW' := hW
  obtain ⟨_, _, hA0, hV, rfl, hfz, hnd⟩ := hW
  have hA : DataW.TrodAll enc Try.prog W 0 (fun _ => true) true Try.f10.params.toList args.toList ds _ := hA0
  rw [Try.params10] at hA hval
  obtain ⟨argl⟩ := args
  obtain ⟨v0, vs0, d0, ds0, p0, q0, eqv0, eqd0, _, h0, t0⟩ := trodAll_cons hA
  obtain ⟨v1, vs1, d1, ds1, p1, q1, eqv1, eqd1, _, h1, t1⟩ := trodAll_cons t0
  obtain ⟨v2, vs2, d2, ds2, p2, q2, eqv2, eqd2, _, h2, t2⟩ := trodAll_cons t1
  obtain ⟨v3, vs3, d3, ds3, p3, q3, eqv3, eqd3, _, h3, t3⟩ := trodAll_cons t2
  obtain ⟨v4, vs4, d4, ds4, p4, q4, eqv4, eqd4, _, h4, t4⟩ := trodAll_cons t3
  obtain ⟨eqv, eqd, _⟩ := trodAll_nil t4
  dsimp only at eqv0
  obtain rfl : argl = [v0, v1, v2, v3, v4] := by rw [eqv0, eqv1, eqv2, eqv3, eqv4, eqv]
  obtain rfl : ds = [d0, d1, d2, d3, d4] := by rw [eqd0, eqd1, eqd2, eqd3, eqd4, eqd]
  obtain ⟨aa, ac, a, rfl, l_a, m_a, z_a, r_a, w_a⟩ := open_nums Try.underlying32 Try.underlying5 (by kernel_rfl) (hval 0 32 v0 rfl rfl) h0
  obtain ⟨ba, bc, b, rfl, l_b, m_b, z_b, r_b, w_b⟩ := open_nums Try.underlying32 Try.underlying5 (by kernel_rfl) (hval 1 32 v1 rfl rfl) h1
  obtain ⟨f, rfl, _, _, w_f⟩ := open_int Try.underlying3 (hval 2 3 v2 rfl rfl) h2
  obtain ⟨k, rfl, _, _, w_k⟩ := open_int Try.underlying3 (hval 3 3 v3 rfl rfl) h3
  obtain ⟨t, rfl, _, _, w_t⟩ := open_int Try.underlying3 (hval 4 3 v4 rfl rfl) h4
  refine (lawEvery_nums W aa ac a l_a m_a z_a r_a w_a ba bc b l_b m_b z_b r_b w_b f k t w_f w_k w_t).mono fun e W' ⟨he, hb⟩ => ⟨_, he, ?_⟩
  exact law_post Try.laidOut rfl hW' (by kernel_rfl) rfl Try.underlying4 (fun hg => by subst hg; exact ⟨rfl, rfl, rfl⟩) hb

theorem every_holds : Rows.JournalEverySaid :=
  OpenClaim.holds_of_wide 10 Try.f10 rfl rfl rfl rfl rfl rfl rfl ⟨rfl, rfl, rfl, rfl, rfl⟩ rfl rfl rfl rfl rfl (by kernel_rfl) Try.func10 (by kernel_rfl)
    (of_decide_eq_true (by kernel_rfl)) (by unfold Func.isWrapper; first | (rw [if_pos (by decide +kernel)]; kernel_rfl) | (rw [if_neg (by decide +kernel)]; exact ⟨rfl, rfl⟩))
    (fun os started H enc _ => every_lifted os started H enc)

#print axioms every_holds
end Go.Proofs.Ytopggjpaplhboaa
