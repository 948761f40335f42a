/-
  LeaseExpires returns true for every input, with no condition; its arguments read afterwards as before.
-/
import Derived.Test.YtnehjnaecgpkmaaOpen
import Derived.Test.YtnehjnaecgpkmaaOpenOps
import Derived.Test.YtnehjnaecgpkmaaExp
namespace Go.Proofs.Ytnehjnaecgpkmaa
open Go.ChangeShapes Go.WideShapes Go.ChangeAt Go.RowKit Go.Joins Go.Deep
open Go.ChangeMaps (open_string)

set_option maxRecDepth 100000 in
theorem exp_lifted (os : Os) (started : os.Started) (H : Type) (enc : TypeId × Value → H) :
    ReturnsInHanded {} Try.checked os 8 .any (Rows.leaseExpiresSpec.pre6 enc Try.prog Try.f8 Rows.leaseExpiresRow.domain false) (Rows.leaseExpiresSpec.post enc Try.prog Try.f8 false true false false) := by
  refine returnsInHanded_of_change (C := Try.checked) Try.own started (by kernel_rfl) Try.func8
    (ChangeSpec.witness6 (enc := enc) (C := Try.checked) false ⟨#[], #[.slice none 0 0, .string ⟨#[]⟩, .int .i64 0, .int .i64 0], []⟩ 8 (by kernel_rfl) (by kernel_rfl) (by kernel_rfl) (by kernel_rfl)) ?_
  intro W base args ds gs before hval0 hW _ _
  have hval : ∀ (j : Nat) t v, Try.f8.params[j]? = some t → args[j]? = some v → Value.okWide Try.prog W .any base t v := hval0
  have hW' := hW
  obtain ⟨_, _, hA0, hV, rfl, hfz, hnd⟩ := hW
  have hA : DataW.TrodAll enc Try.prog W 0 (fun _ => true) true Try.f8.params.toList args.toList ds _ := hA0
  rw [Try.params8] at hA hval
  obtain ⟨argl⟩ := args
  obtain ⟨v0, vs0, d0, ds0, p0, q0, eqv0, eqd0, _, h0, t0⟩ := trodAll_cons hA
  obtain ⟨v1, vs1, d1, ds1, p1, q1, eqv1, eqd1, _, h1, t1⟩ := trodAll_cons t0
  obtain ⟨v2, vs2, d2, ds2, p2, q2, eqv2, eqd2, _, h2, t2⟩ := trodAll_cons t1
  obtain ⟨v3, vs3, d3, ds3, p3, q3, eqv3, eqd3, _, h3, t3⟩ := trodAll_cons t2
  obtain ⟨eqv, eqd, _⟩ := trodAll_nil t3
  dsimp only at eqv0
  obtain rfl : argl = [v0, v1, v2, v3] := by rw [eqv0, eqv1, eqv2, eqv3, eqv]
  obtain rfl : ds = [d0, d1, d2, d3] := by rw [eqd0, eqd1, eqd2, eqd3, eqd]
  obtain ⟨la, lc, l, rfl, r_l, n_l⟩ := open_ops (hval 0 46 v0 rfl rfl) h0
  obtain ⟨p, rfl, _, _, s_p⟩ := open_string Try.underlying9 (hval 1 9 v1 rfl rfl) h1
  obtain ⟨ticks, rfl, _, _, w_ticks⟩ := open_int Try.underlying3 (hval 2 3 v2 rfl rfl) h2
  obtain ⟨term, rfl, _, _, w_term⟩ := open_int Try.underlying3 (hval 3 3 v3 rfl rfl) h3
  refine (exp_any la lc l p ticks term W r_l n_l).mono fun e W' ⟨he, hb⟩ => ⟨_, he, ?_⟩
  exact law_post Try.laidOut rfl hW' (by kernel_rfl) rfl Try.underlying4 (fun hg => by subst hg; exact ⟨rfl, rfl, rfl⟩) hb

theorem exp_holds : Rows.LeaseExpiresSaid :=
  OpenClaim.holds_of_wide 8 Try.f8 rfl rfl rfl rfl rfl rfl rfl ⟨rfl, rfl, rfl, rfl, rfl⟩ rfl rfl rfl rfl rfl (by kernel_rfl) Try.func8 (by kernel_rfl)
    (of_decide_eq_true (by kernel_rfl)) (by unfold Func.isWrapper; first | (rw [if_pos (by decide +kernel)]; kernel_rfl) | (rw [if_neg (by decide +kernel)]; exact ⟨rfl, rfl⟩))
    (fun os started H enc _ => exp_lifted os started H enc)

#print axioms exp_holds
end Go.Proofs.Ytnehjnaecgpkmaa
