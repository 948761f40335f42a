/-
  Plain facts for the statements of credit.
-/
import Derived.Test.YthonhikkoabhlaaGreatDoorCrE
namespace Go.Proofs.YthonhikkoabhlaaGreatDoor
open Go.RowKit

/-- The changes' numbers do not fall. -/
def ChgM (d : List Rev) : Prop := d.Pairwise fun a b => a.chg ≤ b.chg
theorem Blt.mono {d : Dep} (h : Blt d) : ChgM d.revs := by
  induction h with
  | nil => exact List.Pairwise.nil
  | @step d c hb h1 h2 h3 ih =>
    refine List.pairwise_append.2 ⟨ih, ?_, fun a ha b hb => ?_⟩
    · refine List.pairwise_map.2 (List.pairwise_of_forall fun a b => ?_)
      exact Int.le_refl _
    · obtain ⟨x, _, rfl⟩ := List.mem_map.1 hb
      exact Int.le_of_lt (h1.later a ha)
theorem get_of_mem {d : Dep} (h : CrD d) {p : ByteArray} {n : Int} {v : Rev} (hm : memD d.revs (p, n) = some v) : getD' d.revs p n = some v := by
  rw [get_mem' h.hist.uniq p n] at hm
  exact (Option.filter_eq_some_iff.1 hm).1
theorem getR_of_mem {d : Dep} (h : CrD d) {p : ByteArray} {n : Int} {v : Rev} (hm : memD d.revs (p, n) = some v) : getR d.revs p n = v ∧ (getD' d.revs p n).isSome = true := by
  unfold getR
  rw [get_of_mem h hm]
  exact ⟨rfl, rfl⟩
theorem errC_mem {d : Dep} {f : Fil} (hm : (memD d.revs f).isSome = true) : errC d f = 0 := by unfold errC; rw [if_pos hm]
theorem errC_no {d : Dep} {f : Fil} (hm : memD d.revs f = none) : errC d f = 140 := by unfold errC; rw [hm]; rfl
theorem chg_le {d : Dep} (_h : CrD d) (hc : ChgM d.revs) {f g : Fil} {u v : Rev} (hu : memD d.revs f = some u) (hv : memD d.revs g = some v) (hr : rkD d.revs f ≤ rkD d.revs g) : u.chg ≤ v.chg := by
  obtain ⟨u', hu1, hu2⟩ := rk_at (show (memD d.revs f).isSome = true by rw [hu]; rfl)
  obtain ⟨v', hv1, hv2⟩ := rk_at (show (memD d.revs g).isSome = true by rw [hv]; rfl)
  rw [hu] at hu2
  rw [hv] at hv2
  cases hu2
  cases hv2
  rcases Nat.lt_or_eq_of_le hr with hlt | he
  · obtain ⟨h1, h2⟩ := List.getElem?_eq_some_iff.1 hu1
    obtain ⟨h3, h4⟩ := List.getElem?_eq_some_iff.1 hv1
    have := List.pairwise_iff_getElem.1 hc _ _ h1 h3 hlt
    rw [h2, h4] at this
    exact this
  · rw [he, hv1] at hu1
    cases hu1
    exact Int.le_refl _
/-- Whatever is credited is an original that is not later. -/
theorem cre_elem {d : Dep} (h : CrD d) (hc : ChgM d.revs) {g f : Fil} {v : Rev} (hv : memD d.revs g = some v) (hf : (tabD d g).cre f) : ∃ u, memD d.revs f = some u ∧ origM d f = true ∧ u.chg ≤ v.chg := by
  obtain ⟨h1, h2, h3⟩ := tab_mem h.hist _ g (Nat.le_refl _) f (.inr (.inr hf))
  obtain ⟨u, hu⟩ := Option.isSome_iff_exists.1 h1
  exact ⟨u, hu, by unfold origM; rw [h1, h3]; rfl, chg_le h hc hu hv h2⟩
end Go.Proofs.YthonhikkoabhlaaGreatDoor
