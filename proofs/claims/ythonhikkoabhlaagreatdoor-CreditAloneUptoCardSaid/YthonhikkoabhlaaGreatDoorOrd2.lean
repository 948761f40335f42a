/-
  The order of paths by their components is the order of their bytes with the separator first.
-/
import Derived.Test.YthonhikkoabhlaaGreatDoorOrd
import Derived.Test.YthonhikkoabhlaaGreatDoorRef02
import Derived.Lib.Bytealg
namespace Go.Proofs.YthonhikkoabhlaaGreatDoor
open Go.RowKit

/-- The order of two lists of components. -/
def ccmp : List (List UInt8) → List (List UInt8) → Int
  | [], [] => 0
  | [], _ :: _ => -1
  | _ :: _, [] => 1
  | x :: xs, y :: ys => if Lib.compareBytes x y = 0 then ccmp xs ys else Lib.compareBytes x y
theorem splitA_47 (r : List UInt8) : splitA (47 :: r) = [] :: splitA r := by rw [splitA, if_pos rfl]
theorem splitA_ne {c : UInt8} {r : List UInt8} (h : ¬ c = 47) {x : List UInt8} {t : List (List UInt8)} (e : splitA r = x :: t) : splitA (c :: r) = (c :: x) :: t := by rw [splitA, if_neg h, e]
theorem split_head : ∀ (l x : List UInt8) (t : List (List UInt8)), splitA l = x :: t → (∀ c ∈ x, c ≠ 47) := by
  intro l
  induction l with
  | nil => intro x t h c hc; simp [splitA] at h; rw [h.1] at hc; cases hc
  | cons a r ih =>
    intro x t h c hc
    by_cases ha : a = 47
    · subst ha; rw [splitA_47] at h; cases h; cases hc
    · obtain ⟨y, u, e⟩ := splitA_cons r
      rw [splitA_ne ha e] at h
      cases h
      rcases List.mem_cons.1 hc with rfl | hc
      · exact ha
      · exact ih y _ e c hc
theorem ccmp_split : ∀ (a b : List UInt8), ccmp (splitA a) (splitA b) = pcmp a b
  | [], [] => by simp [splitA, ccmp, Lib.compareBytes, pcmp]
  | [], y :: ys => by
    by_cases hy : y = 47
    · subst hy
      obtain ⟨x, t, e⟩ := splitA_cons ys
      rw [splitA_47, e]
      simp [splitA, ccmp, Lib.compareBytes, pcmp]
    · obtain ⟨x, t, e⟩ := splitA_cons ys
      rw [splitA_ne hy e]
      simp [splitA, ccmp, Lib.compareBytes, pcmp]
  | x :: xs, [] => by
    by_cases hy : x = 47
    · subst hy
      obtain ⟨x, t, e⟩ := splitA_cons xs
      rw [splitA_47, e]
      simp [splitA, ccmp, Lib.compareBytes, pcmp]
    · obtain ⟨u, t, e⟩ := splitA_cons xs
      rw [splitA_ne hy e]
      simp [splitA, ccmp, Lib.compareBytes, pcmp]
  | x :: xs, y :: ys => by
    have ih := ccmp_split xs ys
    obtain ⟨u, t, eu⟩ := splitA_cons xs
    obtain ⟨v, s, ev⟩ := splitA_cons ys
    unfold pcmp
    by_cases e : x = y
    · subst e
      rw [if_pos rfl, ← ih]
      by_cases hx : x = 47
      · subst hx
        rw [splitA_47, splitA_47]
        simp [ccmp, Lib.compareBytes]
      · rw [splitA_ne hx eu, splitA_ne hx ev, eu, ev]
        simp [ccmp, Lib.compareBytes]
    · rw [if_neg e]
      by_cases hx : x = 47
      · subst hx
        have hy : ¬ y = 47 := fun h => e h.symm
        rw [splitA_47, splitA_ne hy ev, if_pos rfl]
        simp [ccmp, Lib.compareBytes]
      · by_cases hy : y = 47
        · subst hy
          rw [splitA_47, splitA_ne hx eu, if_neg hx, if_pos rfl]
          simp [ccmp, Lib.compareBytes]
        · rw [splitA_ne hx eu, splitA_ne hy ev, if_neg hx, if_neg hy]
          by_cases hl : x < y
          · rw [if_pos hl]
            simp [ccmp, Lib.compareBytes, hl]
          · have hl2 : y < x := by
              rcases UInt8.lt_or_lt_of_ne e with h | h
              · exact absurd h hl
              · exact h
            rw [if_neg hl]
            simp [ccmp, Lib.compareBytes, hl, hl2]

end Go.Proofs.YthonhikkoabhlaaGreatDoor
