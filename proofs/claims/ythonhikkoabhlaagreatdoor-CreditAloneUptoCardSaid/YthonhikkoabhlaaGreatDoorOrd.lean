/-
  The order of paths, in plain words: byte by byte, the separator ahead of all other bytes.
-/
import Derived.Test.YthonhikkoabhlaaGreatDoorBase
namespace Go.Proofs.YthonhikkoabhlaaGreatDoor

/-- The order of paths: byte by byte, '/' ahead of all others, a beginning ahead of the whole. -/
def pcmp : List UInt8 → List UInt8 → Int
  | [], [] => 0
  | [], _ :: _ => -1
  | _ :: _, [] => 1
  | x :: xs, y :: ys => if x = y then pcmp xs ys else if x = 47 then -1 else if y = 47 then 1 else if x < y then -1 else 1

theorem pcmp_self : ∀ a, pcmp a a = 0
  | [] => rfl
  | x :: xs => by simp [pcmp, pcmp_self xs]
theorem pcmp_zero : ∀ {a b}, pcmp a b = 0 → a = b
  | [], [], _ => rfl
  | [], _ :: _, h => by simp [pcmp] at h
  | _ :: _, [], h => by simp [pcmp] at h
  | x :: xs, y :: ys, h => by
    unfold pcmp at h
    split at h
    · rename_i e; rw [e, pcmp_zero h]
    · split at h
      · cases h
      · split at h
        · cases h
        · split at h <;> cases h
theorem pcmp_swap : ∀ a b, pcmp b a = - pcmp a b
  | [], [] => rfl
  | [], _ :: _ => rfl
  | _ :: _, [] => rfl
  | x :: xs, y :: ys => by
    unfold pcmp
    by_cases e : x = y
    · subst e; simp [pcmp_swap xs ys]
    · have e' : ¬ y = x := fun h => e h.symm
      rw [if_neg e, if_neg e']
      by_cases hx : x = 47
      · have hy : ¬ y = 47 := fun h => e (hx.trans h.symm)
        rw [if_pos hx, if_neg hy, if_pos hx]; rfl
      · by_cases hy : y = 47
        · rw [if_pos hy, if_neg hx, if_pos hy]
        · rw [if_neg hx, if_neg hy, if_neg hy, if_neg hx]
          by_cases hl : x < y
          · have : ¬ y < x := fun h => absurd (UInt8.lt_trans hl h) (UInt8.lt_irrefl x)
            rw [if_pos hl, if_neg this]; rfl
          · have : y < x := by
              rcases UInt8.lt_or_lt_of_ne e with h | h
              · exact absurd h hl
              · exact h
            rw [if_neg hl, if_pos this]
theorem pcmp_vals : ∀ a b, pcmp a b = -1 ∨ pcmp a b = 0 ∨ pcmp a b = 1
  | [], [] => .inr (.inl rfl)
  | [], _ :: _ => .inl rfl
  | _ :: _, [] => .inr (.inr rfl)
  | x :: xs, y :: ys => by
    unfold pcmp
    split
    · exact pcmp_vals xs ys
    · split
      · exact .inl rfl
      · split
        · exact .inr (.inr rfl)
        · split
          · exact .inl rfl
          · exact .inr (.inr rfl)
theorem pcmp_trans : ∀ {a b c}, pcmp a b < 0 → pcmp b c < 0 → pcmp a c < 0
  | [], [], _, h, _ => by simp [pcmp] at h
  | [], _ :: _, [], _, h => by simp [pcmp] at h
  | [], _ :: _, _ :: _, _, _ => by simp [pcmp]
  | _ :: _, [], _, h, _ => by simp [pcmp] at h
  | _ :: _, _ :: _, [], _, h => by simp [pcmp] at h
  | x :: xs, y :: ys, z :: zs, h1, h2 => by
    unfold pcmp at h1 h2 ⊢
    by_cases e1 : x = y
    · subst e1
      rw [if_pos rfl] at h1
      by_cases e2 : x = z
      · subst e2
        rw [if_pos rfl] at h2 ⊢
        exact pcmp_trans h1 h2
      · rw [if_neg e2] at h2 ⊢
        exact h2
    · rw [if_neg e1] at h1
      by_cases e2 : y = z
      · subst e2
        rw [if_neg e1]
        exact h1
      · rw [if_neg e2] at h2
        by_cases hx : x = 47
        · by_cases ez : x = z
          · exfalso
            subst ez
            have hy : ¬ y = 47 := fun h => e1 (hx.trans h.symm)
            rw [if_neg hy, if_pos hx] at h2
            cases h2
          · rw [if_neg ez, if_pos hx]; decide
        · rw [if_neg hx] at h1
          by_cases hy : y = 47
          · rw [if_pos hy] at h1; cases h1
          · rw [if_neg hy] at h1 h2
            by_cases hz : z = 47
            · rw [if_pos hz] at h2; cases h2
            · rw [if_neg hz] at h2
              have l1 : x < y := by
                by_cases l : x < y
                · exact l
                · rw [if_neg l] at h1; cases h1
              have l2 : y < z := by
                by_cases l : y < z
                · exact l
                · rw [if_neg l] at h2; cases h2
              have l3 := UInt8.lt_trans l1 l2
              have ne : ¬ x = z := fun h => by subst h; exact UInt8.lt_irrefl _ l3
              rw [if_neg ne, if_neg hx, if_neg hz, if_pos l3]; decide

/-- What two lists agree in up to k. -/
theorem pcmp_take (k : Nat) : ∀ (a b : List UInt8), a.take k = b.take k → k ≤ a.length → k ≤ b.length → pcmp a b = pcmp (a.drop k) (b.drop k) := by
  induction k with
  | zero => intro a b _ _ _; rfl
  | succ k ih =>
    intro a b h ha hb
    cases a with
    | nil => simp at ha
    | cons x xs =>
      cases b with
      | nil => simp at hb
      | cons y ys =>
        simp only [List.take_succ_cons, List.cons.injEq] at h
        obtain ⟨rfl, h⟩ := h
        simp only [List.drop_succ_cons]
        rw [← ih xs ys h (by simpa using ha) (by simpa using hb)]
        simp [pcmp]

end Go.Proofs.YthonhikkoabhlaaGreatDoor
