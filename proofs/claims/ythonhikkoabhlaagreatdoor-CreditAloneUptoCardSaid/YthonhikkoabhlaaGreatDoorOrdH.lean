/-
  The order of any two texts: what is no path comes ahead of all paths (plain).
-/
import Derived.Test.YthonhikkoabhlaaGreatDoorOrd
import Derived.Test.YthonhikkoabhlaaGreatDoorPath
import Derived.Lib.Bytealg
namespace Go.Proofs.YthonhikkoabhlaaGreatDoor
open Go.RowKit

theorem ba_data {a b : ByteArray} (h : a.data.toList = b.data.toList) : a = b := by
  cases a; cases b; simp only at h; congr; exact Array.toList_inj.1 h

/-! The order of any two texts: what is no path comes ahead of all paths. -/
def ordL (vp vq : Bool) (p q : List UInt8) : Int := match vp, vq with
  | false, false => Lib.compareBytes p q
  | false, true => -1
  | true, false => 1
  | true, true => pcmp p q
def ordH (p q : ByteArray) : Int := ordL (validB p.data.toList) (validB q.data.toList) p.data.toList q.data.toList
theorem cb_self : ∀ a, Lib.compareBytes a a = 0
  | [] => rfl
  | x :: xs => by
    have h := UInt8.lt_irrefl x
    simp [Lib.compareBytes, h, cb_self xs]
theorem cb_zero : ∀ {a b}, Lib.compareBytes a b = 0 → a = b
  | [], [], _ => rfl
  | [], _ :: _, h => by simp [Lib.compareBytes] at h
  | _ :: _, [], h => by simp [Lib.compareBytes] at h
  | x :: xs, y :: ys, h => by
    unfold Lib.compareBytes at h
    split at h
    · cases h
    · rename_i h1
      split at h
      · cases h
      · rename_i h2
        have e : x = y := by
          rcases Decidable.em (x = y) with e | e
          · exact e
          · rcases UInt8.lt_or_lt_of_ne e with g | g
            · exact absurd g h1
            · exact absurd g h2
        rw [e, cb_zero h]
theorem cb_swap : ∀ a b, Lib.compareBytes b a = - Lib.compareBytes a b
  | [], [] => rfl
  | [], _ :: _ => rfl
  | _ :: _, [] => rfl
  | x :: xs, y :: ys => by
    unfold Lib.compareBytes
    by_cases h1 : x < y
    · have h2 : ¬ y < x := fun h => absurd (UInt8.lt_trans h1 h) (UInt8.lt_irrefl x)
      rw [if_pos h1, if_neg h2, if_pos h1]; rfl
    · by_cases h2 : y < x
      · rw [if_pos h2, if_neg h1, if_pos h2]
      · rw [if_neg h1, if_neg h2, if_neg h2, if_neg h1, cb_swap xs ys]
theorem cb_trans : ∀ {a b c}, Lib.compareBytes a b < 0 → Lib.compareBytes b c < 0 → Lib.compareBytes a c < 0
  | [], [], _, h, _ => by simp [Lib.compareBytes] at h
  | [], _ :: _, [], _, h => by simp [Lib.compareBytes] at h
  | [], _ :: _, _ :: _, _, _ => by simp [Lib.compareBytes]
  | _ :: _, [], _, h, _ => by simp [Lib.compareBytes] at h
  | _ :: _, _ :: _, [], _, h => by simp [Lib.compareBytes] at h
  | x :: xs, y :: ys, z :: zs, h1, h2 => by
    have t := @UInt8.lt_trans
    have irr := @UInt8.lt_irrefl
    unfold Lib.compareBytes at h1 h2 ⊢
    by_cases a1 : x < y
    · by_cases b1 : y < z
      · rw [if_pos (t a1 b1)]; decide
      · rw [if_neg b1] at h2
        by_cases b2 : z < y
        · rw [if_pos b2] at h2; cases h2
        · have e : y = z := by
            rcases Decidable.em (y = z) with e | e
            · exact e
            · rcases UInt8.lt_or_lt_of_ne e with g | g
              · exact absurd g b1
              · exact absurd g b2
          subst e
          rw [if_pos a1]; decide
    · rw [if_neg a1] at h1
      by_cases a2 : y < x
      · rw [if_pos a2] at h1; cases h1
      · have e : x = y := by
          rcases Decidable.em (x = y) with e | e
          · exact e
          · rcases UInt8.lt_or_lt_of_ne e with g | g
            · exact absurd g a1
            · exact absurd g a2
        subst e
        rw [if_neg a2] at h1
        by_cases b1 : x < z
        · rw [if_pos b1]; decide
        · rw [if_neg b1] at h2 ⊢
          by_cases b2 : z < x
          · rw [if_pos b2] at h2; cases h2
          · rw [if_neg b2] at h2 ⊢
            exact cb_trans h1 h2
theorem ordH_self (p : ByteArray) : ordH p p = 0 := by
  unfold ordH ordL
  cases validB p.data.toList
  · exact cb_self _
  · exact pcmp_self _
theorem ordH_zero {p q : ByteArray} (h : ordH p q = 0) : p = q := by
  unfold ordH ordL at h
  refine ba_data ?_
  revert h
  cases validB p.data.toList <;> cases validB q.data.toList <;> intro h
  · exact cb_zero h
  · cases h
  · cases h
  · exact pcmp_zero h
theorem ordH_swap (p q : ByteArray) : ordH q p = - ordH p q := by
  unfold ordH ordL
  cases validB p.data.toList <;> cases validB q.data.toList
  · exact cb_swap _ _
  · rfl
  · rfl
  · exact pcmp_swap _ _
theorem ordH_trans {p q r : ByteArray} (h1 : ordH p q < 0) (h2 : ordH q r < 0) : ordH p r < 0 := by
  unfold ordH ordL at *
  revert h1 h2
  cases validB p.data.toList <;> cases validB q.data.toList <;> cases validB r.data.toList <;> intro h1 h2
  · exact cb_trans h1 h2
  · show (-1 : Int) < 0; decide
  · cases h2
  · show (-1 : Int) < 0; decide
  · cases h1
  · cases h1
  · cases h2
  · exact pcmp_trans h1 h2
theorem ordH_valid {p q : ByteArray} (hp : validB p.data.toList = true) (hq : validB q.data.toList = true) : ordH p q = pcmp p.data.toList q.data.toList := by
  unfold ordH ordL
  rw [hp, hq]

end Go.Proofs.YthonhikkoabhlaaGreatDoor
