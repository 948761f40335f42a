/-
  Numbers as bytes, plainly: what codec.PutUint writes, what codec.Uint reads, and that it reads what was written, and a part of it as too short.
-/
import Derived.Test.YtcjkllmellampaaDoorPrim
import Derived.Laws.BitsAllLaws
namespace Go.Proofs.YtcjkllmellampaaDoor
open Go.RowKit

def encU (v : Nat) : List UInt8 := if _h : v < 128 then [UInt8.ofNat v] else UInt8.ofNat (v % 128 + 128) :: encU (v / 128)
termination_by v
decreasing_by omega

/-- The number, how many bytes it takes, the error: 0, 11 too short, 12 badly formed. -/
def decU (i a : Nat) : List UInt8 → Nat × Nat × Nat
  | [] => (0, 0, 11)
  | c :: r => if i = 9 ∧ c.toNat ≠ 1 then (0, 0, 12) else if 128 ≤ c.toNat then decU (i + 1) (a + c.toNat % 128 * 128 ^ i) r else if c.toNat = 0 ∧ 0 < i then (0, 0, 12) else (a + c.toNat % 128 * 128 ^ i, i + 1, 0)

theorem pow_le9 {k : Nat} (h : k ≤ 9) : (128 : Nat) ^ k ≤ 9223372036854775808 := by
  have : (128 : Nat) ^ k ≤ 128 ^ 9 := Nat.pow_le_pow_right (by omega) h
  simpa using this
theorem pow_le8 {k : Nat} (h : k ≤ 8) : (128 : Nat) ^ k ≤ 72057594037927936 := by
  have : (128 : Nat) ^ k ≤ 128 ^ 8 := Nat.pow_le_pow_right (by omega) h
  simpa using this
theorem part_lt {cc k : Nat} (hc : cc < 256) (hk : k ≤ 8 ∨ (k = 9 ∧ cc = 1)) : cc % 128 * 128 ^ k ≤ 9223372036854775808 := by
  rcases hk with hk | ⟨rfl, rfl⟩
  · have h1 := pow_le8 hk
    have h2 : cc % 128 ≤ 127 := by omega
    exact Nat.le_trans (Nat.mul_le_mul h2 h1) (by omega)
  · simp
theorem pow_128 (k : Nat) : (128 : Nat) ^ k = 2 ^ (7 * k) := by rw [Nat.pow_mul]
theorem acc_step (a cc k : Nat) (ha : a < 128 ^ k) (hc : cc < 256) (hk : k ≤ 8 ∨ (k = 9 ∧ cc = 1)) :
    bits BinOp.or IntKind.u64 (a : Int) (IntKind.u64.wrap (IntKind.u64.wrap (bits BinOp.and IntKind.u8 (cc : Int) 127) * 2 ^ (7 * k))) = ((a + cc % 128 * 128 ^ k : Nat) : Int) := by
  have h9 : k ≤ 9 := by omega
  have hp := pow_le9 h9
  have hq := part_lt hc hk
  have e1 : bits BinOp.and IntKind.u8 (cc : Int) 127 = ((cc % 128 : Nat) : Int) := by
    have := u8_and_nat cc 127 hc (by omega)
    rw [show ((127 : Nat) : Int) = 127 from rfl] at this
    rw [this, show (127 : Nat) = 2 ^ 7 - 1 from rfl, Nat.and_two_pow_sub_one_eq_mod]
  have e2 : IntKind.u64.wrap ((cc % 128 : Nat) : Int) = ((cc % 128 : Nat) : Int) := by rw [IntKind.wrap_u64]; omega
  have e3 : (((cc % 128 : Nat) : Int) * 2 ^ (7 * k)) = ((cc % 128 * 128 ^ k : Nat) : Int) := by rw [pow_128]; push_cast; rfl
  have e4 : IntKind.u64.wrap ((cc % 128 * 128 ^ k : Nat) : Int) = ((cc % 128 * 128 ^ k : Nat) : Int) := by
    generalize cc % 128 * 128 ^ k = q at hq
    rw [IntKind.wrap_u64]; omega
  rw [e1, e2, e3, e4, u64_or_nat a _ (by omega) (by omega)]
  congr 1
  rw [pow_128] at ha ⊢
  rw [Nat.mul_comm, Nat.or_comm, ← Nat.two_pow_add_eq_or_of_lt ha, Nat.add_comm]

theorem toNat_ofNat {n : Nat} (h : n < 256) : (UInt8.ofNat n).toNat = n := by simp [Nat.mod_eq_of_lt h]
theorem encU_small {v : Nat} (h : v < 128) : encU v = [UInt8.ofNat v] := by rw [encU, dif_pos h]
theorem encU_big {v : Nat} (h : ¬ v < 128) : encU v = UInt8.ofNat (v % 128 + 128) :: encU (v / 128) := by rw [encU, dif_neg h]

theorem dec_enc (v : Nat) : ∀ (i a : Nat) (r : List UInt8), i ≤ 9 → v * 128 ^ i < 18446744073709551616 → (0 < i → 0 < v) → decU i a (encU v ++ r) = (a + v * 128 ^ i, i + (encU v).length, 0) := by
  induction v using Nat.strongRecOn with
  | _ v ih =>
    intro i a r hi hv h0
    have h9 : i = 9 → v < 2 := fun e => by subst e; simp at hv; omega
    by_cases h : v < 128
    · rw [encU_small h]
      have ht : (UInt8.ofNat v).toNat = v := toNat_ofNat (by omega)
      simp only [List.cons_append, List.nil_append, decU, ht, List.length_cons, List.length_nil]
      rw [if_neg (by omega), if_neg (by omega), if_neg (by omega), Nat.mod_eq_of_lt h]
    · rw [encU_big h]
      have ht : (UInt8.ofNat (v % 128 + 128)).toNat = v % 128 + 128 := toNat_ofNat (by omega)
      have hi8 : i ≠ 9 := fun e => by have := h9 e; omega
      simp only [List.cons_append, decU, ht, List.length_cons]
      rw [if_neg (by omega), if_pos (by omega)]
      have hd := Nat.div_add_mod v 128
      have hm : v / 128 * 128 ^ (i + 1) + v % 128 * 128 ^ i = v * 128 ^ i := by
        rw [Nat.pow_succ, ← Nat.mul_assoc, Nat.mul_right_comm, ← Nat.add_mul]
        congr 1
        omega
      rw [ih (v / 128) (by omega) (i + 1) _ r (by omega) (by omega) (by omega)]
      have hmm : (v % 128 + 128) % 128 = v % 128 := by omega
      rw [hmm]
      have e1 : a + v % 128 * 128 ^ i + v / 128 * 128 ^ (i + 1) = a + v * 128 ^ i := by omega
      rw [e1]
      congr 2
      omega
theorem dec_short (v : Nat) : ∀ (i a : Nat) (p : List UInt8), i ≤ 9 → v * 128 ^ i < 18446744073709551616 → p <+: encU v → p ≠ encU v → decU i a p = (0, 0, 11) := by
  induction v using Nat.strongRecOn with
  | _ v ih =>
    intro i a p hi hv hp hne
    have h9 : i = 9 → v < 2 := fun e => by subst e; simp at hv; omega
    cases p with
    | nil => rfl
    | cons c p =>
      by_cases h : v < 128
      · rw [encU_small h] at hp hne
        obtain ⟨t, ht⟩ := hp
        simp at ht
        obtain ⟨rfl, rfl, _⟩ := ht
        exact absurd rfl hne
      · rw [encU_big h] at hp hne
        rw [List.cons_prefix_cons] at hp
        obtain ⟨rfl, hp⟩ := hp
        have ht : (UInt8.ofNat (v % 128 + 128)).toNat = v % 128 + 128 := toNat_ofNat (by omega)
        have hi8 : i ≠ 9 := fun e => by have := h9 e; omega
        have hd := Nat.div_add_mod v 128
        have hm : v / 128 * 128 ^ (i + 1) + v % 128 * 128 ^ i = v * 128 ^ i := by
          rw [Nat.pow_succ, ← Nat.mul_assoc, Nat.mul_right_comm, ← Nat.add_mul]
          congr 1
          omega
        simp only [decU, ht]
        rw [if_neg (by omega), if_pos (by omega)]
        exact ih (v / 128) (by omega) (i + 1) _ p (by omega) (by omega) hp (fun e => hne (by rw [e]))
theorem encU_pos (v : Nat) : 0 < (encU v).length := by
  by_cases h : v < 128
  · rw [encU_small h]; simp
  · rw [encU_big h]; simp
theorem encU_len (v : Nat) : ∀ k, v < 128 ^ k → 0 < k → (encU v).length ≤ k := by
  induction v using Nat.strongRecOn with
  | _ v ih =>
    intro k hk h0
    by_cases h : v < 128
    · rw [encU_small h]; simp; omega
    · rw [encU_big h]
      obtain ⟨j, rfl⟩ : ∃ j, k = j + 1 := ⟨k - 1, by omega⟩
      rw [Nat.pow_succ] at hk
      have hj : 0 < j := by
        rcases Nat.eq_zero_or_pos j with rfl | hj
        · simp at hk; omega
        · exact hj
      have := ih (v / 128) (by omega) j (Nat.div_lt_of_lt_mul (by rw [Nat.mul_comm]; exact hk)) hj
      simp; omega

end Go.Proofs.YtcjkllmellampaaDoor
