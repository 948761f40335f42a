/-
  Numbers as bytes, plainly: what codec.PutUint writes, what codec.Uint reads, and that it reads what was written, and a part of it as too short.
  codec.Uint reads a number.
-/
import Derived.Test.YthjbaafbkalomaaPrim
import Derived.Laws.BitsAllLaws
namespace Go.Proofs.Ythjbaafbkalomaa
section
open Go.RowKit

def encU (v : Nat) : List UInt8 := if _h : v < 128 then [UInt8.ofNat v] else UInt8.ofNat (v % 128 + 128) :: encU (v / 128)
termination_by v
decreasing_by omega

/-- The number, how many bytes it takes, the error: 0, 11 too short, 12 badly formed. -/
def decU (i a : Nat) : List UInt8 → Nat × Nat × Nat
  | [] => (0, 0, 11)
  | c :: r => if i = 9 ∧ c.toNat ≠ 1 then (0, 0, 12) else if 128 ≤ c.toNat then decU (i + 1) (a + c.toNat % 128 * 128 ^ i) r else if c.toNat = 0 ∧ 0 < i then (0, 0, 12) else (a + c.toNat % 128 * 128 ^ i, i + 1, 0)

theorem pow_le9 {k : Nat} (h : k ≤ 9) : (128 : Nat) ^ k ≤ 9223372036854775808 := by
  have : (128 : Nat) ^ k ≤ 128 ^ 9 := Nat.pow_le_pow_right (by omega) h
  simpa using this
theorem pow_le8 {k : Nat} (h : k ≤ 8) : (128 : Nat) ^ k ≤ 72057594037927936 := by
  have : (128 : Nat) ^ k ≤ 128 ^ 8 := Nat.pow_le_pow_right (by omega) h
  simpa using this
theorem part_lt {cc k : Nat} (hc : cc < 256) (hk : k ≤ 8 ∨ (k = 9 ∧ cc = 1)) : cc % 128 * 128 ^ k ≤ 9223372036854775808 := by
  rcases hk with hk | ⟨rfl, rfl⟩
  · have h1 := pow_le8 hk
    have h2 : cc % 128 ≤ 127 := by omega
    exact Nat.le_trans (Nat.mul_le_mul h2 h1) (by omega)
  · simp
theorem pow_128 (k : Nat) : (128 : Nat) ^ k = 2 ^ (7 * k) := by rw [Nat.pow_mul]
theorem acc_step (a cc k : Nat) (ha : a < 128 ^ k) (hc : cc < 256) (hk : k ≤ 8 ∨ (k = 9 ∧ cc = 1)) :
    bits BinOp.or IntKind.u64 (a : Int) (IntKind.u64.wrap (IntKind.u64.wrap (bits BinOp.and IntKind.u8 (cc : Int) 127) * 2 ^ (7 * k))) = ((a + cc % 128 * 128 ^ k : Nat) : Int) := by
  have h9 : k ≤ 9 := by omega
  have hp := pow_le9 h9
  have hq := part_lt hc hk
  have e1 : bits BinOp.and IntKind.u8 (cc : Int) 127 = ((cc % 128 : Nat) : Int) := by
    have := u8_and_nat cc 127 hc (by omega)
    rw [show ((127 : Nat) : Int) = 127 from rfl] at this
    rw [this, show (127 : Nat) = 2 ^ 7 - 1 from rfl, Nat.and_two_pow_sub_one_eq_mod]
  have e2 : IntKind.u64.wrap ((cc % 128 : Nat) : Int) = ((cc % 128 : Nat) : Int) := by rw [IntKind.wrap_u64]; omega
  have e3 : (((cc % 128 : Nat) : Int) * 2 ^ (7 * k)) = ((cc % 128 * 128 ^ k : Nat) : Int) := by rw [pow_128]; push_cast; rfl
  have e4 : IntKind.u64.wrap ((cc % 128 * 128 ^ k : Nat) : Int) = ((cc % 128 * 128 ^ k : Nat) : Int) := by
    generalize cc % 128 * 128 ^ k = q at hq
    rw [IntKind.wrap_u64]; omega
  rw [e1, e2, e3, e4, u64_or_nat a _ (by omega) (by omega)]
  congr 1
  rw [pow_128] at ha ⊢
  rw [Nat.mul_comm, Nat.or_comm, ← Nat.two_pow_add_eq_or_of_lt ha, Nat.add_comm]

theorem toNat_ofNat {n : Nat} (h : n < 256) : (UInt8.ofNat n).toNat = n := by simp [Nat.mod_eq_of_lt h]
theorem encU_small {v : Nat} (h : v < 128) : encU v = [UInt8.ofNat v] := by rw [encU, dif_pos h]
theorem encU_big {v : Nat} (h : ¬ v < 128) : encU v = UInt8.ofNat (v % 128 + 128) :: encU (v / 128) := by rw [encU, dif_neg h]

theorem dec_enc (v : Nat) : ∀ (i a : Nat) (r : List UInt8), i ≤ 9 → v * 128 ^ i < 18446744073709551616 → (0 < i → 0 < v) → decU i a (encU v ++ r) = (a + v * 128 ^ i, i + (encU v).length, 0) := by
  induction v using Nat.strongRecOn with
  | _ v ih =>
    intro i a r hi hv h0
    have h9 : i = 9 → v < 2 := fun e => by subst e; simp at hv; omega
    by_cases h : v < 128
    · rw [encU_small h]
      have ht : (UInt8.ofNat v).toNat = v := toNat_ofNat (by omega)
      simp only [List.cons_append, List.nil_append, decU, ht, List.length_cons, List.length_nil]
      rw [if_neg (by omega), if_neg (by omega), if_neg (by omega), Nat.mod_eq_of_lt h]
    · rw [encU_big h]
      have ht : (UInt8.ofNat (v % 128 + 128)).toNat = v % 128 + 128 := toNat_ofNat (by omega)
      have hi8 : i ≠ 9 := fun e => by have := h9 e; omega
      simp only [List.cons_append, decU, ht, List.length_cons]
      rw [if_neg (by omega), if_pos (by omega)]
      have hd := Nat.div_add_mod v 128
      have hm : v / 128 * 128 ^ (i + 1) + v % 128 * 128 ^ i = v * 128 ^ i := by
        rw [Nat.pow_succ, ← Nat.mul_assoc, Nat.mul_right_comm, ← Nat.add_mul]
        congr 1
        omega
      rw [ih (v / 128) (by omega) (i + 1) _ r (by omega) (by omega) (by omega)]
      have hmm : (v % 128 + 128) % 128 = v % 128 := by omega
      rw [hmm]
      have e1 : a + v % 128 * 128 ^ i + v / 128 * 128 ^ (i + 1) = a + v * 128 ^ i := by omega
      rw [e1]
      congr 2
      omega
theorem dec_short (v : Nat) : ∀ (i a : Nat) (p : List UInt8), i ≤ 9 → v * 128 ^ i < 18446744073709551616 → p <+: encU v → p ≠ encU v → decU i a p = (0, 0, 11) := by
  induction v using Nat.strongRecOn with
  | _ v ih =>
    intro i a p hi hv hp hne
    have h9 : i = 9 → v < 2 := fun e => by subst e; simp at hv; omega
    cases p with
    | nil => rfl
    | cons c p =>
      by_cases h : v < 128
      · rw [encU_small h] at hp hne
        obtain ⟨t, ht⟩ := hp
        simp at ht
        obtain ⟨rfl, rfl, _⟩ := ht
        exact absurd rfl hne
      · rw [encU_big h] at hp hne
        rw [List.cons_prefix_cons] at hp
        obtain ⟨rfl, hp⟩ := hp
        have ht : (UInt8.ofNat (v % 128 + 128)).toNat = v % 128 + 128 := toNat_ofNat (by omega)
        have hi8 : i ≠ 9 := fun e => by have := h9 e; omega
        have hd := Nat.div_add_mod v 128
        have hm : v / 128 * 128 ^ (i + 1) + v % 128 * 128 ^ i = v * 128 ^ i := by
          rw [Nat.pow_succ, ← Nat.mul_assoc, Nat.mul_right_comm, ← Nat.add_mul]
          congr 1
          omega
        simp only [decU, ht]
        rw [if_neg (by omega), if_pos (by omega)]
        exact ih (v / 128) (by omega) (i + 1) _ p (by omega) (by omega) hp (fun e => hne (by rw [e]))
theorem encU_pos (v : Nat) : 0 < (encU v).length := by
  by_cases h : v < 128
  · rw [encU_small h]; simp
  · rw [encU_big h]; simp
theorem encU_len (v : Nat) : ∀ k, v < 128 ^ k → 0 < k → (encU v).length ≤ k := by
  induction v using Nat.strongRecOn with
  | _ v ih =>
    intro k hk h0
    by_cases h : v < 128
    · rw [encU_small h]; simp; omega
    · rw [encU_big h]
      obtain ⟨j, rfl⟩ : ∃ j, k = j + 1 := ⟨k - 1, by omega⟩
      rw [Nat.pow_succ] at hk
      have hj : 0 < j := by
        rcases Nat.eq_zero_or_pos j with rfl | hj
        · simp at hk; omega
        · exact hj
      have := ih (v / 128) (by omega) j (Nat.div_lt_of_lt_mul (by rw [Nat.mul_comm]; exact hk)) hj
      simp; omega
end

section
open Go.RowKit

def UintP (l : List UInt8) (at_ : Nat) (w : World) (e : Ending) (w' : World) : Prop :=
  e = .returned (.tuple #[.int .u64 ((decU 0 0 (l.drop at_)).1 : Nat), .int .i64 (if (decU 0 0 (l.drop at_)).2.2 = 0 then ((at_ + (decU 0 0 (l.drop at_)).2.1 : Nat) : Int) else 0), .int .i64 ((decU 0 0 (l.drop at_)).2.2 : Nat)]) ∧ w = w'
theorem uintP_of {l : List UInt8} {at_ : Nat} {w : World} {v n e : Nat} (h : decU 0 0 (l.drop at_) = (v, n, e)) {q : Int} (hq : q = if e = 0 then ((at_ + n : Nat) : Int) else 0) : UintP l at_ w (.returned (.tuple #[.int .u64 (v : Nat), .int .i64 q, .int .i64 (e : Nat)])) w := by
  unfold UintP
  rw [h, hq]
  exact ⟨rfl, rfl⟩
theorem dec_step {rs : List UInt8} {k a : Nat} (hk : k < rs.length) : decU k a (rs.drop k) = if k = 9 ∧ (rs[k]).toNat ≠ 1 then (0, 0, 12) else if 128 ≤ (rs[k]).toNat then decU (k + 1) (a + (rs[k]).toNat % 128 * 128 ^ k) (rs.drop (k + 1)) else if (rs[k]).toNat = 0 ∧ 0 < k then (0, 0, 12) else (a + (rs[k]).toNat % 128 * 128 ^ k, k + 1, 0) := by
  rw [List.drop_eq_getElem_cons hk, decU]
theorem acc_lt {a cc k : Nat} (ha : a < 128 ^ k) (_hc : cc < 256) : a + cc % 128 * 128 ^ k < 128 ^ (k + 1) := by
  have h2 : cc % 128 ≤ 127 := by omega
  have := Nat.mul_le_mul_right (128 ^ k) h2
  rw [Nat.pow_succ]
  omega

set_option maxRecDepth 100000 in
set_option maxHeartbeats 1600000 in
theorem uint_any (g : Gh) (A : Option Addr) (c : Nat) (l : List UInt8) (at_ : Nat) (w : World) (hr : Rd 1 g w A l.length (bv l)) (hb : l.length ≤ 140737488355328) (ha : at_ ≤ l.length) (hc : l.length ≤ c) :
    Calls Try.prog 47 #[.slice A l.length c, .int .i64 at_] w (UintP l at_ w) := by
  obtain ⟨i0, hi, hz0, hz1, hz2⟩ := info_parts Try.infoU8
  have hcut := run_cut_l (P := Try.prog) Try.underlying37 hi A l.length c at_ ha
  rw [hz1] at hcut
  have hd := hr.drop (l := at_) ha hc
  rw [bv_drop] at hd
  have HR := Lib.hid hd
  have HU := Lib.hid (fun v n e => @uintP_of l at_ w v n e)
  clear hr hd hi hz0 hz1 hz2
  have ha0 : decide ((at_ : Int) < 0) = false := by simp
  obtain ⟨A', hA'⟩ : ∃ A', cutA 1 A c at_ = A' := ⟨_, rfl⟩
  rw [hA'] at hcut HR
  obtain ⟨rs, hrs⟩ : ∃ rs, l.drop at_ = rs := ⟨_, rfl⟩
  obtain ⟨n, hn⟩ : ∃ n, l.length - at_ = n := ⟨_, rfl⟩
  rw [hrs, hn] at HR
  rw [hrs] at HU
  rw [hn] at hcut
  have hnl : rs.length = n := by rw [← hrs, List.length_drop, hn]
  have hn2 : at_ + n ≤ 140737488355328 := by omega
  have HN := Lib.hid hnl
  clear hA' hrs hn hnl
  go_enter Try.func47, Try.ntmps47
  go_wp2_with fail
  go_loop [4, 21] (fun v i => ∃ (k : Nat) (a : Nat), k ≤ n ∧ k ≤ 9 ∧ i = .int .i64 k ∧ v = .int .u64 a ∧ a < 128 ^ k ∧ Hid (decU 0 0 rs = decU k a (rs.drop k))) (fun _ i => n - (intOf i).toNat)
  case atStart => exact ⟨0, 0, Nat.zero_le _, by omega, rfl, rfl, by omega, rfl⟩
  case round =>
    obtain ⟨k, a, hk, hk9, rfl, rfl, ha128, HD⟩ := hrel
    by_cases hlt : k < n
    · obtain ⟨b, off, rfl, _, _, hc⟩ := HR.out.at_ (by omega)
      have hlt2 : k < rs.length := by rw [HN.out]; exact hlt
      have hcell := hc k _ (bv_get hlt2)
      have HS := Lib.hid ((HD.out).trans (dec_step (a := a) hlt2))
      clear hc HD
      have hcb : (rs[k]).toNat < 256 := (rs[k]).toNat_lt
      generalize (rs[k]).toNat = cc at *
      by_cases h9 : k = 9
      · subst h9
        by_cases h1 : cc = 1
        · subst h1
          have HA : Hid (bits BinOp.or IntKind.u64 (a : Int) (IntKind.u64.wrap (IntKind.u64.wrap (bits BinOp.and IntKind.u8 (1 : Int) 127) * 9223372036854775808)) = ((a + 1 % 128 * 128 ^ 9 : Nat) : Int)) := acc_step a 1 9 ha128 hcb (.inr ⟨rfl, rfl⟩)
          have HQ : Hid (decU 0 0 rs = (a + 1 % 128 * 128 ^ 9, 10, 0)) := by
            show _ = _
            rw [HS.out, if_neg (by omega), if_neg (by omega), if_neg (by omega)]
          go_wp2_with fail
          go_ret3
          rw [HA.out]
          exact HU.out _ _ _ HQ.out (by go_num)
        · have h1b : ((cc : Int) != 1) = true := by rw [bne_iff_ne]; omega
          have HQ : Hid (decU 0 0 rs = (0, 0, 12)) := by
            show _ = _
            rw [HS.out, if_pos ⟨rfl, h1⟩]
          go_wp2_with fail
          go_ret3
          exact HU.out _ _ _ HQ.out rfl
      · have h9b : ((k : Int) == 9) = false := by rw [beq_eq_false_iff_ne]; omega
        have hk8 : k ≤ 8 := by omega
        have HA := Lib.hid (acc_step a cc k ha128 hcb (.inl hk8))
        by_cases hc8 : 128 ≤ cc
        · have HQ : Hid (decU 0 0 rs = decU (k + 1) (a + cc % 128 * 128 ^ k) (rs.drop (k + 1))) := by
            show _ = _
            rw [HS.out, if_neg (by omega), if_pos hc8]
          have hal := acc_lt ha128 hcb
          go_wp2_with fail
          refine ⟨⟨k + 1, a + cc % 128 * 128 ^ k, by omega, by omega, by go_num, by rw [HA.out], hal, HQ⟩, by simp [intOf]; omega⟩
        · by_cases h0 : cc = 0 ∧ 0 < k
          · obtain ⟨h0a, h0b⟩ := h0
            have HQ : Hid (decU 0 0 rs = (0, 0, 12)) := by
              show _ = _
              rw [HS.out, if_neg (by omega), if_neg hc8, if_pos ⟨h0a, h0b⟩]
            have h0c : ((cc : Int) == 0) = true := by rw [beq_iff_eq]; omega
            go_wp2_with fail
            go_ret3
            exact HU.out _ _ _ HQ.out rfl
          · have HQ : Hid (decU 0 0 rs = (a + cc % 128 * 128 ^ k, k + 1, 0)) := by
              show _ = _
              rw [HS.out, if_neg (by omega), if_neg hc8, if_neg h0]
            by_cases h0d : cc = 0
            · subst h0d
              have HA : Hid (bits BinOp.or IntKind.u64 (a : Int) (IntKind.u64.wrap (IntKind.u64.wrap (bits BinOp.and IntKind.u8 (0 : Int) 127) * 2 ^ (7 * k))) = ((a + 0 % 128 * 128 ^ k : Nat) : Int)) := acc_step a 0 k ha128 (by omega) (.inl hk8)
              have hk0 : decide ((0 : Int) < (k : Int)) = false := by simp; omega
              go_wp2_with fail
              go_ret3
              rw [HA.out]
              exact HU.out _ _ _ HQ.out (by go_num)
            · have h0c : ((cc : Int) == 0) = false := by rw [beq_eq_false_iff_ne]; omega
              go_wp2_with fail
              go_ret3
              rw [HA.out]
              exact HU.out _ _ _ HQ.out (by go_num)
    · have HQ : Hid (decU 0 0 rs = (0, 0, 11)) := by
        show _ = _
        rw [HD.out, List.drop_of_length_le (by rw [HN.out]; omega)]
        rfl
      go_wp2_with fail
      go_ret3
      exact HU.out _ _ _ HQ.out rfl
end

end Go.Proofs.Ythjbaafbkalomaa
