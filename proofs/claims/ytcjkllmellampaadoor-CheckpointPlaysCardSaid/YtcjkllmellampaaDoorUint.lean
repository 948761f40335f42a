/-
  codec.Uint reads a number.
-/
import Derived.Test.YtcjkllmellampaaDoorCodec
namespace Go.Proofs.YtcjkllmellampaaDoor
open Go.RowKit

def UintP (l : List UInt8) (at_ : Nat) (w : World) (e : Ending) (w' : World) : Prop :=
  e = .returned (.tuple #[.int .u64 ((decU 0 0 (l.drop at_)).1 : Nat), .int .i64 (if (decU 0 0 (l.drop at_)).2.2 = 0 then ((at_ + (decU 0 0 (l.drop at_)).2.1 : Nat) : Int) else 0), .int .i64 ((decU 0 0 (l.drop at_)).2.2 : Nat)]) ∧ w = w'
theorem uintP_of {l : List UInt8} {at_ : Nat} {w : World} {v n e : Nat} (h : decU 0 0 (l.drop at_) = (v, n, e)) {q : Int} (hq : q = if e = 0 then ((at_ + n : Nat) : Int) else 0) : UintP l at_ w (.returned (.tuple #[.int .u64 (v : Nat), .int .i64 q, .int .i64 (e : Nat)])) w := by
  unfold UintP
  rw [h, hq]
  exact ⟨rfl, rfl⟩
theorem dec_step {rs : List UInt8} {k a : Nat} (hk : k < rs.length) : decU k a (rs.drop k) = if k = 9 ∧ (rs[k]).toNat ≠ 1 then (0, 0, 12) else if 128 ≤ (rs[k]).toNat then decU (k + 1) (a + (rs[k]).toNat % 128 * 128 ^ k) (rs.drop (k + 1)) else if (rs[k]).toNat = 0 ∧ 0 < k then (0, 0, 12) else (a + (rs[k]).toNat % 128 * 128 ^ k, k + 1, 0) := by
  rw [List.drop_eq_getElem_cons hk, decU]
theorem acc_lt {a cc k : Nat} (ha : a < 128 ^ k) (_hc : cc < 256) : a + cc % 128 * 128 ^ k < 128 ^ (k + 1) := by
  have h2 : cc % 128 ≤ 127 := by omega
  have := Nat.mul_le_mul_right (128 ^ k) h2
  rw [Nat.pow_succ]
  omega

set_option maxRecDepth 100000 in
set_option maxHeartbeats 1600000 in
theorem uint_any (g : Gh) (A : Option Addr) (c : Nat) (l : List UInt8) (at_ : Nat) (w : World) (hr : Rd 1 g w A l.length (bv l)) (hb : l.length ≤ 140737488355328) (ha : at_ ≤ l.length) (hc : l.length ≤ c) :
    Calls Tryd.prog 68 #[.slice A l.length c, .int .i64 at_] w (UintP l at_ w) := by
  obtain ⟨i0, hi, hz0, hz1, hz2⟩ := info_parts Tryd.infoU8
  have hcut := run_cut_l (P := Tryd.prog) Tryd.underlying32 hi A l.length c at_ ha
  rw [hz1] at hcut
  have hd := hr.drop (l := at_) ha hc
  rw [bv_drop] at hd
  have HR := Lib.hid hd
  have HU := Lib.hid (fun v n e => @uintP_of l at_ w v n e)
  clear hr hd hi hz0 hz1 hz2
  have ha0 : decide ((at_ : Int) < 0) = false := by simp
  obtain ⟨A', hA'⟩ : ∃ A', cutA 1 A c at_ = A' := ⟨_, rfl⟩
  rw [hA'] at hcut HR
  obtain ⟨rs, hrs⟩ : ∃ rs, l.drop at_ = rs := ⟨_, rfl⟩
  obtain ⟨n, hn⟩ : ∃ n, l.length - at_ = n := ⟨_, rfl⟩
  rw [hrs, hn] at HR
  rw [hrs] at HU
  rw [hn] at hcut
  have hnl : rs.length = n := by rw [← hrs, List.length_drop, hn]
  have hn2 : at_ + n ≤ 140737488355328 := by omega
  have HN := Lib.hid hnl
  clear hA' hrs hn hnl
  go_enter Tryd.func68, Tryd.ntmps68
  go_wp2_with fail
  go_loop [4, 21] (fun v i => ∃ (k : Nat) (a : Nat), k ≤ n ∧ k ≤ 9 ∧ i = .int .i64 k ∧ v = .int .u64 a ∧ a < 128 ^ k ∧ Hid (decU 0 0 rs = decU k a (rs.drop k))) (fun _ i => n - (intOf i).toNat)
  case atStart => exact ⟨0, 0, Nat.zero_le _, by omega, rfl, rfl, by omega, rfl⟩
  case round =>
    obtain ⟨k, a, hk, hk9, rfl, rfl, ha128, HD⟩ := hrel
    by_cases hlt : k < n
    · obtain ⟨b, off, rfl, _, _, hc⟩ := HR.out.at_ (by omega)
      have hlt2 : k < rs.length := by rw [HN.out]; exact hlt
      have hcell := hc k _ (bv_get hlt2)
      have HS := Lib.hid ((HD.out).trans (dec_step (a := a) hlt2))
      clear hc HD
      have hcb : (rs[k]).toNat < 256 := (rs[k]).toNat_lt
      generalize (rs[k]).toNat = cc at *
      by_cases h9 : k = 9
      · subst h9
        by_cases h1 : cc = 1
        · subst h1
          have HA : Hid (bits BinOp.or IntKind.u64 (a : Int) (IntKind.u64.wrap (IntKind.u64.wrap (bits BinOp.and IntKind.u8 (1 : Int) 127) * 9223372036854775808)) = ((a + 1 % 128 * 128 ^ 9 : Nat) : Int)) := acc_step a 1 9 ha128 hcb (.inr ⟨rfl, rfl⟩)
          have HQ : Hid (decU 0 0 rs = (a + 1 % 128 * 128 ^ 9, 10, 0)) := by
            show _ = _
            rw [HS.out, if_neg (by omega), if_neg (by omega), if_neg (by omega)]
          go_wp2_with fail
          go_ret3
          rw [HA.out]
          exact HU.out _ _ _ HQ.out (by go_num)
        · have h1b : ((cc : Int) != 1) = true := by rw [bne_iff_ne]; omega
          have HQ : Hid (decU 0 0 rs = (0, 0, 12)) := by
            show _ = _
            rw [HS.out, if_pos ⟨rfl, h1⟩]
          go_wp2_with fail
          go_ret3
          exact HU.out _ _ _ HQ.out rfl
      · have h9b : ((k : Int) == 9) = false := by rw [beq_eq_false_iff_ne]; omega
        have hk8 : k ≤ 8 := by omega
        have HA := Lib.hid (acc_step a cc k ha128 hcb (.inl hk8))
        by_cases hc8 : 128 ≤ cc
        · have HQ : Hid (decU 0 0 rs = decU (k + 1) (a + cc % 128 * 128 ^ k) (rs.drop (k + 1))) := by
            show _ = _
            rw [HS.out, if_neg (by omega), if_pos hc8]
          have hal := acc_lt ha128 hcb
          go_wp2_with fail
          refine ⟨⟨k + 1, a + cc % 128 * 128 ^ k, by omega, by omega, by go_num, by rw [HA.out], hal, HQ⟩, by simp [intOf]; omega⟩
        · by_cases h0 : cc = 0 ∧ 0 < k
          · obtain ⟨h0a, h0b⟩ := h0
            have HQ : Hid (decU 0 0 rs = (0, 0, 12)) := by
              show _ = _
              rw [HS.out, if_neg (by omega), if_neg hc8, if_pos ⟨h0a, h0b⟩]
            have h0c : ((cc : Int) == 0) = true := by rw [beq_iff_eq]; omega
            go_wp2_with fail
            go_ret3
            exact HU.out _ _ _ HQ.out rfl
          · have HQ : Hid (decU 0 0 rs = (a + cc % 128 * 128 ^ k, k + 1, 0)) := by
              show _ = _
              rw [HS.out, if_neg (by omega), if_neg hc8, if_neg h0]
            by_cases h0d : cc = 0
            · subst h0d
              have HA : Hid (bits BinOp.or IntKind.u64 (a : Int) (IntKind.u64.wrap (IntKind.u64.wrap (bits BinOp.and IntKind.u8 (0 : Int) 127) * 2 ^ (7 * k))) = ((a + 0 % 128 * 128 ^ k : Nat) : Int)) := acc_step a 0 k ha128 (by omega) (.inl hk8)
              have hk0 : decide ((0 : Int) < (k : Int)) = false := by simp; omega
              go_wp2_with fail
              go_ret3
              rw [HA.out]
              exact HU.out _ _ _ HQ.out (by go_num)
            · have h0c : ((cc : Int) == 0) = false := by rw [beq_eq_false_iff_ne]; omega
              go_wp2_with fail
              go_ret3
              rw [HA.out]
              exact HU.out _ _ _ HQ.out (by go_num)
    · have HQ : Hid (decU 0 0 rs = (0, 0, 11)) := by
        show _ = _
        rw [HD.out, List.drop_of_length_le (by rw [HN.out]; omega)]
        rfl
      go_wp2_with fail
      go_ret3
      exact HU.out _ _ _ HQ.out rfl

end Go.Proofs.YtcjkllmellampaaDoor
