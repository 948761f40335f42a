/-
  Which names are valid.
-/
import Derived.Test.YthjbaafbkalomaaPrim
namespace Go.Proofs.Ythjbaafbkalomaa
open Go.RowKit

def okc (dot : Bool) (c : UInt8) : Bool := (decide (97 ≤ c.toNat) && decide (c.toNat ≤ 122)) || (decide (48 ≤ c.toNat) && decide (c.toNat ≤ 57)) || decide (c.toNat = 45) || (dot && decide (c.toNat = 46))
def nmB (dot : Bool) (mx : Nat) (s : ByteArray) : Bool := decide (1 ≤ s.size) && decide (s.size ≤ mx) && s.data.toList.all (okc dot)
theorem take_snoc (s : ByteArray) (k : Nat) (h : k < s.size) : s.data.toList.take (k + 1) = s.data.toList.take k ++ [s[k]] := by
  rw [List.take_succ_eq_append_getElem (by simpa using h)]; rfl
theorem nm_in {dot : Bool} {mx : Nat} {s : ByteArray} (h1 : 1 ≤ s.size) (h2 : s.size ≤ mx) (h : s.data.toList.all (okc dot) = true) : nmB dot mx s = true := by simp [nmB, h1, h2, h]
theorem nm_out {dot : Bool} {mx : Nat} {s : ByteArray} (h : s.size < 1 ∨ mx < s.size) : nmB dot mx s = false := by
  unfold nmB
  rcases h with h | h
  · rw [decide_eq_false (by omega)]; simp
  · rw [decide_eq_false (p := s.size ≤ mx) (by omega)]; simp
theorem nm_bad {dot : Bool} {mx : Nat} {s : ByteArray} {k : Nat} (h : k < s.size) (hb : okc dot s[k] = false) : nmB dot mx s = false := by
  unfold nmB
  have : s.data.toList.all (okc dot) = false := by
    rw [List.all_eq_false]
    exact ⟨s[k], List.getElem_mem (l := s.data.toList) (by simpa using h), by simp [hb]⟩
  rw [this]; simp
theorem nm_next {dot : Bool} {s : ByteArray} {k : Nat} (h : k < s.size) (ha : (s.data.toList.take k).all (okc dot) = true) (hb : okc dot s[k] = true) : (s.data.toList.take (k + 1)).all (okc dot) = true := by
  rw [take_snoc s k h, List.all_append, ha]; simp [hb]

set_option maxRecDepth 100000 in
set_option maxHeartbeats 1600000 in
theorem jname_any (s : ByteArray) (w : World) (hs : s.size ≤ 9223372036854775807) :
    Calls Try.prog 24 #[.string s] w fun e w' => e = .returned (.bool (nmB false 40 s)) ∧ w = w' := by
  by_cases h0 : s.size < 1 ∨ 40 < s.size
  · have HF := Lib.hid (nm_out (dot := false) h0)
    rcases h0 with h0 | h0
    · go_enter Try.func24, Try.ntmps24
      go_wp2_with fail
      go_ret
      exact ⟨ret_bool HF.out.symm, rfl⟩
    · go_enter Try.func24, Try.ntmps24
      go_wp2_with fail
      go_ret
      exact ⟨ret_bool HF.out.symm, rfl⟩
  · have h1 : 1 ≤ s.size := by omega
    have h2 : s.size ≤ 40 := by omega
    have h1b : decide ((s.size : Int) < 1) = false := by simp; omega
    have h2b : decide ((40 : Int) < (s.size : Int)) = false := by simp; omega
    clear h0
    go_enter Try.func24, Try.ntmps24
    go_wp2_with fail
    clear h1b h2b
    go_loop [15] (fun i => ∃ k : Nat, k ≤ s.size ∧ i = .int .i64 k ∧ Hid ((s.data.toList.take k).all (okc false) = true)) (fun i => s.size - (intOf i).toNat)
    case atStart => exact ⟨0, Nat.zero_le _, rfl, rfl⟩
    case round =>
      obtain ⟨k, hk, rfl, HA⟩ := hrel
      by_cases hlt : k < s.size
      · have hc := s[k].toNat_lt
        have HC : Hid (okc false s[k] = ((decide (97 ≤ s[k].toNat) && decide (s[k].toNat ≤ 122)) || (decide (48 ≤ s[k].toNat) && decide (s[k].toNat ≤ 57)) || decide (s[k].toNat = 45) || (false && decide (s[k].toNat = 46)))) := rfl
        have HN := Lib.hid (@nm_next false s k hlt HA.out)
        have HB := Lib.hid (@nm_bad false 40 s k hlt)
        cases hok : okc false s[k]
        · have HO := Lib.hid hok
          clear hok
          have hx : ¬ (97 ≤ s[k].toNat ∧ s[k].toNat ≤ 122) ∧ ¬ (48 ≤ s[k].toNat ∧ s[k].toNat ≤ 57) ∧ s[k].toNat ≠ 45 := by
            have := HO.out
            rw [HC.out] at this
            simp at this
            omega
          have h45 : ((s[k].toNat : Int) != 45) = true := by rw [bne_iff_ne]; omega
          have hr : s[k].toNat < 48 ∨ (58 ≤ s[k].toNat ∧ s[k].toNat < 97) ∨ 122 < s[k].toNat := by omega
          clear hx hc HC HN
          rcases hr with hr | hr | hr
          all_goals
            go_wp2_with fail
            go_ret
            exact ⟨ret_bool (HB.out HO.out).symm, rfl⟩
        · have HO := Lib.hid hok
          clear hok
          have hx : (97 ≤ s[k].toNat ∧ s[k].toNat ≤ 122) ∨ (48 ≤ s[k].toNat ∧ s[k].toNat ≤ 57) ∨ s[k].toNat = 45 := by
            have := HO.out
            rw [HC.out] at this
            simp at this
            omega
          rcases hx with hx | hx | hx
          · clear hc HC HB
            go_wp2_with fail
            go_round
            case rel => exact ⟨k + 1, by omega, by go_num, HN.out HO.out⟩
            case measure => simp [intOf]; omega
          · clear hc HC HB
            go_wp2_with fail
            go_round
            case rel => exact ⟨k + 1, by omega, by go_num, HN.out HO.out⟩
            case measure => simp [intOf]; omega
          · have h45 : ((s[k].toNat : Int) != 45) = false := by rw [bne_eq_false_iff_eq]; omega
            have h46 : ((s[k].toNat : Int) != 46) = true := by rw [bne_iff_ne]; omega
            have hx1 : s[k].toNat < 48 := by omega
            clear hc HC HB hx
            go_wp2_with fail
            go_round
            case rel => exact ⟨k + 1, by omega, by go_num, HN.out HO.out⟩
            case measure => simp [intOf]; omega







      · have HF : Hid (nmB false 40 s = true) := nm_in h1 h2 (by have := HA.out; rwa [List.take_of_length_le (by simp; omega)] at this)
        go_wp2_with fail
        go_ret
        exact ⟨ret_bool HF.out.symm, rfl⟩

set_option maxRecDepth 100000 in
set_option maxHeartbeats 1600000 in
theorem dname_any (s : ByteArray) (w : World) (hs : s.size ≤ 9223372036854775807) :
    Calls Try.prog 58 #[.string s] w fun e w' => e = .returned (.bool (nmB true 64 s)) ∧ w = w' := by
  by_cases h0 : s.size < 1 ∨ 64 < s.size
  · have HF := Lib.hid (nm_out (dot := true) h0)
    rcases h0 with h0 | h0
    · go_enter Try.func58, Try.ntmps58
      go_wp2_with fail
      go_ret
      exact ⟨ret_bool HF.out.symm, rfl⟩
    · go_enter Try.func58, Try.ntmps58
      go_wp2_with fail
      go_ret
      exact ⟨ret_bool HF.out.symm, rfl⟩
  · have h1 : 1 ≤ s.size := by omega
    have h2 : s.size ≤ 64 := by omega
    have h1b : decide ((s.size : Int) < 1) = false := by simp; omega
    have h2b : decide ((64 : Int) < (s.size : Int)) = false := by simp; omega
    clear h0
    go_enter Try.func58, Try.ntmps58
    go_wp2_with fail
    clear h1b h2b
    go_loop [15] (fun i => ∃ k : Nat, k ≤ s.size ∧ i = .int .i64 k ∧ Hid ((s.data.toList.take k).all (okc true) = true)) (fun i => s.size - (intOf i).toNat)
    case atStart => exact ⟨0, Nat.zero_le _, rfl, rfl⟩
    case round =>
      obtain ⟨k, hk, rfl, HA⟩ := hrel
      by_cases hlt : k < s.size
      · have hc := s[k].toNat_lt
        have HC : Hid (okc true s[k] = ((decide (97 ≤ s[k].toNat) && decide (s[k].toNat ≤ 122)) || (decide (48 ≤ s[k].toNat) && decide (s[k].toNat ≤ 57)) || decide (s[k].toNat = 45) || (true && decide (s[k].toNat = 46)))) := rfl
        have HN := Lib.hid (@nm_next true s k hlt HA.out)
        have HB := Lib.hid (@nm_bad true 64 s k hlt)
        cases hok : okc true s[k]
        · have HO := Lib.hid hok
          clear hok
          have hx : ¬ (97 ≤ s[k].toNat ∧ s[k].toNat ≤ 122) ∧ ¬ (48 ≤ s[k].toNat ∧ s[k].toNat ≤ 57) ∧ s[k].toNat ≠ 45 ∧ s[k].toNat ≠ 46 := by
            have := HO.out
            rw [HC.out] at this
            simp at this
            omega
          have h45 : ((s[k].toNat : Int) != 45) = true := by rw [bne_iff_ne]; omega
          have h46 : ((s[k].toNat : Int) != 46) = true := by rw [bne_iff_ne]; omega
          have hr : s[k].toNat < 48 ∨ (58 ≤ s[k].toNat ∧ s[k].toNat < 97) ∨ 122 < s[k].toNat := by omega
          clear hx hc HC HN
          rcases hr with hr | hr | hr
          all_goals
            go_wp2_with fail
            go_ret
            exact ⟨ret_bool (HB.out HO.out).symm, rfl⟩
        · have HO := Lib.hid hok
          clear hok
          have hx : (97 ≤ s[k].toNat ∧ s[k].toNat ≤ 122) ∨ (48 ≤ s[k].toNat ∧ s[k].toNat ≤ 57) ∨ s[k].toNat = 45 ∨ s[k].toNat = 46 := by
            have := HO.out
            rw [HC.out] at this
            simp at this
            omega
          rcases hx with hx | hx | hx | hx
          · clear hc HC HB
            go_wp2_with fail
            go_round
            case rel => exact ⟨k + 1, by omega, by go_num, HN.out HO.out⟩
            case measure => simp [intOf]; omega
          · clear hc HC HB
            go_wp2_with fail
            go_round
            case rel => exact ⟨k + 1, by omega, by go_num, HN.out HO.out⟩
            case measure => simp [intOf]; omega
          · have h45 : ((s[k].toNat : Int) != 45) = false := by rw [bne_eq_false_iff_eq]; omega
            have h46 : ((s[k].toNat : Int) != 46) = true := by rw [bne_iff_ne]; omega
            have hx1 : s[k].toNat < 48 := by omega
            clear hc HC HB hx
            go_wp2_with fail
            go_round
            case rel => exact ⟨k + 1, by omega, by go_num, HN.out HO.out⟩
            case measure => simp [intOf]; omega
          · have h46 : ((s[k].toNat : Int) != 46) = false := by rw [bne_eq_false_iff_eq]; omega
            have hx1 : s[k].toNat < 48 := by omega
            clear hc HC HB hx
            go_wp2_with fail
            go_round
            case rel => exact ⟨k + 1, by omega, by go_num, HN.out HO.out⟩
            case measure => simp [intOf]; omega
      · have HF : Hid (nmB true 64 s = true) := nm_in h1 h2 (by have := HA.out; rwa [List.take_of_length_le (by simp; omega)] at this)
        go_wp2_with fail
        go_ret
        exact ⟨ret_bool HF.out.symm, rfl⟩

end Go.Proofs.Ythjbaafbkalomaa
