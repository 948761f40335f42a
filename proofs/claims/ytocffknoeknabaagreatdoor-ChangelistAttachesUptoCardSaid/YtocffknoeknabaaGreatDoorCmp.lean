/-
  path.Compare at two paths: the order of their bytes with the separator first.
-/
import Derived.Test.YtocffknoeknabaaGreatDoorPath
import Derived.Test.YtocffknoeknabaaGreatDoorCgA
namespace Go.Proofs.YtocffknoeknabaaGreatDoor
open Go.RowKit

theorem drop_at (a : ByteArray) (k : Nat) (h : k < a.size) : a.data.toList.drop k = a[k] :: a.data.toList.drop (k + 1) := by
  rw [List.drop_eq_getElem_cons (by simpa using h)]
  congr 1
theorem pcmp_at {a b : ByteArray} {k : Nat} (ha : k < a.size) (hb : k < b.size) (he : a.data.toList.take k = b.data.toList.take k) (hn : a[k] ≠ b[k]) :
    pcmp a.data.toList b.data.toList = if a[k] = 47 then -1 else if b[k] = 47 then 1 else if a[k] < b[k] then -1 else 1 := by
  rw [pcmp_take k _ _ he (by simp; omega) (by simp; omega), drop_at a k ha, drop_at b k hb]
  simp only [pcmp, if_neg hn]
theorem pcmp_end {a b : ByteArray} {k : Nat} (hk : k = min a.size b.size) (he : a.data.toList.take k = b.data.toList.take k) :
    pcmp a.data.toList b.data.toList = if a.size < b.size then -1 else if b.size < a.size then 1 else 0 := by
  rw [pcmp_take k _ _ he (by simp; omega) (by simp; omega)]
  have e1 : (a.data.toList.drop k).length = a.size - k := by simp
  have e2 : (b.data.toList.drop k).length = b.size - k := by simp
  generalize a.data.toList.drop k = u at *
  generalize b.data.toList.drop k = v at *
  cases u <;> cases v <;> simp only [List.length_nil, List.length_cons] at e1 e2
  · rw [if_neg (by omega), if_neg (by omega)]; rfl
  · rw [if_pos (by omega)]; rfl
  · rw [if_neg (by omega), if_pos (by omega)]; rfl
  · omega

def cmpV (x y : Int) : Int := if x < y then -1 else if y < x then 1 else 0
set_option maxHeartbeats 400000 in
theorem cmp8_any (x y : Int) (w : World) : Calls Tryz.prog 145 #[.int .u8 x, .int .u8 y] w fun e w' => e = .returned (.int .i64 (cmpV x y)) ∧ ∃ n, w' = w.drewN n := by
  unfold cmpV
  have hx : (x == x) = true := by simp
  have hy : (y == y) = true := by simp
  go_enter Tryz.func145, Tryz.ntmps145
  rcases Int.lt_trichotomy x y with h | h | h
  · rw [if_pos h]
    go_wp2
    go_ret
    exact ⟨rfl, 0, rfl⟩
  · subst h
    rw [if_neg (Int.lt_irrefl _), if_neg (Int.lt_irrefl _)]
    go_wp2
    go_ret
    exact ⟨rfl, 0, rfl⟩
  · have h2 : ¬ x < y := by omega
    rw [if_neg h2, if_pos h]
    go_wp2
    go_ret
    exact ⟨rfl, 0, rfl⟩
set_option maxHeartbeats 400000 in
theorem cmpI_any (x y : Int) (w : World) : Calls Tryz.prog 85 #[.int .i64 x, .int .i64 y] w fun e w' => e = .returned (.int .i64 (cmpV x y)) ∧ ∃ n, w' = w.drewN n := by
  unfold cmpV
  have hx : (x == x) = true := by simp
  have hy : (y == y) = true := by simp
  go_enter Tryz.func85, Tryz.ntmps85
  rcases Int.lt_trichotomy x y with h | h | h
  · rw [if_pos h]
    go_wp2
    go_ret
    exact ⟨rfl, 0, rfl⟩
  · subst h
    rw [if_neg (Int.lt_irrefl _), if_neg (Int.lt_irrefl _)]
    go_wp2
    go_ret
    exact ⟨rfl, 0, rfl⟩
  · have h2 : ¬ x < y := by omega
    rw [if_neg h2, if_pos h]
    go_wp2
    go_ret
    exact ⟨rfl, 0, rfl⟩

set_option maxRecDepth 100000 in
set_option maxHeartbeats 1600000 in
theorem pathcmp_any (a b : ByteArray) (w : World) (ha : validB a.data.toList = true) (hb : validB b.data.toList = true) (hla : a.size ≤ 4611686018427387904) (hlb : b.size ≤ 4611686018427387904) :
    Calls Tryz.prog 124 #[.string a, .string b] w fun e w' => e = .returned (.tuple #[.int .i64 (pcmp a.data.toList b.data.toList), .int .i64 0]) ∧ ∃ n, w' = w.drewN n := by
  have HA := Lib.hid ha
  have HB := Lib.hid hb
  obtain ⟨n, hn⟩ : ∃ n, n = min a.size b.size := ⟨_, rfl⟩
  have HN := Lib.hid hn
  have hn1 : n ≤ a.size := by omega
  have hn2 : n ≤ b.size := by omega
  have hcases : (a.size ≤ b.size ∧ (a.size : Int) = n) ∨ (b.size ≤ a.size ∧ ¬ a.size ≤ b.size ∧ (b.size : Int) = n) := by omega
  clear ha hb hn
  go_enter Tryz.func124, Tryz.ntmps124
  go_wp2_with fail
  refine (valid_any a _ hla).mono ?_
  rintro e w' ⟨rfl, rfl⟩
  rw [HA.out]
  go_wp2_with fail
  refine (valid_any b _ hlb).mono ?_
  rintro e w' ⟨rfl, rfl⟩
  rw [HB.out]
  have HC := Lib.hid hcases
  rcases hcases with ⟨hle, hne⟩ | ⟨hle, hnle, hne⟩
  all_goals (
  have HNE := Lib.hid hne
  clear hne
  go_wp2_with fail
  first | (rw [HNE.out]) | skip
  go_loopw [20] (fun i wr => ∃ k nn : Nat, i = .int .i64 k ∧ k ≤ n ∧ wr = w.drewN nn ∧ Hid (a.data.toList.take k = b.data.toList.take k)) (fun i _ => n - (intOf i).toNat)
  case atStart => exact ⟨0, 0, rfl, Nat.zero_le _, rfl, rfl⟩
  case round =>
    obtain ⟨k, nn, rfl, hk, rfl, het⟩ := hrel
    by_cases hlt : k < n
    · have ka : k < a.size := by omega
      have kb : k < b.size := by omega
      have klt : (k : Int) < (n : Int) := by omega
      by_cases e : a[k] = b[k]
      · have e1 : ((a[k].toNat : Int) == (b[k].toNat : Int)) = true := by rw [e]; simp
        have HT : Hid (a.data.toList.take (k + 1) = b.data.toList.take (k + 1)) := by
          show _ = _
          rw [takeB_snoc a k ka, takeB_snoc b k kb, het.out, e]
        clear e
        go_wp2_with fail
        go_quiet (fail)
        go_wp2_with fail
        go_round
        case rel => exact ⟨k + 1, _, by go_num, by omega, rfl, HT.out⟩
        case measure => simp [intOf]; omega
      · have e1 : ((a[k].toNat : Int) == (b[k].toNat : Int)) = false := by
          rw [beq_eq_false_iff_ne]; intro h; exact e (UInt8.toNat_inj.1 (by omega))
        have HP := Lib.hid (pcmp_at ka kb het.out e)
        by_cases ha : a[k] = 47
        · have e2 : ((a[k].toNat : Int) == 47) = true := by rw [ha]; rfl
          have HP2 : Hid (pcmp a.data.toList b.data.toList = -1) := by show _ = _; rw [HP.out, if_pos ha]
          clear ha HP e
          go_wp2_with fail
          go_quiet (fail)
          go_wp2_with fail
          go_ret2
          refine ⟨?_, _, rfl⟩
          rw [HP2.out]
          rfl
        · have e2 : ((a[k].toNat : Int) == 47) = false := by
            rw [beq_eq_false_iff_ne]; intro h; apply ha; apply UInt8.toNat_inj.1; show _ = 47; omega
          by_cases hb : b[k] = 47
          · have e3 : ((b[k].toNat : Int) == 47) = true := by rw [hb]; rfl
            have HP2 : Hid (pcmp a.data.toList b.data.toList = 1) := by show _ = _; rw [HP.out, if_neg ha, if_pos hb]
            clear ha hb HP e
            go_wp2_with fail
            go_quiet (fail)
            go_wp2_with fail
            go_ret2
            refine ⟨?_, _, rfl⟩
            rw [HP2.out]
            rfl
          · have e3 : ((b[k].toNat : Int) == 47) = false := by
              rw [beq_eq_false_iff_ne]; intro h; apply hb; apply UInt8.toNat_inj.1; show _ = 47; omega
            have HP2 : Hid (cmpV (a[k].toNat : Int) (b[k].toNat : Int) = pcmp a.data.toList b.data.toList) := by
              show _ = _
              rw [HP.out, if_neg ha, if_neg hb]
              unfold cmpV
              by_cases hl : a[k] < b[k]
              · rw [if_pos hl, if_pos (by exact_mod_cast UInt8.lt_iff_toNat_lt.1 hl)]
              · have h2 : b[k].toNat ≤ a[k].toNat := by
                  have h9 : ¬ a[k].toNat < b[k].toNat := fun h => hl (UInt8.lt_iff_toNat_lt.2 h)
                  omega
                have h3 : a[k].toNat ≠ b[k].toNat := fun h => e (UInt8.toNat_inj.1 h)
                rw [if_neg hl, if_neg (by omega), if_pos (by omega)]
            clear ha hb HP e
            have HC8 : Hid (∀ y : Held (fun x => ∃ m, x = w.drewN m), Calls Tryz.prog 145 #[.int .u8 (a[k].toNat : Int), .int .u8 (b[k].toNat : Int)] y.w fun e w'' => e = .returned (.int .i64 (cmpV (a[k].toNat : Int) (b[k].toNat : Int))) ∧ ∃ z : Held (fun x => ∃ m, x = w.drewN m), w'' = z.w) := by
              rintro ⟨y, m, rfl⟩
              refine (cmp8_any _ _ _).mono ?_
              rintro e w' ⟨rfl, q, rfl⟩
              exact ⟨rfl, ⟨(w.drewN m).drewN q, m + q, by simp⟩, rfl⟩
            go_wp2_with fail
            go_quiet (fail)
            go_wp2_with fail
            have hS : (fun x => ∃ m, x = w.drewN m) ((w.drewN (nn + nq)).drew) := ⟨nn + nq + 1, rfl⟩
            (refine wp_region_s (S := fun x => ∃ m, x = w.drewN m) (by kernel_rfl) (by kernel_rfl) hS ?_; have hN : Nonempty (Held (fun x => ∃ m, x = w.drewN m)) := ⟨⟨_, hS⟩⟩; skip; (repeat (go_big_quiet_step ((go_at_call 145; exact HC8.out _)))); refine wpQuiet_nil ?_; rintro _ ⟨⟨x, hx⟩, rfl⟩; clear hN)
            obtain ⟨m, rfl⟩ := hx
            rw [HP2.out]
            go_wp2_with fail
            go_ret2
            exact ⟨rfl, _, rfl⟩
    · obtain rfl : k = n := by omega
      have HP : Hid (cmpV (a.size : Int) (b.size : Int) = pcmp a.data.toList b.data.toList) := by
        show _ = _
        rw [pcmp_end HN.out het.out]
        unfold cmpV
        by_cases q1 : a.size < b.size
        · rw [if_pos q1, if_pos (by omega)]
        · rw [if_neg q1, if_neg (by omega)]
          by_cases q2 : b.size < a.size
          · rw [if_pos q2, if_pos (by omega)]
          · rw [if_neg q2, if_neg (by omega)]
      go_wp2_with fail
      refine (cmpI_any _ _ _).mono ?_
      first | (rw [← HNE.out] at *; rw [HP.out]) | skip
      rintro e w' ⟨rfl, q, rfl⟩
      go_wp2_with fail
      go_ret2
      exact ⟨rfl, _, rfl⟩)

end Go.Proofs.YtocffknoeknabaaGreatDoor
