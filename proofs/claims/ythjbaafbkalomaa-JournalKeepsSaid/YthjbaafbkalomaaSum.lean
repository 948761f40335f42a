/-
  The fingerprint of bytes: that it is a function of them, and a number of 64 bits. What number it is does not matter for these laws.
-/
import Derived.Test.YthjbaafbkalomaaPrim
namespace Go.Proofs.Ythjbaafbkalomaa
open Go.RowKit

theorem wrap_u64 (n : Int) : 0 ≤ IntKind.u64.wrap n ∧ IntKind.u64.wrap n < 18446744073709551616 := by
  rw [IntKind.wrap_u64]; omega

set_option maxRecDepth 100000 in
set_option maxHeartbeats 400000 in
theorem fadd_ex (a b : Int) : ∃ c : Int, (0 ≤ c ∧ c < 18446744073709551616) ∧ ∀ w, Calls Try.prog 60 #[.int .u64 a, .int .u64 b] w fun e w' => e = .returned (.int .u64 c) ∧ w = w' := by
  by_cases h : 2305843009213693951 ≤ IntKind.u64.wrap (a + b)
  · refine ⟨IntKind.u64.wrap (IntKind.u64.wrap (a + b) - 2305843009213693951), wrap_u64 _, fun w => ?_⟩
    go_enter Try.func60, Try.ntmps60
    go_wp2_with fail
    go_ret
    exact ⟨rfl, rfl⟩
  · refine ⟨IntKind.u64.wrap (a + b), wrap_u64 _, fun w => ?_⟩
    go_enter Try.func60, Try.ntmps60
    go_wp2_with fail
    go_ret
    exact ⟨rfl, rfl⟩
noncomputable def addF (a b : Int) : Int := Classical.choose (fadd_ex a b)
theorem addF_bd (a b : Int) : 0 ≤ addF a b ∧ addF a b < 18446744073709551616 := (Classical.choose_spec (fadd_ex a b)).1
theorem fadd_any (a b : Int) (w : World) : Calls Try.prog 60 #[.int .u64 a, .int .u64 b] w fun e w' => e = .returned (.int .u64 (addF a b)) ∧ w = w' := (Classical.choose_spec (fadd_ex a b)).2 w

set_option maxRecDepth 100000 in
set_option maxHeartbeats 800000 in
theorem mul64_ex (a b : Int) : ∃ c d : Int, ∀ w, Calls Try.prog 71 #[.int .u64 a, .int .u64 b] w fun e w' => e = .returned (.tuple #[.int .u64 c, .int .u64 d]) ∧ w = w' := by
  apply Exists.intro
  apply Exists.intro
  intro w
  go_enter Try.func71, Try.ntmps71
  go_wp2_with fail
  go_ret2
  exact ⟨rfl, rfl⟩

set_option maxRecDepth 100000 in
set_option maxHeartbeats 400000 in
theorem mul_ex (a b : Int) : ∃ c : Int, ∀ w, Calls Try.prog 61 #[.int .u64 a, .int .u64 b] w fun e w' => e = .returned (.int .u64 c) ∧ w = w' := by
  obtain ⟨c, d, h⟩ := mul64_ex a b
  have H := Lib.hid h
  clear h
  apply Exists.intro
  intro w
  go_enter Try.func61, Try.ntmps61
  go_wp2_with fail
  refine (H.out _).mono ?_
  rintro e w' ⟨rfl, rfl⟩
  go_wp2_with fail
  refine (fadd_any _ _ _).mono ?_
  rintro e w' ⟨rfl, rfl⟩
  go_wp2_with fail
  go_ret
  exact ⟨rfl, rfl⟩
noncomputable def mulF (a b : Int) : Int := Classical.choose (mul_ex a b)
theorem mul_any (a b : Int) (w : World) : Calls Try.prog 61 #[.int .u64 a, .int .u64 b] w fun e w' => e = .returned (.int .u64 (mulF a b)) ∧ w = w' := Classical.choose_spec (mul_ex a b) w

noncomputable def sumStep (s : Int) (c : UInt8) : Int := addF (mulF s 747382712868975713) ((c.toNat : Int) + 1)
noncomputable def sumF (l : List UInt8) : Int := l.foldl sumStep 0
theorem sumF_snoc (l : List UInt8) (k : Nat) (h : k < l.length) : sumF (l.take (k + 1)) = sumStep (sumF (l.take k)) l[k] := by
  rw [List.take_succ_eq_append_getElem h, sumF, List.foldl_append]
  rfl
theorem sumF_bd (l : List UInt8) : 0 ≤ sumF l ∧ sumF l < 18446744073709551616 := by
  rcases List.eq_nil_or_concat l with rfl | ⟨r, c, rfl⟩
  · exact ⟨Int.le_refl _, by decide⟩
  · simp only [sumF, List.concat_eq_append, List.foldl_append, List.foldl_cons, List.foldl_nil]
    exact addF_bd _ _

set_option maxRecDepth 100000 in
set_option maxHeartbeats 800000 in
theorem sum_any (g : Gh) (A : Option Addr) (c : Nat) (l : List UInt8) (w : World) (hr : Rd 1 g w A l.length (bv l)) (hb : l.length ≤ 140737488355328) :
    Calls Try.prog 48 #[.slice A l.length c] w fun e w' => e = .returned (.int .u64 (sumF l)) ∧ w = w' := by
  have HR := Lib.hid hr
  clear hr
  go_enter Try.func48, Try.ntmps48
  go_wp2_with fail
  go_loop [3, 8] (fun s i => ∃ k : Nat, k ≤ l.length ∧ i = .int .i64 k ∧ s = .int .u64 (sumF (l.take k))) (fun _ i => l.length - (intOf i).toNat)
  case atStart => exact ⟨0, Nat.zero_le _, rfl, rfl⟩
  case round =>
    obtain ⟨k, hk, rfl, rfl⟩ := hrel
    by_cases hlt : k < l.length
    · obtain ⟨b, off, rfl, _, _, hc⟩ := HR.out.at_ (by omega)
      have hcell := hc k _ (bv_get hlt)
      have hs : Hid (sumF (l.take (k + 1)) = addF (mulF (sumF (l.take k)) 747382712868975713) (((l[k]).toNat : Int) + 1)) := sumF_snoc l k hlt
      have hcb : (l[k]).toNat < 256 := (l[k]).toNat_lt
      clear hc
      generalize sumF (l.take k) = s at *
      generalize (l[k]).toNat = cc at *
      go_wp2_with fail
      refine (mul_any _ _ _).mono ?_
      rintro e w' ⟨rfl, rfl⟩
      go_wp2_with fail
      refine (fadd_any _ _ _).mono ?_
      rintro e w' ⟨rfl, rfl⟩
      go_wp2_with fail
      go_round
      case rel => exact ⟨k + 1, by omega, by go_num, by rw [hs.out]⟩
      case measure => simp [intOf]; omega
    · have hkl : k = l.length := by omega
      subst hkl
      clear HR
      have ht : l.take l.length = l := List.take_length
      generalize hT : l.take l.length = t at *
      subst ht
      go_wp2_with fail
      go_ret
      exact ⟨rfl, rfl⟩

end Go.Proofs.Ythjbaafbkalomaa
