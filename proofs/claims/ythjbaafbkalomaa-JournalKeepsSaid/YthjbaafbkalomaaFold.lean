/-
  Fold; make of bytes.
-/
import Derived.Test.YthjbaafbkalomaaLit
namespace Go.Proofs.Ythjbaafbkalomaa
open Go.RowKit

def foldI (v n : Int) : Int := if n ≤ 1 then 0 else v % n
theorem foldI_lt {v n : Int} (h : 1 ≤ n) : 0 ≤ foldI v n ∧ foldI v n < n := by
  unfold foldI
  split
  · omega
  · exact ⟨Int.emod_nonneg _ (by omega), Int.emod_lt_of_pos _ (by omega)⟩
theorem tmod_neg {v n : Int} (hn : 0 < n) (h : v.tmod n < 0) : v.tmod n + n = v % n := by
  have h0 : v < 0 := by
    rcases Int.lt_or_le v 0 with h1 | h1
    · exact h1
    · have := Int.tmod_nonneg n h1
      omega
  have e1 : v.tmod n = -((-v) % n) := by
    have h2 := Int.tmod_eq_emod_of_nonneg (a := -v) (b := n) (by omega)
    rw [Int.neg_tmod] at h2
    omega
  have r0 := Int.emod_nonneg (-v) (show n ≠ 0 by omega)
  have r1 := Int.emod_lt_of_pos (-v) hn
  have e2 := Int.mul_ediv_add_emod (-v) n
  rw [e1] at h ⊢
  have e3 : v = (n - (-v) % n) + n * (-((-v) / n) - 1) := by
    rw [Int.mul_sub, Int.mul_neg, Int.mul_one]; omega
  have e4 : v % n = (n - (-v) % n) % n := by
    conv => lhs; rw [e3]
    rw [Int.add_mul_emod_self_left]
  rw [e4, Int.emod_eq_of_lt (a := n - (-v) % n) (b := n) (by omega) (by omega)]
  omega
theorem tmod_pos {v n : Int} (hn : 0 < n) (h : ¬ v.tmod n < 0) : v.tmod n = v % n := by
  rcases Int.lt_or_le v 0 with h1 | h1
  · have e1 : v.tmod n = -((-v) % n) := by
      have h2 := Int.tmod_eq_emod_of_nonneg (a := -v) (b := n) (by omega)
      rw [Int.neg_tmod] at h2
      omega
    have r0 := Int.emod_nonneg (-v) (show n ≠ 0 by omega)
    have r2 : (-v) % n = 0 := by omega
    have : n ∣ v := by
      have := Int.dvd_of_emod_eq_zero r2
      exact (Int.dvd_neg.1 this)
    rw [Int.emod_eq_zero_of_dvd this]
    omega
  · exact Int.tmod_eq_emod_of_nonneg h1
set_option maxRecDepth 100000 in
theorem fold_any (v n : Int) (w : World) (_hv : -9223372036854775808 ≤ v) (_hv2 : v ≤ 9223372036854775807) (hn : n ≤ 4611686018427387904) : Calls Try.prog 31 #[.int .i64 v, .int .i64 n] w fun e w' => e = .returned (.int .i64 (foldI v n)) ∧ w = w' := by
  by_cases h1 : n ≤ 1
  · have HF : Hid (foldI v n = 0) := by show _ = _; simp [foldI, h1]
    rw [HF.out]
    go_enter Try.func31, Try.ntmps31
    go_wp2_with fail
    go_ret
    exact ⟨rfl, rfl⟩
  have HF : Hid (foldI v n = v % n) := by show _ = _; simp [foldI, h1]
  have hb1 : v.tmod n < n := Int.tmod_lt_of_pos v (by omega)
  have hb2 : -n < v.tmod n := Int.lt_tmod_of_pos v (by omega)
  rw [HF.out]
  by_cases h2 : v.tmod n < 0
  · have HE := Lib.hid (tmod_neg (by omega) h2)
    go_enter Try.func31, Try.ntmps31
    go_wp2_with fail
    go_ret
    exact ⟨ret_int HE.out, rfl⟩
  · have HE := Lib.hid (tmod_pos (by omega) h2)
    go_enter Try.func31, Try.ntmps31
    go_wp2_with fail
    go_ret
    exact ⟨ret_int HE.out, rfl⟩

theorem made_zeros (n : Nat) : madeCells #[.int .u8 0] n = (bv (List.replicate n 0)).toArray := by
  apply Array.ext
  · simp [madeCells, bv]
  · intro i h1 h2
    simp [madeCells, bv, u8v, Nat.mod_one]
/-- make([]byte, n). -/
theorem make_zeros (n : Nat) (hn : n ≤ 100000) : ∃ zs : List UInt8, zs.length = n ∧ ∀ w, (Instr.makeSlice 37 (.int .i64 (n : Int)) (.int .i64 (n : Int))).run Try.prog w = .ok (.slice (some ⟨w.heap.size, 0, none⟩) n n) (w.alloc (.cells (bv zs).toArray 5)) := by
  obtain ⟨i0, hi, hz0, hz1, hz2⟩ := info_parts Try.infoU8
  refine ⟨List.replicate n 0, by simp, fun w => ?_⟩
  have := run_make (P := Try.prog) w 37 5 i0 (.int .u8 0) Try.underlying37 hi hz0 .i64 .i64 (n : Int) (n : Int) (by omega) (by omega) (by rw [hz2]; omega) (by omega)
  rw [hz1] at this
  simpa [Value.cells, made_zeros] using this
theorem BytesAt.litN (g : Gh) (w : World) (l : List UInt8) (n : Nat) (fr : Nat × Nat) (hn : l.length = n) (hl : n ≤ 100000) : BytesAt (g.lit w.heap.size n) (w.alloc (.cells (bv l).toArray 5 fr)) (.slice (some ⟨w.heap.size, 0, none⟩) n n) l := by
  subst hn
  have h := App.lit g w (bv l) 5 fr l.length 0 (bv_len l) (by simp only [maxLen]; omega)
  exact BytesAt.of_new h
end Go.Proofs.Ythjbaafbkalomaa
