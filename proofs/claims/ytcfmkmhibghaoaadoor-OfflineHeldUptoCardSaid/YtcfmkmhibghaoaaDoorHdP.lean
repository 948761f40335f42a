/-
  What a claim missed, counted (plain).
-/
import Derived.Test.YtcfmkmhibghaoaaDoorOr1
import Derived.Test.YtcfmkmhibghaoaaDoorRfI
namespace Go.Proofs.YtcfmkmhibghaoaaDoor
open Go.RowKit

theorem cnt_range (base : Int) : ∀ n : Nat, (((List.range n).countP fun (i : Nat) => decide (base < (i : Int) + 1) : Nat) : Int) = max 0 ((n : Int) - max base 0)
  | 0 => by simp; omega
  | n + 1 => by
    have ih := cnt_range base n
    rw [List.range_succ, List.countP_append]
    simp only [List.countP_cons, List.countP_nil, Nat.zero_add]
    by_cases h : base < (n : Int) + 1
    · rw [if_pos (by simpa using h)]
      push_cast
      rw [ih]
      omega
    · rw [if_neg (by simpa using h)]
      push_cast
      rw [ih]
      omega
/-- How many revisions of a path are later than a number. -/
theorem miss_cnt {d : List Rev} (h : Asc d) (p : ByteArray) (base : Int) : ((missL (logD d p) base).length : Int) = max 0 (lastN d p - max base 0) := by
  have hp := h p
  rw [asc_last h p, ← cnt_range]
  have e : (missL (logD d p) base).length = ((logD d p).map (·.num)).countP fun n => decide (base < n) := by
    unfold missL
    rw [List.length_map, List.countP_map, List.countP_eq_length_filter]
    rfl
  rw [e, hp, List.countP_map]
  rfl
/-- The table's word on a path and what Return says of it. -/
theorem held_kh {R : RTab} {p client : ByteArray} {fence : Int} (hf : 1 ≤ fence) (n : Nat) :
    (rhas R p client fence = true → retKH fence client ((rlk R.log p).getD zeroL).fence ((rlk R.log p).getD zeroL).holder (hNow R.clk ((rlk R.log p).getD zeroL).since ((rlk R.log p).getD zeroL).til && decide (0 < ((rlk R.log p).getD zeroL).fence)) n = (1, client)) ∧
    (rhas R p client fence = false → retKH fence client ((rlk R.log p).getD zeroL).fence ((rlk R.log p).getD zeroL).holder (hNow R.clk ((rlk R.log p).getD zeroL).since ((rlk R.log p).getD zeroL).til && decide (0 < ((rlk R.log p).getD zeroL).fence)) n =
      if (hNow R.clk ((rlk R.log p).getD zeroL).since ((rlk R.log p).getD zeroL).til && decide (0 < ((rlk R.log p).getD zeroL).fence)) = true then (3, ((rlk R.log p).getD zeroL).holder) else if (n == 0) = true then (2, ⟨#[]⟩) else (3, ⟨#[]⟩)) := by
  unfold rhas
  cases hl : rlk R.log p with
  | none =>
    refine ⟨(fun h => by cases h), fun _ => ?_⟩
    simp [retKH, zeroL]
  | some l =>
    simp only [Option.getD_some]
    unfold hldB retKH
    cases hN : hNow R.clk l.since l.til
    · refine ⟨(fun h => by simp at h), fun _ => ?_⟩
      simp
    · refine ⟨fun h => ?_, fun h => ?_⟩
      · simp only [Bool.true_and, Bool.and_eq_true, beq_iff_eq] at h
        have h0 : 0 < l.fence := by omega
        simp [h.1, h.2]
        omega
      · by_cases h0 : 0 < l.fence
        · simp only [h0, decide_true, Bool.and_true, Bool.true_and]
          rw [if_neg ?_]
          · simp
          · intro hh
            simp only [Bool.and_eq_true] at hh
            simp [hh.1, hh.2] at h
        · simp [h0]
end Go.Proofs.YtcfmkmhibghaoaaDoor
