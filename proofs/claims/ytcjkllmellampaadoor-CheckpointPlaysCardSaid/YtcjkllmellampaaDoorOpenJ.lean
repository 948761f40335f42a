/-
  Arguments opened.
-/
import Derived.Test.YtcjkllmellampaaDoorRow
namespace Go.Proofs.YtcjkllmellampaaDoor
open Go.ChangeShapes Go.WideShapes Go.ChangeAt Go.RowKit Go.Joins Go.Deep

theorem wf_i64 {n : Int} (h : (Lit.int .i64 n).wf = true) : -9223372036854775808 ≤ n ∧ n ≤ 9223372036854775807 := by
  have h' : And (IntKind.i64.min ≤ n) (n ≤ 9223372036854775807) := by simpa [Lit.wf, IntKind.wrap_i64] using h
  have e : IntKind.i64.min = -9223372036854775808 := by decide
  rw [e] at h'
  exact h'

end Go.Proofs.YtcjkllmellampaaDoor
