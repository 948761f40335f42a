/-
  What the rows of this seat share: a world that holds the three listed tables, for the witness.
-/
import Derived.Test.YtcjkllmellampaaDoorOpenK
import Derived.Deep.DeepHandedRow
import Derived.Shelf.Vars
import Derived.Test.YtcjkllmellampaaDoorCards
namespace Go.Proofs.YtcjkllmellampaaDoor
open Go.ChangeShapes Go.WideShapes Go.ChangeAt Go.RowKit Go.Joins Go.Deep

def cellOf : DataW Unit → Value
  | .lit (.int k n) => .int k n
  | _ => .bool false
def cellsOf : DataW Unit → Array Value
  | .agg l => (l.map cellOf).toArray
  | _ => #[]
def layTab (cs : Array Value) : Obj → Obj
  | .cells _ t frozen => .cells cs t frozen
  | o => o
/-- A world for the witness: the settled one, the tables holding what their initialisers lay. -/
noncomputable def laidWorld (os : Os) : World :=
  { World.holding Tryd.prog os ⟨#[], #[], []⟩ with
    heap := (((World.holding Tryd.prog os ⟨#[], #[], []⟩).heap.modify 0 (layTab (cellsOf Rows.laid_internal_strconv_uint64pow10))).modify 1 (layTab (cellsOf Rows.laid_math_bits_deBruijn32tab))).modify 2 (layTab (cellsOf Rows.laid_math_bits_deBruijn64tab)) }

theorem wants_all {P : Program} {a : Array TypeId} (h : a.all (fun t => !P.wantsStandIn t) = true) (t : TypeId) (ht : t ∈ a) : P.wantsStandIn t = false := by
  rw [Array.all_eq_true'] at h
  simpa using h t ht
end Go.Proofs.YtcjkllmellampaaDoor
