/-
  What the rows of this seat share: a world that holds the three listed tables, for the witness.
-/
import Derived.Test.YtjjdffafibonhaaGreatDoorOpenK
import Derived.Deep.DeepHandedRow
import Derived.Shelf.Vars
import Derived.Test.YtjjdffafibonhaaGreatDoorCards
namespace Go.Proofs.YtjjdffafibonhaaGreatDoor
open Go.ChangeShapes Go.WideShapes Go.ChangeAt Go.RowKit Go.Joins Go.Deep

def tabCell : DataW Unit → Value
  | .lit (.int k n) => .int k n
  | _ => .bool false
def tabCells : DataW Unit → Array Value
  | .agg l => (l.map tabCell).toArray
  | _ => #[]
def layTab (cs : Array Value) : Obj → Obj
  | .cells _ t frozen => .cells cs t frozen
  | o => o
/-- A world for the witness: the settled one, the tables holding what their initialisers lay. -/
noncomputable def laidWorld (os : Os) : World :=
  { World.holding Tryz.prog os ⟨#[], #[], []⟩ with
    heap := (((((World.holding Tryz.prog os ⟨#[], #[], []⟩).heap.modify 1 (layTab (tabCells Rows.laid_internal_strconv_uint64pow10))).modify 4 (layTab (tabCells Rows.laid_math_bits_deBruijn32tab))).modify 5 (layTab (tabCells Rows.laid_math_bits_deBruijn64tab))).modify 2 (layTab (Go.Pinned.utf8FirstZ.map fun (n : Nat) => Value.int .u8 (n : Int)).toArray)).modify 3 (layTab (([128, 191, 160, 191, 128, 159, 144, 191, 128, 143, 0, 0, 0, 0, 0, 0, 0, 0, 0, 0, 0, 0, 0, 0, 0, 0, 0, 0, 0, 0, 0, 0] : List Int).map fun n => Value.int .u8 n).toArray) }

theorem wants_all {P : Program} {a : Array TypeId} (h : a.all (fun t => !P.wantsStandIn t) = true) (t : TypeId) (ht : t ∈ a) : P.wantsStandIn t = false := by
  rw [Array.all_eq_true'] at h
  simpa using h t ht
end Go.Proofs.YtjjdffafibonhaaGreatDoor
