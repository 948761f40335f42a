/-
  What the rows of this seat share: the cell of bytealg's MaxLen out of the world's shape, and a world that holds the two listed tables, for the witness.
-/
import Derived.Test.YtocffknoeknabaaGreatDoorRow
import Derived.Test.YtocffknoeknabaaGreatDoorCgO
import Derived.Deep.DeepHandedRow
import Derived.Shelf.Vars
import Derived.Test.YtocffknoeknabaaGreatDoorCards
namespace Go.Proofs.YtocffknoeknabaaGreatDoor
open Go.ChangeShapes Go.WideShapes Go.ChangeAt Go.RowKit Go.Joins Go.Deep

theorem g0_of_shaped {W : World} (h : W.ShapedOpen Tryz.prog) : G0 W :=
  cell_of_shapedOpen_int (g := 0) (t := 3) (zero := #[.int .i64 0]) h (of_decide_eq_true (by kernel_rfl)) (by kernel_rfl) rfl (by kernel_rfl) (by kernel_rfl) Tryz.underlying3

def layTab (cs : Array Value) : Obj → Obj
  | .cells _ t frozen => .cells cs t frozen
  | o => o
/-- A world for the witness: the settled one, the two tables holding what their initialisers lay. -/
noncomputable def laidWorld (os : Os) : World :=
  { World.holding Tryz.prog os ⟨#[], #[], []⟩ with
    heap := ((World.holding Tryz.prog os ⟨#[], #[], []⟩).heap.modify 1 (layTab (Go.Pinned.utf8FirstZ.map fun (n : Nat) => Value.int .u8 (n : Int)).toArray)).modify 2 (layTab (([128, 191, 160, 191, 128, 159, 144, 191, 128, 143, 0, 0, 0, 0, 0, 0, 0, 0, 0, 0, 0, 0, 0, 0, 0, 0, 0, 0, 0, 0, 0, 0] : List Int).map fun n => Value.int .u8 n).toArray) }

theorem wants_all {P : Program} {a : Array TypeId} (h : a.all (fun t => !P.wantsStandIn t) = true) (t : TypeId) (ht : t ∈ a) : P.wantsStandIn t = false := by
  rw [Array.all_eq_true'] at h
  simpa using h t ht
end Go.Proofs.YtocffknoeknabaaGreatDoor
