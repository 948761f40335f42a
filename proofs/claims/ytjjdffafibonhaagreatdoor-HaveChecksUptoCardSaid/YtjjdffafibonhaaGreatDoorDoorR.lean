/-
  The cell of bytealg's MaxLen out of the world's shape.
-/
import Derived.Test.YtjjdffafibonhaaGreatDoorDoorH
import Derived.Test.YtjjdffafibonhaaGreatDoorGenR
import Derived.Shelf.Vars
namespace Go.Proofs.YtjjdffafibonhaaGreatDoor
open Go.ChangeShapes Go.WideShapes Go.ChangeAt Go.RowKit Go.Joins Go.Deep

theorem g0_of_shaped {W : World} (h : W.ShapedOpen Tryz.prog) : G0 W :=
  cell_of_shapedOpen_int (g := 0) (t := 3) (zero := #[.int .i64 0]) h (of_decide_eq_true (by kernel_rfl)) (by kernel_rfl) rfl (by kernel_rfl) (by kernel_rfl) Tryz.underlying3
end Go.Proofs.YtjjdffafibonhaaGreatDoor
