/-
  A world that holds what the rows list, for the witnesses; no condition.
-/
import Derived.Test.YtkggojeophpdjaaGreatDoorSpoken
import Derived.Deep.DeepHandedRow
namespace Go.Proofs.YtkggojeophpdjaaGreatDoor
open Go.ChangeShapes Go.WideShapes Go.ChangeAt Go.RowKit Go.Ev
/-- a block's cells laid -/
def laying (l : List Value) (o : Obj) : Obj := match o with
  | .cells _ t frozen => .cells ⟨l⟩ t frozen
  | o => o
/-- the settled world, its tables as their initialisers lay them -/
noncomputable def laidWorld (os : Os) : World :=
  { World.holding Tryz.prog os ⟨#[], #[], []⟩ with
    heap := ((((World.holding Tryz.prog os ⟨#[], #[], []⟩).heap.modify 1 (laying cellsWords)).modify 3 (laying cellsClasses)).modify 4 (laying cellsFirst)).modify 5 (laying cellsRanges) }
end Go.Proofs.YtkggojeophpdjaaGreatDoor
