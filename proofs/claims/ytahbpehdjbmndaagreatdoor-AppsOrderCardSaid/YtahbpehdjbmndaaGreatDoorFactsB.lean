/-
  Facts on the whole program that every row's closed cells ask for; no condition.
-/
import Derived.Test.YtahbpehdjbmndaaGreatDoorTabsB
import Derived.JoinedOf
import Derived.Test.YtahbpehdjbmndaaGreatDoorRows
import Derived.Test.YtahbpehdjbmndaaGreatDoorCards
namespace Go.Proofs.YtahbpehdjbmndaaGreatDoor
open Go.ChangeShapes Go.WideShapes Go.ChangeAt Go.RowKit Go.Ev
theorem laidOutP : laidOutB Tryz.prog = true := by kernel_rfl
theorem mapsRowedP : mapsRowed Tryz.prog = true := by kernel_rfl
theorem stopsP : (Tryz.prog.stops == []) = true := by kernel_rfl
theorem knobsP : (Tryz.prog.stopKnobs == []) = true := by kernel_rfl
theorem plainKeysP : Tryz.prog.plainKeys = true := by kernel_rfl
theorem heardP : Tryz.prog.stopsHeard = true := by kernel_rfl
theorem mayEnterP : Tryz.prog.mayEnter = true := by kernel_rfl
theorem liftsP : Tryz.prog.liftsFinal = false := by kernel_rfl
theorem ownP : ownKnob Tryz.prog.godebug = none := by kernel_rfl
theorem looksP : true = Tryz.prog.looks [] := by kernel_rfl
theorem mainP : Tryz.prog.mainIs = some (true, "896fbafae1e1ffe8ce25a78a166a1b4298c1145fcf5f2ccfcdb0a39748b06265".toList) := by kernel_rfl
end Go.Proofs.YtahbpehdjbmndaaGreatDoor
