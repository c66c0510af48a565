/-
  AppsOrder: the row's closed cells; no condition.
-/
import Derived.Test.YtahbpehdjbmndaaGreatDoorFactsB
import Derived.JoinedCond
namespace Go.Proofs.YtahbpehdjbmndaaGreatDoor.fnAppsOrder
open Go.ChangeShapes Go.WideShapes Go.ChangeAt Go.RowKit Go.Ev
theorem inPlace : (Rows.appsOrderRow.inPlace == Tryz.prog.inPlace 11) = true := by kernel_rfl
theorem unfollowed : (Rows.appsOrderRow.unfollowed == Tryz.prog.unfollowed 11) = true := by kernel_rfl
theorem recurses : (Rows.appsOrderRow.recurses == Tryz.prog.recurses 11) = true := by kernel_rfl
theorem named : (Rows.appsOrderRow.named == Tryz.prog.varsNamed 11) = true := by kernel_rfl
theorem make : (Tryz.prog.make == some Rows.appsOrderRow.make) = true := by kernel_rfl
theorem goesBy : false = Rows.appsOrderRow.goesBy Tryz.prog := by kernel_rfl
theorem wfText : OpenClaim.wfByText (OpenSpec.ofChange Rows.appsOrderSpec) Rows.appsOrderRow = true := by kernel_rfl
theorem joined : joinedFacts Tryz.pinned.checked.prog 11 Tryz.f11 (OpenSpec.ofChange Rows.appsOrderSpec).bare Rows.appsOrderRow = true := by
  unfold joinedFacts
  simp only [Bool.and_eq_true]
  and_intros
  · kernel_rfl
  · exact laidOutP
  · exact mapsRowedP
  · kernel_rfl
  · kernel_rfl
  · rfl
  · exact stopsP
  · rfl
  · exact knobsP
  · exact inPlace
  · exact unfollowed
  · exact recurses
  · exact named
  · kernel_rfl
  · kernel_rfl
  · kernel_rfl
  · kernel_rfl
  · kernel_rfl
  · kernel_rfl
  · kernel_rfl
  · kernel_rfl
  · kernel_rfl
  · show (true == Tryz.prog.plainKeys) = true
    rw [plainKeysP]; rfl
  · rfl
  · exact heardP
  · exact mayEnterP
  · show (false == Tryz.prog.liftsFinal) = true
    rw [liftsP]; rfl
  · exact make
  · kernel_rfl
  · kernel_rfl
  · kernel_rfl
  · kernel_rfl
end Go.Proofs.YtahbpehdjbmndaaGreatDoor.fnAppsOrder
