/- CheckNone: the row's closed cells, one by one. -/
import Derived.Test.YtfjlhoglgdmmaaaGreatDoorNone3
set_option autoImplicit false
set_option maxRecDepth 100000
set_option linter.unusedSimpArgs false
namespace Go.Proofs.YtfjlhoglgdmmaaaGreatDoor
open Go
theorem j10 : (Rows.checkNoneRow.inPlace == Tryz.prog.inPlace 3) = true := by kernel_rfl
theorem j11 : (Rows.checkNoneRow.unfollowed == Tryz.prog.unfollowed 3) = true := by kernel_rfl
theorem j12 : (Rows.checkNoneRow.recurses == Tryz.prog.recurses 3) = true := by kernel_rfl
theorem j13 : (Rows.checkNoneRow.named == Tryz.prog.varsNamed 3) = true := by kernel_rfl
theorem j3 : mapsRowed Tryz.prog = true := by kernel_rfl
theorem j23 : (Rows.checkNoneRow.plainKeys == Tryz.prog.plainKeys) = true := by kernel_rfl
theorem j24 : Tryz.prog.stopsHeard = true := by kernel_rfl
theorem j25 : Tryz.prog.mayEnter = true := by kernel_rfl
theorem j26 : (Rows.checkNoneRow.lifted == Tryz.prog.liftsFinal) = true := by kernel_rfl
theorem j27 : (Tryz.prog.make == some Rows.checkNoneRow.make) = true := by kernel_rfl
theorem facts : joinedFacts Tryz.prog 3 Tryz.f3 Rows.checkNoneSpec Rows.checkNoneRow = true := by
  simp only [joinedFacts, j10, j11, j12, j13, j3, j23, j24, j25, j26, j27, laidOut, Bool.and_true, Bool.true_and]
  kernel_rfl
end Go.Proofs.YtfjlhoglgdmmaaaGreatDoor
