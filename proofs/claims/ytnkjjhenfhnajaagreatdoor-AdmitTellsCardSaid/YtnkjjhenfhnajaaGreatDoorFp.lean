/- Closed facts of the program that all rows of this seat share. -/
import Derived.Test.YtnkjjhenfhnajaaGreatDoorRows
import Derived.WalkKit
import Derived.JoinedOf
namespace Go.Proofs.YtnkjjhenfhnajaaGreatDoor.fp
set_option maxRecDepth 100000
theorem laidOut : laidOutB Tryz.pinned.checked.prog = true := by kernel_rfl
theorem mapsRowed : mapsRowed Tryz.pinned.checked.prog = true := by kernel_rfl
theorem namedTie : namedTie Tryz.pinned.checked.prog Rows.tasksPlaysRow.named [] = true := by kernel_rfl
theorem stops : (Tryz.pinned.checked.prog.stops == []) = true := by kernel_rfl
theorem stopKnobs : (Tryz.pinned.checked.prog.stopKnobs == []) = true := by kernel_rfl
theorem plainKeys : (Rows.tasksPlaysRow.plainKeys == Tryz.pinned.checked.prog.plainKeys) = true := by kernel_rfl
theorem stopsHeard : Tryz.pinned.checked.prog.stopsHeard = true := by kernel_rfl
theorem mayEnter : Tryz.pinned.checked.prog.mayEnter = true := by kernel_rfl
theorem lifted : (Rows.tasksPlaysRow.lifted == Tryz.pinned.checked.prog.liftsFinal) = true := by kernel_rfl
theorem make : (Tryz.pinned.checked.prog.make == some Rows.tasksPlaysRow.make) = true := by kernel_rfl
end Go.Proofs.YtnkjjhenfhnajaaGreatDoor.fp
