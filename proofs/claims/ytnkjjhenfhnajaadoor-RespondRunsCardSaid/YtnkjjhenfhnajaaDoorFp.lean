/- Closed facts of the program that all rows of this seat share. -/
import Derived.Test.YtnkjjhenfhnajaaDoorRows
import Derived.WalkKit
import Derived.JoinedOf
namespace Go.Proofs.YtnkjjhenfhnajaaDoor.fp
set_option maxRecDepth 100000
theorem laidOut : laidOutB Tryd.pinned.checked.prog = true := by kernel_rfl
theorem mapsRowed : mapsRowed Tryd.pinned.checked.prog = true := by kernel_rfl
theorem namedTie : namedTie Tryd.pinned.checked.prog Rows.respondRunsRow.named [] = true := by kernel_rfl
theorem stops : (Tryd.pinned.checked.prog.stops == []) = true := by kernel_rfl
theorem stopKnobs : (Tryd.pinned.checked.prog.stopKnobs == []) = true := by kernel_rfl
theorem plainKeys : (Rows.respondRunsRow.plainKeys == Tryd.pinned.checked.prog.plainKeys) = true := by kernel_rfl
theorem stopsHeard : Tryd.pinned.checked.prog.stopsHeard = true := by kernel_rfl
theorem mayEnter : Tryd.pinned.checked.prog.mayEnter = true := by kernel_rfl
theorem lifted : (Rows.respondRunsRow.lifted == Tryd.pinned.checked.prog.liftsFinal) = true := by kernel_rfl
theorem make : (Tryd.pinned.checked.prog.make == some Rows.respondRunsRow.make) = true := by kernel_rfl
end Go.Proofs.YtnkjjhenfhnajaaDoor.fp
