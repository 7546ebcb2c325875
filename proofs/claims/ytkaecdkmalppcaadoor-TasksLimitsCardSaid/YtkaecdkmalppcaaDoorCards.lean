/-
  DERIVED. GIVEN WITH THE SEED: THE CARDS: each row of YtkaecdkmalppcaaDoorRows.lean that lists a variable, with what it lists TIED to the program's text (the seventh form; the later family's looks); each row that meets fmt, with fmt's text TOLD by the authors' own Lean function (tested against real Go, not proved from fmt's source: count such statements apart). THE CARD IS WHAT COUNTS. Prove the row's statement (the work); the ties are given (YtkaecdkmalppcaaDoorTie.lean); close each card by the builder's one call (the guide's Derived/Test/ToyasCard.lean, 'card_holds'). Laid BY PROGRAM, IN A SANDBOX (cutbox-door.mjs). By AI agents, Wed Nov 11 2026. No macro, syntax, notation, axiom, sorry.
-/
import Derived.Test.YtkaecdkmalppcaaDoorRows
import GoSem.ClaimSeven
namespace Go.Proofs.YtkaecdkmalppcaaDoor
namespace Rows

/-- THE TIED CARD OF 'keellaw4.TasksRuns'. -/
def tasksRunsCard : Claim7 := { stood := { row := tasksRunsRow, standIns := [], harness := (true, "18d37da02f68f7eb7999590360f6bc518ade884196f3e61b805dd6f6d1492110"), looks := true }, kinds := [], alts := [], laidByText := true, laidKinds := [.data, .data, .data, .sentinel, .sentinel], laidTests := true, laidLooks := .later }
def TasksRunsCardSaid : Prop := Claim7.holds Tryd.pinned (.plain (OpenSpec.ofChange tasksRunsSpec)) tasksRunsCard

/-- THE TIED CARD OF 'keellaw4.TasksLimits'. -/
def tasksLimitsCard : Claim7 := { stood := { row := tasksLimitsRow, standIns := [], harness := (true, "18d37da02f68f7eb7999590360f6bc518ade884196f3e61b805dd6f6d1492110"), looks := true }, kinds := [], alts := [], laidByText := true, laidKinds := [.data, .data, .data, .sentinel, .sentinel], laidTests := true, laidLooks := .later }
def TasksLimitsCardSaid : Prop := Claim7.holds Tryd.pinned (.plain (OpenSpec.ofChange tasksLimitsSpec)) tasksLimitsCard

/-- THE TIED CARD OF 'keellaw4.TasksBound'. -/
def tasksBoundCard : Claim7 := { stood := { row := tasksBoundRow, standIns := [], harness := (true, "18d37da02f68f7eb7999590360f6bc518ade884196f3e61b805dd6f6d1492110"), looks := true }, kinds := [], alts := [], laidByText := true, laidKinds := [.data, .data, .data, .sentinel, .sentinel], laidTests := true, laidLooks := .later }
def TasksBoundCardSaid : Prop := Claim7.holds Tryd.pinned (.plain (OpenSpec.ofChange tasksBoundSpec)) tasksBoundCard

/-- THE TIED CARD OF 'keellaw4.TasksTurned'. -/
def tasksTurnedCard : Claim7 := { stood := { row := tasksTurnedRow, standIns := [], harness := (true, "18d37da02f68f7eb7999590360f6bc518ade884196f3e61b805dd6f6d1492110"), looks := true }, kinds := [], alts := [], laidByText := true, laidKinds := [.data, .data, .data, .sentinel, .sentinel], laidTests := true, laidLooks := .later }
def TasksTurnedCardSaid : Prop := Claim7.holds Tryd.pinned (.plain (OpenSpec.ofChange tasksTurnedSpec)) tasksTurnedCard

/-- THE TIED CARD OF 'keellaw4.TasksStay'. -/
def tasksStayCard : Claim7 := { stood := { row := tasksStayRow, standIns := [], harness := (true, "18d37da02f68f7eb7999590360f6bc518ade884196f3e61b805dd6f6d1492110"), looks := true }, kinds := [], alts := [], laidByText := true, laidKinds := [.data, .data, .data, .sentinel, .sentinel], laidTests := true, laidLooks := .later }
def TasksStayCardSaid : Prop := Claim7.holds Tryd.pinned (.plain (OpenSpec.ofChange tasksStaySpec)) tasksStayCard

/-- THE SECOND FORM's CARD OF 'keellaw4.TasksRuns'. -/
def tasksRunsUptoCard : Claim7 := { stood := { row := tasksRunsUptoRow, standIns := [], harness := (true, "18d37da02f68f7eb7999590360f6bc518ade884196f3e61b805dd6f6d1492110"), looks := true }, kinds := [], alts := [], laidByText := true, laidKinds := [.data, .data, .data, .sentinel, .sentinel], laidTests := true, laidLooks := .later }
def TasksRunsUptoCardSaid : Prop := Claim7.holds Tryd.pinned (.plain (OpenSpec.upto tasksRunsSpec)) tasksRunsUptoCard

/-- THE SECOND FORM's CARD OF 'keellaw4.TasksLimits'. -/
def tasksLimitsUptoCard : Claim7 := { stood := { row := tasksLimitsUptoRow, standIns := [], harness := (true, "18d37da02f68f7eb7999590360f6bc518ade884196f3e61b805dd6f6d1492110"), looks := true }, kinds := [], alts := [], laidByText := true, laidKinds := [.data, .data, .data, .sentinel, .sentinel], laidTests := true, laidLooks := .later }
def TasksLimitsUptoCardSaid : Prop := Claim7.holds Tryd.pinned (.plain (OpenSpec.upto tasksLimitsSpec)) tasksLimitsUptoCard

/-- THE SECOND FORM's CARD OF 'keellaw4.TasksBound'. -/
def tasksBoundUptoCard : Claim7 := { stood := { row := tasksBoundUptoRow, standIns := [], harness := (true, "18d37da02f68f7eb7999590360f6bc518ade884196f3e61b805dd6f6d1492110"), looks := true }, kinds := [], alts := [], laidByText := true, laidKinds := [.data, .data, .data, .sentinel, .sentinel], laidTests := true, laidLooks := .later }
def TasksBoundUptoCardSaid : Prop := Claim7.holds Tryd.pinned (.plain (OpenSpec.upto tasksBoundSpec)) tasksBoundUptoCard

/-- THE SECOND FORM's CARD OF 'keellaw4.TasksTurned'. -/
def tasksTurnedUptoCard : Claim7 := { stood := { row := tasksTurnedUptoRow, standIns := [], harness := (true, "18d37da02f68f7eb7999590360f6bc518ade884196f3e61b805dd6f6d1492110"), looks := true }, kinds := [], alts := [], laidByText := true, laidKinds := [.data, .data, .data, .sentinel, .sentinel], laidTests := true, laidLooks := .later }
def TasksTurnedUptoCardSaid : Prop := Claim7.holds Tryd.pinned (.plain (OpenSpec.upto tasksTurnedSpec)) tasksTurnedUptoCard

/-- THE SECOND FORM's CARD OF 'keellaw4.TasksStay'. -/
def tasksStayUptoCard : Claim7 := { stood := { row := tasksStayUptoRow, standIns := [], harness := (true, "18d37da02f68f7eb7999590360f6bc518ade884196f3e61b805dd6f6d1492110"), looks := true }, kinds := [], alts := [], laidByText := true, laidKinds := [.data, .data, .data, .sentinel, .sentinel], laidTests := true, laidLooks := .later }
def TasksStayUptoCardSaid : Prop := Claim7.holds Tryd.pinned (.plain (OpenSpec.upto tasksStaySpec)) tasksStayUptoCard
end Rows
end Go.Proofs.YtkaecdkmalppcaaDoor
