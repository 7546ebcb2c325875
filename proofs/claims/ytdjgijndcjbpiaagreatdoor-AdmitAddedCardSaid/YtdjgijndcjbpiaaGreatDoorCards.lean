/-
  DERIVED. GIVEN WITH THE SEED: THE CARDS: each row of YtdjgijndcjbpiaaGreatDoorRows.lean that lists a variable, with what it lists TIED to the program's text (the seventh form; the later family's looks); each row that meets fmt, with fmt's text TOLD by the authors' own Lean function (tested against real Go, not proved from fmt's source: count such statements apart). THE CARD IS WHAT COUNTS. Prove the row's statement (the work); the ties are given (YtdjgijndcjbpiaaGreatDoorTie.lean); close each card by the builder's one call (the guide's Derived/Test/ToyasCard.lean, 'card_holds'). Laid BY PROGRAM, IN A SANDBOX (cutbox-door.mjs). By AI agents, Wed Nov 11 2026. No macro, syntax, notation, axiom, sorry.
-/
import Derived.Test.YtdjgijndcjbpiaaGreatDoorRows
import GoSem.ClaimSeven
namespace Go.Proofs.YtdjgijndcjbpiaaGreatDoor
namespace Rows

/-- THE TIED CARD OF 'keellaw4.TasksPlays'. -/
def tasksPlaysCard : Claim7 := { stood := { row := tasksPlaysRow, standIns := [], harness := (true, "2a0ddea0f7ce6d8469d60edee278c3687fe27e746cbcf7548ef60f30a29f7c5e"), looks := true }, kinds := [], alts := [], laidByText := true, laidKinds := [.data, .data, .data, .sentinel, .sentinel], laidTests := true, laidLooks := .later }
def TasksPlaysCardSaid : Prop := Claim7.holds Tryz.pinned (.plain (OpenSpec.ofChange tasksPlaysSpec)) tasksPlaysCard

/-- THE TIED CARD OF 'keellaw6.CeilRuns'. -/
def ceilRunsCard : Claim7 := { stood := { row := ceilRunsRow, standIns := [], harness := (true, "2a0ddea0f7ce6d8469d60edee278c3687fe27e746cbcf7548ef60f30a29f7c5e"), looks := true }, kinds := [], alts := [], laidByText := true, laidKinds := [.data, .data, .data, .sentinel, .sentinel], laidTests := true, laidLooks := .later }
def CeilRunsCardSaid : Prop := Claim7.holds Tryz.pinned (.plain (OpenSpec.ofChange ceilRunsSpec)) ceilRunsCard

/-- THE TIED CARD OF 'keellaw6.CeilTells'. -/
def ceilTellsCard : Claim7 := { stood := { row := ceilTellsRow, standIns := [], harness := (true, "2a0ddea0f7ce6d8469d60edee278c3687fe27e746cbcf7548ef60f30a29f7c5e"), looks := true }, kinds := [], alts := [], laidByText := true, laidKinds := [.data, .data, .data, .sentinel, .sentinel], laidTests := true, laidLooks := .later }
def CeilTellsCardSaid : Prop := Claim7.holds Tryz.pinned (.plain (OpenSpec.ofChange ceilTellsSpec)) ceilTellsCard

/-- THE TIED CARD OF 'keellaw6.CeilFalls'. -/
def ceilFallsCard : Claim7 := { stood := { row := ceilFallsRow, standIns := [], harness := (true, "2a0ddea0f7ce6d8469d60edee278c3687fe27e746cbcf7548ef60f30a29f7c5e"), looks := true }, kinds := [], alts := [], laidByText := true, laidKinds := [.data, .data, .data, .sentinel, .sentinel], laidTests := true, laidLooks := .later }
def CeilFallsCardSaid : Prop := Claim7.holds Tryz.pinned (.plain (OpenSpec.ofChange ceilFallsSpec)) ceilFallsCard

/-- THE TIED CARD OF 'keellaw6.CeilStacks'. -/
def ceilStacksCard : Claim7 := { stood := { row := ceilStacksRow, standIns := [], harness := (true, "2a0ddea0f7ce6d8469d60edee278c3687fe27e746cbcf7548ef60f30a29f7c5e"), looks := true }, kinds := [], alts := [], laidByText := true, laidKinds := [.data, .data, .data, .sentinel, .sentinel], laidTests := true, laidLooks := .later }
def CeilStacksCardSaid : Prop := Claim7.holds Tryz.pinned (.plain (OpenSpec.ofChange ceilStacksSpec)) ceilStacksCard

/-- THE TIED CARD OF 'keellaw6.CeilAdded'. -/
def ceilAddedCard : Claim7 := { stood := { row := ceilAddedRow, standIns := [], harness := (true, "2a0ddea0f7ce6d8469d60edee278c3687fe27e746cbcf7548ef60f30a29f7c5e"), looks := true }, kinds := [], alts := [], laidByText := true, laidKinds := [.data, .data, .data, .sentinel, .sentinel], laidTests := true, laidLooks := .later }
def CeilAddedCardSaid : Prop := Claim7.holds Tryz.pinned (.plain (OpenSpec.ofChange ceilAddedSpec)) ceilAddedCard

/-- THE TIED CARD OF 'keellaw11.AdmitTells'. -/
def admitTellsCard : Claim7 := { stood := { row := admitTellsRow, standIns := [], harness := (true, "2a0ddea0f7ce6d8469d60edee278c3687fe27e746cbcf7548ef60f30a29f7c5e"), looks := true }, kinds := [], alts := [], laidByText := true, laidKinds := [.data, .data, .data, .sentinel, .sentinel], laidTests := true, laidLooks := .later }
def AdmitTellsCardSaid : Prop := Claim7.holds Tryz.pinned (.plain (OpenSpec.ofChange admitTellsSpec)) admitTellsCard

/-- THE TIED CARD OF 'keellaw11.AdmitOrder'. -/
def admitOrderCard : Claim7 := { stood := { row := admitOrderRow, standIns := [], harness := (true, "2a0ddea0f7ce6d8469d60edee278c3687fe27e746cbcf7548ef60f30a29f7c5e"), looks := true }, kinds := [], alts := [], laidByText := true, laidKinds := [.data, .data, .data, .sentinel, .sentinel], laidTests := true, laidLooks := .later }
def AdmitOrderCardSaid : Prop := Claim7.holds Tryz.pinned (.plain (OpenSpec.ofChange admitOrderSpec)) admitOrderCard

/-- THE TIED CARD OF 'keellaw11.AdmitAdded'. -/
def admitAddedCard : Claim7 := { stood := { row := admitAddedRow, standIns := [], harness := (true, "2a0ddea0f7ce6d8469d60edee278c3687fe27e746cbcf7548ef60f30a29f7c5e"), looks := true }, kinds := [], alts := [], laidByText := true, laidKinds := [.data, .data, .data, .sentinel, .sentinel], laidTests := true, laidLooks := .later }
def AdmitAddedCardSaid : Prop := Claim7.holds Tryz.pinned (.plain (OpenSpec.ofChange admitAddedSpec)) admitAddedCard

/-- THE TIED CARD OF 'keellaw11.AdmitLowest'. -/
def admitLowestCard : Claim7 := { stood := { row := admitLowestRow, standIns := [], harness := (true, "2a0ddea0f7ce6d8469d60edee278c3687fe27e746cbcf7548ef60f30a29f7c5e"), looks := true }, kinds := [], alts := [], laidByText := true, laidKinds := [.data, .data, .data, .sentinel, .sentinel], laidTests := true, laidLooks := .later }
def AdmitLowestCardSaid : Prop := Claim7.holds Tryz.pinned (.plain (OpenSpec.ofChange admitLowestSpec)) admitLowestCard

/-- THE TIED CARD OF 'keellaw6.CeilSystem'. -/
def ceilSystemCard : Claim7 := { stood := { row := ceilSystemRow, standIns := [], harness := (true, "2a0ddea0f7ce6d8469d60edee278c3687fe27e746cbcf7548ef60f30a29f7c5e"), looks := true }, kinds := [], alts := [], laidByText := true, laidKinds := [.data, .data, .data, .sentinel, .sentinel], laidTests := true, laidLooks := .later }
def CeilSystemCardSaid : Prop := Claim7.holds Tryz.pinned (.plain (OpenSpec.ofChange ceilSystemSpec)) ceilSystemCard

/-- THE TIED CARD OF 'keellaw12.RespondTells'. -/
def respondTellsCard : Claim7 := { stood := { row := respondTellsRow, standIns := [], harness := (true, "2a0ddea0f7ce6d8469d60edee278c3687fe27e746cbcf7548ef60f30a29f7c5e"), looks := true }, kinds := [], alts := [], laidByText := true, laidKinds := [.data, .data, .data, .sentinel, .sentinel], laidTests := true, laidLooks := .later }
def RespondTellsCardSaid : Prop := Claim7.holds Tryz.pinned (.plain (OpenSpec.ofChange respondTellsSpec)) respondTellsCard

/-- THE TIED CARD OF 'keellaw12.RespondLeast'. -/
def respondLeastCard : Claim7 := { stood := { row := respondLeastRow, standIns := [], harness := (true, "2a0ddea0f7ce6d8469d60edee278c3687fe27e746cbcf7548ef60f30a29f7c5e"), looks := true }, kinds := [], alts := [], laidByText := true, laidKinds := [.data, .data, .data, .sentinel, .sentinel], laidTests := true, laidLooks := .later }
def RespondLeastCardSaid : Prop := Claim7.holds Tryz.pinned (.plain (OpenSpec.ofChange respondLeastSpec)) respondLeastCard

/-- THE TIED CARD OF 'keellaw12.RespondLower'. -/
def respondLowerCard : Claim7 := { stood := { row := respondLowerRow, standIns := [], harness := (true, "2a0ddea0f7ce6d8469d60edee278c3687fe27e746cbcf7548ef60f30a29f7c5e"), looks := true }, kinds := [], alts := [], laidByText := true, laidKinds := [.data, .data, .data, .sentinel, .sentinel], laidTests := true, laidLooks := .later }
def RespondLowerCardSaid : Prop := Claim7.holds Tryz.pinned (.plain (OpenSpec.ofChange respondLowerSpec)) respondLowerCard

/-- THE TIED CARD OF 'keellaw12.RespondHighest'. -/
def respondHighestCard : Claim7 := { stood := { row := respondHighestRow, standIns := [], harness := (true, "2a0ddea0f7ce6d8469d60edee278c3687fe27e746cbcf7548ef60f30a29f7c5e"), looks := true }, kinds := [], alts := [], laidByText := true, laidKinds := [.data, .data, .data, .sentinel, .sentinel], laidTests := true, laidLooks := .later }
def RespondHighestCardSaid : Prop := Claim7.holds Tryz.pinned (.plain (OpenSpec.ofChange respondHighestSpec)) respondHighestCard

/-- THE SECOND FORM's CARD OF 'keellaw4.TasksPlays'. -/
def tasksPlaysUptoCard : Claim7 := { stood := { row := tasksPlaysUptoRow, standIns := [], harness := (true, "2a0ddea0f7ce6d8469d60edee278c3687fe27e746cbcf7548ef60f30a29f7c5e"), looks := true }, kinds := [], alts := [], laidByText := true, laidKinds := [.data, .data, .data, .sentinel, .sentinel], laidTests := true, laidLooks := .later }
def TasksPlaysUptoCardSaid : Prop := Claim7.holds Tryz.pinned (.plain (OpenSpec.upto tasksPlaysSpec)) tasksPlaysUptoCard

/-- THE SECOND FORM's CARD OF 'keellaw6.CeilRuns'. -/
def ceilRunsUptoCard : Claim7 := { stood := { row := ceilRunsUptoRow, standIns := [], harness := (true, "2a0ddea0f7ce6d8469d60edee278c3687fe27e746cbcf7548ef60f30a29f7c5e"), looks := true }, kinds := [], alts := [], laidByText := true, laidKinds := [.data, .data, .data, .sentinel, .sentinel], laidTests := true, laidLooks := .later }
def CeilRunsUptoCardSaid : Prop := Claim7.holds Tryz.pinned (.plain (OpenSpec.upto ceilRunsSpec)) ceilRunsUptoCard

/-- THE SECOND FORM's CARD OF 'keellaw6.CeilTells'. -/
def ceilTellsUptoCard : Claim7 := { stood := { row := ceilTellsUptoRow, standIns := [], harness := (true, "2a0ddea0f7ce6d8469d60edee278c3687fe27e746cbcf7548ef60f30a29f7c5e"), looks := true }, kinds := [], alts := [], laidByText := true, laidKinds := [.data, .data, .data, .sentinel, .sentinel], laidTests := true, laidLooks := .later }
def CeilTellsUptoCardSaid : Prop := Claim7.holds Tryz.pinned (.plain (OpenSpec.upto ceilTellsSpec)) ceilTellsUptoCard

/-- THE SECOND FORM's CARD OF 'keellaw6.CeilFalls'. -/
def ceilFallsUptoCard : Claim7 := { stood := { row := ceilFallsUptoRow, standIns := [], harness := (true, "2a0ddea0f7ce6d8469d60edee278c3687fe27e746cbcf7548ef60f30a29f7c5e"), looks := true }, kinds := [], alts := [], laidByText := true, laidKinds := [.data, .data, .data, .sentinel, .sentinel], laidTests := true, laidLooks := .later }
def CeilFallsUptoCardSaid : Prop := Claim7.holds Tryz.pinned (.plain (OpenSpec.upto ceilFallsSpec)) ceilFallsUptoCard

/-- THE SECOND FORM's CARD OF 'keellaw6.CeilStacks'. -/
def ceilStacksUptoCard : Claim7 := { stood := { row := ceilStacksUptoRow, standIns := [], harness := (true, "2a0ddea0f7ce6d8469d60edee278c3687fe27e746cbcf7548ef60f30a29f7c5e"), looks := true }, kinds := [], alts := [], laidByText := true, laidKinds := [.data, .data, .data, .sentinel, .sentinel], laidTests := true, laidLooks := .later }
def CeilStacksUptoCardSaid : Prop := Claim7.holds Tryz.pinned (.plain (OpenSpec.upto ceilStacksSpec)) ceilStacksUptoCard

/-- THE SECOND FORM's CARD OF 'keellaw6.CeilAdded'. -/
def ceilAddedUptoCard : Claim7 := { stood := { row := ceilAddedUptoRow, standIns := [], harness := (true, "2a0ddea0f7ce6d8469d60edee278c3687fe27e746cbcf7548ef60f30a29f7c5e"), looks := true }, kinds := [], alts := [], laidByText := true, laidKinds := [.data, .data, .data, .sentinel, .sentinel], laidTests := true, laidLooks := .later }
def CeilAddedUptoCardSaid : Prop := Claim7.holds Tryz.pinned (.plain (OpenSpec.upto ceilAddedSpec)) ceilAddedUptoCard

/-- THE SECOND FORM's CARD OF 'keellaw11.AdmitTells'. -/
def admitTellsUptoCard : Claim7 := { stood := { row := admitTellsUptoRow, standIns := [], harness := (true, "2a0ddea0f7ce6d8469d60edee278c3687fe27e746cbcf7548ef60f30a29f7c5e"), looks := true }, kinds := [], alts := [], laidByText := true, laidKinds := [.data, .data, .data, .sentinel, .sentinel], laidTests := true, laidLooks := .later }
def AdmitTellsUptoCardSaid : Prop := Claim7.holds Tryz.pinned (.plain (OpenSpec.upto admitTellsSpec)) admitTellsUptoCard

/-- THE SECOND FORM's CARD OF 'keellaw11.AdmitOrder'. -/
def admitOrderUptoCard : Claim7 := { stood := { row := admitOrderUptoRow, standIns := [], harness := (true, "2a0ddea0f7ce6d8469d60edee278c3687fe27e746cbcf7548ef60f30a29f7c5e"), looks := true }, kinds := [], alts := [], laidByText := true, laidKinds := [.data, .data, .data, .sentinel, .sentinel], laidTests := true, laidLooks := .later }
def AdmitOrderUptoCardSaid : Prop := Claim7.holds Tryz.pinned (.plain (OpenSpec.upto admitOrderSpec)) admitOrderUptoCard

/-- THE SECOND FORM's CARD OF 'keellaw11.AdmitAdded'. -/
def admitAddedUptoCard : Claim7 := { stood := { row := admitAddedUptoRow, standIns := [], harness := (true, "2a0ddea0f7ce6d8469d60edee278c3687fe27e746cbcf7548ef60f30a29f7c5e"), looks := true }, kinds := [], alts := [], laidByText := true, laidKinds := [.data, .data, .data, .sentinel, .sentinel], laidTests := true, laidLooks := .later }
def AdmitAddedUptoCardSaid : Prop := Claim7.holds Tryz.pinned (.plain (OpenSpec.upto admitAddedSpec)) admitAddedUptoCard

/-- THE SECOND FORM's CARD OF 'keellaw11.AdmitLowest'. -/
def admitLowestUptoCard : Claim7 := { stood := { row := admitLowestUptoRow, standIns := [], harness := (true, "2a0ddea0f7ce6d8469d60edee278c3687fe27e746cbcf7548ef60f30a29f7c5e"), looks := true }, kinds := [], alts := [], laidByText := true, laidKinds := [.data, .data, .data, .sentinel, .sentinel], laidTests := true, laidLooks := .later }
def AdmitLowestUptoCardSaid : Prop := Claim7.holds Tryz.pinned (.plain (OpenSpec.upto admitLowestSpec)) admitLowestUptoCard

/-- THE SECOND FORM's CARD OF 'keellaw6.CeilSystem'. -/
def ceilSystemUptoCard : Claim7 := { stood := { row := ceilSystemUptoRow, standIns := [], harness := (true, "2a0ddea0f7ce6d8469d60edee278c3687fe27e746cbcf7548ef60f30a29f7c5e"), looks := true }, kinds := [], alts := [], laidByText := true, laidKinds := [.data, .data, .data, .sentinel, .sentinel], laidTests := true, laidLooks := .later }
def CeilSystemUptoCardSaid : Prop := Claim7.holds Tryz.pinned (.plain (OpenSpec.upto ceilSystemSpec)) ceilSystemUptoCard

/-- THE SECOND FORM's CARD OF 'keellaw12.RespondTells'. -/
def respondTellsUptoCard : Claim7 := { stood := { row := respondTellsUptoRow, standIns := [], harness := (true, "2a0ddea0f7ce6d8469d60edee278c3687fe27e746cbcf7548ef60f30a29f7c5e"), looks := true }, kinds := [], alts := [], laidByText := true, laidKinds := [.data, .data, .data, .sentinel, .sentinel], laidTests := true, laidLooks := .later }
def RespondTellsUptoCardSaid : Prop := Claim7.holds Tryz.pinned (.plain (OpenSpec.upto respondTellsSpec)) respondTellsUptoCard

/-- THE SECOND FORM's CARD OF 'keellaw12.RespondLeast'. -/
def respondLeastUptoCard : Claim7 := { stood := { row := respondLeastUptoRow, standIns := [], harness := (true, "2a0ddea0f7ce6d8469d60edee278c3687fe27e746cbcf7548ef60f30a29f7c5e"), looks := true }, kinds := [], alts := [], laidByText := true, laidKinds := [.data, .data, .data, .sentinel, .sentinel], laidTests := true, laidLooks := .later }
def RespondLeastUptoCardSaid : Prop := Claim7.holds Tryz.pinned (.plain (OpenSpec.upto respondLeastSpec)) respondLeastUptoCard

/-- THE SECOND FORM's CARD OF 'keellaw12.RespondLower'. -/
def respondLowerUptoCard : Claim7 := { stood := { row := respondLowerUptoRow, standIns := [], harness := (true, "2a0ddea0f7ce6d8469d60edee278c3687fe27e746cbcf7548ef60f30a29f7c5e"), looks := true }, kinds := [], alts := [], laidByText := true, laidKinds := [.data, .data, .data, .sentinel, .sentinel], laidTests := true, laidLooks := .later }
def RespondLowerUptoCardSaid : Prop := Claim7.holds Tryz.pinned (.plain (OpenSpec.upto respondLowerSpec)) respondLowerUptoCard

/-- THE SECOND FORM's CARD OF 'keellaw12.RespondHighest'. -/
def respondHighestUptoCard : Claim7 := { stood := { row := respondHighestUptoRow, standIns := [], harness := (true, "2a0ddea0f7ce6d8469d60edee278c3687fe27e746cbcf7548ef60f30a29f7c5e"), looks := true }, kinds := [], alts := [], laidByText := true, laidKinds := [.data, .data, .data, .sentinel, .sentinel], laidTests := true, laidLooks := .later }
def RespondHighestUptoCardSaid : Prop := Claim7.holds Tryz.pinned (.plain (OpenSpec.upto respondHighestSpec)) respondHighestUptoCard
end Rows
end Go.Proofs.YtdjgijndcjbpiaaGreatDoor
