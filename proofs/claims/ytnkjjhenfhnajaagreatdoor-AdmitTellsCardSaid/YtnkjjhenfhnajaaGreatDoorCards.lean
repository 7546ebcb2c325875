/-
  DERIVED. GIVEN WITH THE SEED: THE CARDS: each row of YtnkjjhenfhnajaaGreatDoorRows.lean that lists a variable, with what it lists TIED to the program's text (the seventh form; the later family's looks); each row that meets fmt, with fmt's text TOLD by the authors' own Lean function (tested against real Go, not proved from fmt's source: count such statements apart). THE CARD IS WHAT COUNTS. Prove the row's statement (the work); the ties are given (YtnkjjhenfhnajaaGreatDoorTie.lean); close each card by the builder's one call (the guide's Derived/Test/ToyasCard.lean, 'card_holds'). Laid BY PROGRAM, IN A SANDBOX (cutbox-door.mjs). By AI agents, Wed Nov 11 2026. No macro, syntax, notation, axiom, sorry.
-/
import Derived.Test.YtnkjjhenfhnajaaGreatDoorRows
import GoSem.ClaimSeven
namespace Go.Proofs.YtnkjjhenfhnajaaGreatDoor
namespace Rows

/-- THE TIED CARD OF 'keellaw4.TasksPlays'. -/
def tasksPlaysCard : Claim7 := { stood := { row := tasksPlaysRow, standIns := [], harness := (true, "e0760221dec382cf65afcde2aa07e2f01614e4e2646ee86076ae150b5dc76c21"), looks := true }, kinds := [], alts := [], laidByText := true, laidKinds := [.data, .data, .data, .sentinel, .sentinel], laidTests := true, laidLooks := .later }
def TasksPlaysCardSaid : Prop := Claim7.holds Tryz.pinned (.plain (OpenSpec.ofChange tasksPlaysSpec)) tasksPlaysCard

/-- THE TIED CARD OF 'keellaw11.AdmitTells'. -/
def admitTellsCard : Claim7 := { stood := { row := admitTellsRow, standIns := [], harness := (true, "e0760221dec382cf65afcde2aa07e2f01614e4e2646ee86076ae150b5dc76c21"), looks := true }, kinds := [], alts := [], laidByText := true, laidKinds := [.data, .data, .data, .sentinel, .sentinel], laidTests := true, laidLooks := .later }
def AdmitTellsCardSaid : Prop := Claim7.holds Tryz.pinned (.plain (OpenSpec.ofChange admitTellsSpec)) admitTellsCard

/-- THE TIED CARD OF 'keellaw6.CeilSystem'. -/
def ceilSystemCard : Claim7 := { stood := { row := ceilSystemRow, standIns := [], harness := (true, "e0760221dec382cf65afcde2aa07e2f01614e4e2646ee86076ae150b5dc76c21"), looks := true }, kinds := [], alts := [], laidByText := true, laidKinds := [.data, .data, .data, .sentinel, .sentinel], laidTests := true, laidLooks := .later }
def CeilSystemCardSaid : Prop := Claim7.holds Tryz.pinned (.plain (OpenSpec.ofChange ceilSystemSpec)) ceilSystemCard

/-- THE TIED CARD OF 'keellaw12.RespondTells'. -/
def respondTellsCard : Claim7 := { stood := { row := respondTellsRow, standIns := [], harness := (true, "e0760221dec382cf65afcde2aa07e2f01614e4e2646ee86076ae150b5dc76c21"), looks := true }, kinds := [], alts := [], laidByText := true, laidKinds := [.data, .data, .data, .sentinel, .sentinel], laidTests := true, laidLooks := .later }
def RespondTellsCardSaid : Prop := Claim7.holds Tryz.pinned (.plain (OpenSpec.ofChange respondTellsSpec)) respondTellsCard

/-- THE TIED CARD OF 'keellaw12.RespondLeast'. -/
def respondLeastCard : Claim7 := { stood := { row := respondLeastRow, standIns := [], harness := (true, "e0760221dec382cf65afcde2aa07e2f01614e4e2646ee86076ae150b5dc76c21"), looks := true }, kinds := [], alts := [], laidByText := true, laidKinds := [.data, .data, .data, .sentinel, .sentinel], laidTests := true, laidLooks := .later }
def RespondLeastCardSaid : Prop := Claim7.holds Tryz.pinned (.plain (OpenSpec.ofChange respondLeastSpec)) respondLeastCard

/-- THE TIED CARD OF 'keellaw12.RespondLower'. -/
def respondLowerCard : Claim7 := { stood := { row := respondLowerRow, standIns := [], harness := (true, "e0760221dec382cf65afcde2aa07e2f01614e4e2646ee86076ae150b5dc76c21"), looks := true }, kinds := [], alts := [], laidByText := true, laidKinds := [.data, .data, .data, .sentinel, .sentinel], laidTests := true, laidLooks := .later }
def RespondLowerCardSaid : Prop := Claim7.holds Tryz.pinned (.plain (OpenSpec.ofChange respondLowerSpec)) respondLowerCard

/-- THE TIED CARD OF 'keellaw12.RespondHighest'. -/
def respondHighestCard : Claim7 := { stood := { row := respondHighestRow, standIns := [], harness := (true, "e0760221dec382cf65afcde2aa07e2f01614e4e2646ee86076ae150b5dc76c21"), looks := true }, kinds := [], alts := [], laidByText := true, laidKinds := [.data, .data, .data, .sentinel, .sentinel], laidTests := true, laidLooks := .later }
def RespondHighestCardSaid : Prop := Claim7.holds Tryz.pinned (.plain (OpenSpec.ofChange respondHighestSpec)) respondHighestCard

/-- THE SECOND FORM's CARD OF 'keellaw4.TasksPlays'. -/
def tasksPlaysUptoCard : Claim7 := { stood := { row := tasksPlaysUptoRow, standIns := [], harness := (true, "e0760221dec382cf65afcde2aa07e2f01614e4e2646ee86076ae150b5dc76c21"), looks := true }, kinds := [], alts := [], laidByText := true, laidKinds := [.data, .data, .data, .sentinel, .sentinel], laidTests := true, laidLooks := .later }
def TasksPlaysUptoCardSaid : Prop := Claim7.holds Tryz.pinned (.plain (OpenSpec.upto tasksPlaysSpec)) tasksPlaysUptoCard

/-- THE SECOND FORM's CARD OF 'keellaw11.AdmitTells'. -/
def admitTellsUptoCard : Claim7 := { stood := { row := admitTellsUptoRow, standIns := [], harness := (true, "e0760221dec382cf65afcde2aa07e2f01614e4e2646ee86076ae150b5dc76c21"), looks := true }, kinds := [], alts := [], laidByText := true, laidKinds := [.data, .data, .data, .sentinel, .sentinel], laidTests := true, laidLooks := .later }
def AdmitTellsUptoCardSaid : Prop := Claim7.holds Tryz.pinned (.plain (OpenSpec.upto admitTellsSpec)) admitTellsUptoCard

/-- THE SECOND FORM's CARD OF 'keellaw6.CeilSystem'. -/
def ceilSystemUptoCard : Claim7 := { stood := { row := ceilSystemUptoRow, standIns := [], harness := (true, "e0760221dec382cf65afcde2aa07e2f01614e4e2646ee86076ae150b5dc76c21"), looks := true }, kinds := [], alts := [], laidByText := true, laidKinds := [.data, .data, .data, .sentinel, .sentinel], laidTests := true, laidLooks := .later }
def CeilSystemUptoCardSaid : Prop := Claim7.holds Tryz.pinned (.plain (OpenSpec.upto ceilSystemSpec)) ceilSystemUptoCard

/-- THE SECOND FORM's CARD OF 'keellaw12.RespondTells'. -/
def respondTellsUptoCard : Claim7 := { stood := { row := respondTellsUptoRow, standIns := [], harness := (true, "e0760221dec382cf65afcde2aa07e2f01614e4e2646ee86076ae150b5dc76c21"), looks := true }, kinds := [], alts := [], laidByText := true, laidKinds := [.data, .data, .data, .sentinel, .sentinel], laidTests := true, laidLooks := .later }
def RespondTellsUptoCardSaid : Prop := Claim7.holds Tryz.pinned (.plain (OpenSpec.upto respondTellsSpec)) respondTellsUptoCard

/-- THE SECOND FORM's CARD OF 'keellaw12.RespondLeast'. -/
def respondLeastUptoCard : Claim7 := { stood := { row := respondLeastUptoRow, standIns := [], harness := (true, "e0760221dec382cf65afcde2aa07e2f01614e4e2646ee86076ae150b5dc76c21"), looks := true }, kinds := [], alts := [], laidByText := true, laidKinds := [.data, .data, .data, .sentinel, .sentinel], laidTests := true, laidLooks := .later }
def RespondLeastUptoCardSaid : Prop := Claim7.holds Tryz.pinned (.plain (OpenSpec.upto respondLeastSpec)) respondLeastUptoCard

/-- THE SECOND FORM's CARD OF 'keellaw12.RespondLower'. -/
def respondLowerUptoCard : Claim7 := { stood := { row := respondLowerUptoRow, standIns := [], harness := (true, "e0760221dec382cf65afcde2aa07e2f01614e4e2646ee86076ae150b5dc76c21"), looks := true }, kinds := [], alts := [], laidByText := true, laidKinds := [.data, .data, .data, .sentinel, .sentinel], laidTests := true, laidLooks := .later }
def RespondLowerUptoCardSaid : Prop := Claim7.holds Tryz.pinned (.plain (OpenSpec.upto respondLowerSpec)) respondLowerUptoCard

/-- THE SECOND FORM's CARD OF 'keellaw12.RespondHighest'. -/
def respondHighestUptoCard : Claim7 := { stood := { row := respondHighestUptoRow, standIns := [], harness := (true, "e0760221dec382cf65afcde2aa07e2f01614e4e2646ee86076ae150b5dc76c21"), looks := true }, kinds := [], alts := [], laidByText := true, laidKinds := [.data, .data, .data, .sentinel, .sentinel], laidTests := true, laidLooks := .later }
def RespondHighestUptoCardSaid : Prop := Claim7.holds Tryz.pinned (.plain (OpenSpec.upto respondHighestSpec)) respondHighestUptoCard
end Rows
end Go.Proofs.YtnkjjhenfhnajaaGreatDoor
