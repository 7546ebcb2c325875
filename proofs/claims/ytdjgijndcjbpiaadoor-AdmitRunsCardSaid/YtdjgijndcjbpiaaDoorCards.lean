/-
  DERIVED. GIVEN WITH THE SEED: THE CARDS: each row of YtdjgijndcjbpiaaDoorRows.lean that lists a variable, with what it lists TIED to the program's text (the seventh form; the later family's looks); each row that meets fmt, with fmt's text TOLD by the authors' own Lean function (tested against real Go, not proved from fmt's source: count such statements apart). THE CARD IS WHAT COUNTS. Prove the row's statement (the work); the ties are given (YtdjgijndcjbpiaaDoorTie.lean); close each card by the builder's one call (the guide's Derived/Test/ToyasCard.lean, 'card_holds'). Laid BY PROGRAM, IN A SANDBOX (cutbox-door.mjs). By AI agents, Wed Nov 11 2026. No macro, syntax, notation, axiom, sorry.
-/
import Derived.Test.YtdjgijndcjbpiaaDoorRows
import GoSem.ClaimSeven
namespace Go.Proofs.YtdjgijndcjbpiaaDoor
namespace Rows

/-- THE TIED CARD OF 'keellaw11.AdmitRuns'. -/
def admitRunsCard : Claim7 := { stood := { row := admitRunsRow, standIns := [], harness := (true, "10f81241bf39de9125d4ee5755810da0b2e455d1bef9cfe1ce3893d56b26d08b"), looks := true }, kinds := [], alts := [], laidByText := true, laidKinds := [.data, .data, .data, .sentinel, .sentinel], laidTests := true, laidLooks := .later }
def AdmitRunsCardSaid : Prop := Claim7.holds Tryd.pinned (.plain (OpenSpec.ofChange admitRunsSpec)) admitRunsCard

/-- THE TIED CARD OF 'keellaw12.RespondRuns'. -/
def respondRunsCard : Claim7 := { stood := { row := respondRunsRow, standIns := [], harness := (true, "10f81241bf39de9125d4ee5755810da0b2e455d1bef9cfe1ce3893d56b26d08b"), looks := true }, kinds := [], alts := [], laidByText := true, laidKinds := [.data, .data, .data, .sentinel, .sentinel], laidTests := true, laidLooks := .later }
def RespondRunsCardSaid : Prop := Claim7.holds Tryd.pinned (.plain (OpenSpec.ofChange respondRunsSpec)) respondRunsCard

/-- THE SECOND FORM's CARD OF 'keellaw11.AdmitRuns'. -/
def admitRunsUptoCard : Claim7 := { stood := { row := admitRunsUptoRow, standIns := [], harness := (true, "10f81241bf39de9125d4ee5755810da0b2e455d1bef9cfe1ce3893d56b26d08b"), looks := true }, kinds := [], alts := [], laidByText := true, laidKinds := [.data, .data, .data, .sentinel, .sentinel], laidTests := true, laidLooks := .later }
def AdmitRunsUptoCardSaid : Prop := Claim7.holds Tryd.pinned (.plain (OpenSpec.upto admitRunsSpec)) admitRunsUptoCard

/-- THE SECOND FORM's CARD OF 'keellaw12.RespondRuns'. -/
def respondRunsUptoCard : Claim7 := { stood := { row := respondRunsUptoRow, standIns := [], harness := (true, "10f81241bf39de9125d4ee5755810da0b2e455d1bef9cfe1ce3893d56b26d08b"), looks := true }, kinds := [], alts := [], laidByText := true, laidKinds := [.data, .data, .data, .sentinel, .sentinel], laidTests := true, laidLooks := .later }
def RespondRunsUptoCardSaid : Prop := Claim7.holds Tryd.pinned (.plain (OpenSpec.upto respondRunsSpec)) respondRunsUptoCard
end Rows
end Go.Proofs.YtdjgijndcjbpiaaDoor
