/-
  DERIVED. GIVEN WITH THE SEED: THE CARDS: each row of YtnkjjhenfhnajaaDoorRows.lean that lists a variable, with what it lists TIED to the program's text (the seventh form; the later family's looks); each row that meets fmt, with fmt's text TOLD by the authors' own Lean function (tested against real Go, not proved from fmt's source: count such statements apart). THE CARD IS WHAT COUNTS. Prove the row's statement (the work); the ties are given (YtnkjjhenfhnajaaDoorTie.lean); close each card by the builder's one call (the guide's Derived/Test/ToyasCard.lean, 'card_holds'). Laid BY PROGRAM, IN A SANDBOX (cutbox-door.mjs). By AI agents, Wed Nov 11 2026. No macro, syntax, notation, axiom, sorry.
-/
import Derived.Test.YtnkjjhenfhnajaaDoorRows
import GoSem.ClaimSeven
namespace Go.Proofs.YtnkjjhenfhnajaaDoor
namespace Rows

/-- THE TIED CARD OF 'keellaw12.RespondRuns'. -/
def respondRunsCard : Claim7 := { stood := { row := respondRunsRow, standIns := [], harness := (true, "cc832326e623b847bd6f6325f03096ebef70b17e743b30cf86852842ec62a627"), looks := true }, kinds := [], alts := [], laidByText := true, laidKinds := [.data, .data, .data, .sentinel, .sentinel], laidTests := true, laidLooks := .later }
def RespondRunsCardSaid : Prop := Claim7.holds Tryd.pinned (.plain (OpenSpec.ofChange respondRunsSpec)) respondRunsCard

/-- THE SECOND FORM's CARD OF 'keellaw12.RespondRuns'. -/
def respondRunsUptoCard : Claim7 := { stood := { row := respondRunsUptoRow, standIns := [], harness := (true, "cc832326e623b847bd6f6325f03096ebef70b17e743b30cf86852842ec62a627"), looks := true }, kinds := [], alts := [], laidByText := true, laidKinds := [.data, .data, .data, .sentinel, .sentinel], laidTests := true, laidLooks := .later }
def RespondRunsUptoCardSaid : Prop := Claim7.holds Tryd.pinned (.plain (OpenSpec.upto respondRunsSpec)) respondRunsUptoCard
end Rows
end Go.Proofs.YtnkjjhenfhnajaaDoor
