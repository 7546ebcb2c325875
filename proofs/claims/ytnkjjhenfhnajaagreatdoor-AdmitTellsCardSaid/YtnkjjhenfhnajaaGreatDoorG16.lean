/-
  Texts Uz Us in one.
-/
import Derived.Test.YtnkjjhenfhnajaaGreatDoorG12
import Derived.Test.YtnkjjhenfhnajaaGreatDoorG13
/-
  shelf.Stack[int] and ceil.Stack, walked.
-/
namespace Go.Proofs.YtnkjjhenfhnajaaGreatDoor
open Go.RowKit Go.Kw Go.Kreg Go.Tm
set_option linter.unusedSimpArgs false
set_option linter.unusedVariables false

abbrev TIs : Nat := 22
def stkCs (p : Nat) (T : TypeId) (sv : Value) (l : List Int) : List Ch := [.pt p T [sv], .row TI' 1 sv l.length (intsC l)]
def stkC (p : Nat) (T : TypeId) (l : List Int) : Ch := .ex fun sv => .stars (stkCs p T sv l)
theorem intsC_take (l : List Int) (k : Nat) : (intsC l).take k = intsC (l.take k) := by simp [intsC, List.map_take]
section
variable {w : World} {F : Nat → Prop} {p : Nat} {T : TypeId} {l : List Int} {sv : Value}
def topOf (l : List Int) : Int := l.getLast?.getD 0
end
end Go.Proofs.YtnkjjhenfhnajaaGreatDoor

/-
  ceil.Stack, walked.
-/
namespace Go.Proofs.YtnkjjhenfhnajaaGreatDoor
open Go.RowKit Go.Kw Go.Kreg Go.Tm
set_option linter.unusedSimpArgs false
set_option linter.unusedVariables false

section
variable {w : World} {F : Nat → Prop} {p : Nat} {T : TypeId} {l : List Int} {sv : Value}
end
end Go.Proofs.YtnkjjhenfhnajaaGreatDoor
