/-
  Texts Ra Rl Rb Rf in one.
-/
import Derived.Test.YtnkjjhenfhnajaaDoorG05
import Derived.Test.YtnkjjhenfhnajaaDoorG12
import Derived.Test.YtnkjjhenfhnajaaDoorG06
/-
  The reference's small tests, walked: keelref4.Begins, gap.
-/
namespace Go.Proofs.YtnkjjhenfhnajaaDoor
open Go.RowKit Go.Kw Go.Kreg Go.Tm

section
variable {w : World} {v : Value}
end
end Go.Proofs.YtnkjjhenfhnajaaDoor

/-
  keelref3.Legal, walked.
-/
namespace Go.Proofs.YtnkjjhenfhnajaaDoor
open Go.RowKit Go.Kw Go.Kreg Go.Cm

end Go.Proofs.YtnkjjhenfhnajaaDoor

/-
  keelref3.bound and form, walked.
-/
namespace Go.Proofs.YtnkjjhenfhnajaaDoor
open Go.RowKit Go.Kw Go.Kreg Go.Cm

/-- The letters of the places. -/
def placeB : Cm.Place → Int
  | .r => 82 | .u => 78 | .s => 83 | .v => 86
end Go.Proofs.YtnkjjhenfhnajaaDoor

/-
  keelref3.form and words, walked.
-/
namespace Go.Proofs.YtnkjjhenfhnajaaDoor
open Go.RowKit Go.Kw Go.Kreg Go.Cm

/-- What stands behind an operation's word. -/
def formS : Nat → List UInt8
  | 1 => [82, 78] | 2 => [82] | 3 => [86] | 5 => [83] | 6 => [82] | 7 => [82] | 10 => [83, 66] | _ => []
/-- The words' row. -/
def wordsC : List Value := (List.range 12).map fun k => .string ⟨(rowW k).toArray⟩
end Go.Proofs.YtnkjjhenfhnajaaDoor
