/-
  The last of a program's steps is a finish. No program.
-/
import Derived.Test.YtnkjjhenfhnajaaGreatDoorG04
namespace Go
namespace Cm
/-- If it is done, the last is a finish. -/
def Fin (r : List Op × Stt) : Prop := r.2 = .done → ∃ l o, r.1 = l ++ [o] ∧ o.kind = 9
end Cm
end Go
