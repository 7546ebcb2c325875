/-
  Texts Rck Rst in one.
-/
import Derived.Test.YtnkjjhenfhnajaaDoorRfi
import Derived.Test.YtnkjjhenfhnajaaDoorRpl
import Derived.Test.YtnkjjhenfhnajaaDoorG09
/-
  keelref3.Check, walked.
-/
namespace Go.Proofs.YtnkjjhenfhnajaaDoor
open Go.RowKit Go.Kw Go.Kreg Go.Cm
set_option linter.unusedSimpArgs false
set_option linter.unusedVariables false

section
variable {w : World} {F : Nat → Prop} {v : Value} {p : List Cm.Op}
end
end Go.Proofs.YtnkjjhenfhnajaaDoor

/-
  keelref3.Steps, walked.
-/
namespace Go.Proofs.YtnkjjhenfhnajaaDoor
open Go.RowKit Go.Kw Go.Kreg Go.Cm
set_option linter.unusedSimpArgs false
set_option linter.unusedVariables false

section
variable {w : World} {F : Nat → Prop} {v : Value} {p : List Cm.Op}
theorem steps_eq {p : List Cm.Op} (hc : (check p).2 = 0) {r : List Cm.Op × Stt} (hr : playAll p = r) : Cm.steps p = (if r.2 = .long then [] else r.1, if r.2 = .long then 5 else 0) := by
  unfold Cm.steps
  rw [if_neg (by simp [hc]), hr]
  obtain ⟨o, s⟩ := r
  cases s <;> rfl
theorem steps_no {p : List Cm.Op} (hc : (check p).2 ≠ 0) : Cm.steps p = ([], (check p).2) := by
  unfold Cm.steps
  rw [if_pos hc]
end
end Go.Proofs.YtnkjjhenfhnajaaDoor
