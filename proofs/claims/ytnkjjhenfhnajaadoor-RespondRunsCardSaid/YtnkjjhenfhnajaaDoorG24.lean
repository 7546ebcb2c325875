/-
  Texts Rad Rae Raf in one.
-/
import Derived.Test.YtnkjjhenfhnajaaDoorRps
import Derived.Test.YtnkjjhenfhnajaaDoorG23
import Derived.Test.YtnkjjhenfhnajaaDoorG17
import Derived.Test.YtnkjjhenfhnajaaDoorG14
import Derived.Test.YtnkjjhenfhnajaaDoorG04
/-
  keelref4: program, Pattern, walked; the table's Sound, Check and Add as plain data.
-/
namespace Go
namespace Tm
/-- Check, but for the stack. -/
def TM.sound (m : TM) (x : Task) : Int :=
  if (prog x).2 ≠ 0 then (prog x).2
  else if Cm.legal x.name.data.toList = false then 2
  else if (find m.ts x.name).isSome then 3
  else if bad x.level x.frame ∨ timesOk x = false then 1
  else if needsErr m.units x.needs ≠ 0 then needsErr m.units x.needs
  else if 64 ≤ m.ts.length then 4
  else 0
theorem check_sound (m : TM) (x : Task) : m.check x = if m.sound x ≠ 0 then m.sound x else if m.words < withOne m.ts x.level x.frame then 25 else 0 := by
  unfold TM.check TM.sound
  split
  · first | rfl | simp_all
  · split
    · first | rfl | simp_all
    · split
      · first | rfl | simp_all
      · split
        · first | rfl | simp_all
        · split
          · first | rfl | simp_all
          · split
            · first | rfl | simp_all
            · simp
theorem parse_err_ne {l : List UInt8} {a e : Int} (h : Cm.parse l = .err a e) : e ≠ 0 ∧ Cm.program l = ([], e) := by
  have hp : Cm.program l = ([], e) := by unfold Cm.program; rw [h]
  refine ⟨?_, hp⟩
  unfold Cm.parse at h
  split at h
  · simp only [Cm.Res.err.injEq] at h; omega
  · have := Cm.parseT_err h
    unfold Cm.okE at this
    omega
end Tm
namespace Proofs.YtnkjjhenfhnajaaDoor
open Go.RowKit Go.Kw Go.Kreg Go.Tm
set_option linter.unusedSimpArgs false
set_option linter.unusedVariables false

end Proofs.YtnkjjhenfhnajaaDoor
end Go

/-
  The reference's table of tasks: Sound and Check, walked.
-/
namespace Go.Proofs.YtnkjjhenfhnajaaDoor
open Go.RowKit Go.Kw Go.Kreg Go.Tm
set_option linter.unusedSimpArgs false
set_option linter.unusedVariables false

abbrev taskL (x : Task) (nd : Value) : List Value := [.string x.name, .int .i64 x.level, .int .i64 x.frame, nd, .string x.code, .int .i64 x.period, .int .i64 x.first, .int .i64 x.gap]
section
variable {w : World} {p : Nat} {m : TM} {y : RefX}
end
end Go.Proofs.YtnkjjhenfhnajaaDoor

/-
  The reference's table of tasks: Check and Add, walked.
-/
namespace Go.Proofs.YtnkjjhenfhnajaaDoor
open Go.RowKit Go.Kw Go.Kreg Go.Tm
set_option linter.unusedSimpArgs false
set_option linter.unusedVariables false

section
variable {w : World} {F : Nat → Prop} {p : Nat} {m : TM} {y : RefX}
end
end Go.Proofs.YtnkjjhenfhnajaaDoor
