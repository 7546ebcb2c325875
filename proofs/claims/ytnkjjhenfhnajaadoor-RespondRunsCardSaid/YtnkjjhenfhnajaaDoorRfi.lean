/-
  keelref3.fits and Check, walked.
-/
import Derived.Test.YtnkjjhenfhnajaaDoorG17
import Derived.Test.YtnkjjhenfhnajaaDoorG17
import Derived.Test.YtnkjjhenfhnajaaDoorG19
import Derived.Test.YtnkjjhenfhnajaaDoorG20
namespace Go.Proofs.YtnkjjhenfhnajaaDoor
open Go.RowKit Go.Kw Go.Kreg Go.Cm
set_option linter.unusedSimpArgs false
set_option linter.unusedVariables false

theorem eqOpB (w : World) (x y : Cm.Op) : (binOp .eql TOp (.agg #[.int .i64 x.kind, .int .i64 x.res, .int .i64 x.n, .int .i64 x.v]) (.agg #[.int .i64 y.kind, .int .i64 y.res, .int .i64 y.n, .int .i64 y.v])).run Tryd.prog w = .ok (.bool (decide (x = y))) w := by
  have h := eqOp w x y
  simp only [binOp]
  simp [Op.equal, Op.maxDepth, h]
def okB (c : UInt8) (o : Cm.Op) : Bool := if c = 82 then okP .r o.res else if c = 78 then okP .u o.n else if c = 83 then okP .s o.n else true
def stepW (c : UInt8) (o want : Cm.Op) : Cm.Op := if c = 82 then { want with res := o.res } else if c = 78 ∨ c = 83 then { want with n := o.n } else if c = 86 then { want with v := o.v } else want
def fitsFrom (o : Cm.Op) : List UInt8 → Cm.Op → Bool
  | [], want => decide (o = want)
  | c :: l, want => if okB c o then fitsFrom o l (stepW c o want) else false
theorem fitsFrom_eq (o : Cm.Op) (K : Nat) (h1 : 1 ≤ K) (h2 : K ≤ 11) (hK : o.kind = K) : fitsFrom o (formS K) ⟨K, 0, 0, 0⟩ = fieldsOk o := by
  have hfk : fieldsOk o = fieldsH (rowH K) o := by unfold fieldsOk; rw [if_neg (by omega), hK]; rfl
  rw [hfk]
  obtain ⟨a, b, c, d⟩ := o
  obtain rfl : a = K := hK
  obtain rfl | rfl | rfl | rfl | rfl | rfl | rfl | rfl | rfl | rfl | rfl : K = 1 ∨ K = 2 ∨ K = 3 ∨ K = 4 ∨ K = 5 ∨ K = 6 ∨ K = 7 ∨ K = 8 ∨ K = 9 ∨ K = 10 ∨ K = 11 := by omega
  all_goals
    simp only [formS, fitsFrom, okB, stepW, rowH, fieldsH, okP]
    rw [Bool.eq_iff_iff]
    simp
    try omega
theorem formS_in (K : Nat) : ∀ c ∈ formS K, c = 82 ∨ c = 78 ∨ c = 83 ∨ c = 86 ∨ c = 66 := by
  intro c hc
  unfold formS at hc
  split at hc <;> simp at hc <;> first | (rcases hc with rfl | rfl <;> simp) | (subst hc; simp)
theorem formS_len (K : Nat) : (formS K).length ≤ 2 := by
  unfold formS
  split <;> simp
section
variable {w : World}
end
end Go.Proofs.YtnkjjhenfhnajaaDoor
