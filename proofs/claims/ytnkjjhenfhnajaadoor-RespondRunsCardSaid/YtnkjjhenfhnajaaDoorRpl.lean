/-
  keelref3's run: play, walked.
-/
import Derived.Test.YtnkjjhenfhnajaaDoorG19
namespace Go.Proofs.YtnkjjhenfhnajaaDoor
open Go.RowKit Go.Kw Go.Kreg Go.Cm

abbrev qrow (g cap : Nat) (q : List Cm.Op) : Ch := .row TOp 4 (.slice (some ⟨g, 0, none⟩) q.length cap) q.length (opsC q)
theorem times_nodone {o : Cm.Op} (h : o.kind ≠ 9) {out : List Cm.Op} : (Cm.step o out).2 ≠ .done := by
  by_cases hl : out.length = 4096
  · rw [step_full hl]; simp
  · rw [step_room hl h]; simp
theorem thn_out (o : List Cm.Op) (s : Stt) (f : List Cm.Op → List Cm.Op × Stt) (h : s ≠ .go) : thn (o, s) f = (o, s) := thn_no f h
theorem rep_thn (f : List Cm.Op → List Cm.Op × Stt) (was m : Nat) (o : List Cm.Op) (s : Stt) : thn (o, s) (fun out' => if out'.length = was then (out', .go) else rep f was m out') = if o.length = was then (o, s) else thn (o, s) (rep f was m) := by
  by_cases hs : s = .go
  · subst hs; rw [thn_go, thn_go]
  · rw [thn_no _ hs, thn_no _ hs]; split <;> rfl
theorem rep_none (f : List Cm.Op → List Cm.Op × Stt) (was : Nat) (o : List Cm.Op) (s : Stt) : thn (o, s) (rep f was 0) = (o, s) := by cases s <;> rfl
theorem times_none (u : Cm.Op) (o : List Cm.Op) (s : Stt) : thn (o, s) (times u 0) = (o, s) := by cases s <;> rfl
section
end
end Go.Proofs.YtnkjjhenfhnajaaDoor
