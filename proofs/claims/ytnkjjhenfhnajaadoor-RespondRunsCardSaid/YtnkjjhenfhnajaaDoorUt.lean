/-
  keellaw6.table, walked.
-/
import Derived.Test.YtnkjjhenfhnajaaDoorG24
import Derived.Test.YtnkjjhenfhnajaaDoorG20
import Derived.Test.YtnkjjhenfhnajaaDoorG20
import Derived.Test.YtnkjjhenfhnajaaDoorUd
import Derived.Deep.Cut
import Derived.Deep.DeepCutAuto
namespace Go
namespace Proofs.YtnkjjhenfhnajaaDoor
open Go.RowKit Go.Kw Go.Kreg Go.Tm
set_option linter.unusedSimpArgs false
set_option linter.unusedVariables false

theorem SlIn.own {w : World} {v : Value} {l : List Int} (h : Own w TI' 1 v l.length (intsC l)) (hl : l.length ≤ 1000000) : SlIn w v l := by
  rcases h.2 with ⟨rfl, h0⟩ | ⟨g, cap, cur, rfl, hb, hh, hn, hm, hs, ht⟩
  · have : l = [] := List.length_eq_zero_iff.1 h0
    subst this
    exact ⟨none, 0, rfl, by simp, by simp, by simp [maxLen], fun j x hj => by simp at hj, fun _ => rfl⟩
  · refine ⟨_, _, rfl, by omega, hn, hm, fun j x hj => ⟨g, 0, rfl, ?_⟩, (fun e => by cases e)⟩
    rw [Nat.zero_add]
    exact h.cells' (g := g) rfl (intsC_at hj)
section
variable {W w : World} {F : Nat → Prop}
end
end Proofs.YtnkjjhenfhnajaaDoor
end Go
