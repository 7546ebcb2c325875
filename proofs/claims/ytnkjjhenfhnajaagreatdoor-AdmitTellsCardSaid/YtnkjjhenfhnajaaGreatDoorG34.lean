/-
  Texts Uz2 Uw2 Uw3 Dd in one.
-/
import Derived.Test.YtnkjjhenfhnajaaGreatDoorG32
import Derived.Test.YtnkjjhenfhnajaaGreatDoorG25
import Derived.Test.YtnkjjhenfhnajaaGreatDoorG01
import Derived.Test.YtnkjjhenfhnajaaGreatDoorG10
import Derived.Deep.DeepAppendRoom
import Derived.Lib.SliceRun
import Derived.Deep.MidRow
/-
  shelf.Stack[api.Lock]: Len, At, Top of a stack that is not empty.
-/
namespace Go.Proofs.YtnkjjhenfhnajaaGreatDoor
open Go.RowKit Go.Kw Go.Kreg Go.Tm Go.Um
set_option linter.unusedSimpArgs false
set_option linter.unusedVariables false

section
variable {w : World} {p : Nat} {l : List Tkn} {sv : Value}
end
end Go.Proofs.YtnkjjhenfhnajaaGreatDoor

/-
  units.Table.of for a job that holds some locks.
-/
namespace Go.Proofs.YtnkjjhenfhnajaaGreatDoor
open Go.RowKit Go.Kw Go.Kreg Go.Tm Go.Um
set_option linter.unusedSimpArgs false
set_option linter.unusedVariables false

section
variable {w : World} {p : Nat} {m : UM} {x : UX}
end
section
variable {w : World} {F : Nat → Prop} {p : Nat} {m : UM}
end
end Go.Proofs.YtnkjjhenfhnajaaGreatDoor

/-
  units.Table.Lock for a job that holds some; Lock in all cases.
-/
namespace Go.Proofs.YtnkjjhenfhnajaaGreatDoor
open Go.RowKit Go.Kw Go.Kreg Go.Tm Go.Um
set_option linter.unusedSimpArgs false
set_option linter.unusedVariables false

section
variable {w : World} {F : Nat → Prop} {p : Nat} {m : UM}
end
end Go.Proofs.YtnkjjhenfhnajaaGreatDoor

/-
  Laws for slices.Delete in place: an append that moves cells within one row, and clear of a row's spare room. No program.
-/
namespace Go
namespace Kw
open Go.RowKit
set_option linter.unusedSimpArgs false
set_option linter.unusedVariables false
section
variable {P : Program} {w w0 : World} {F0 : Nat → Prop} {cs : List Ch}
/-- A row without element number i. -/
def cutOut (sz i : Nat) (xs : List Value) : List Value := xs.take (i * sz) ++ xs.drop ((i + 1) * sz)
/-- A cell behind what a row holds may turn. -/
theorem Own.spare {w : World} {T : TypeId} {sz g n cap : Nat} {xs : List Value} (h : Own w T sz (.slice (some ⟨g, 0, none⟩) n cap) n xs) {o : Nat} (ho : n * sz ≤ o) (u : Value) : Own (w.setCell ⟨g, o, none⟩ u) T sz (.slice (some ⟨g, 0, none⟩) n cap) n xs := by
  obtain ⟨cur, hb, hcl, hnc, hcm, htk⟩ := Own.to_blk h
  have h2 := Own.of_blk (n := n) (hb.set o u) (by rw [List.length_set]; exact hcl) hnc hcm
  rw [List.take_set_of_le ho, htk] at h2
  exact h2
theorem St.spare (k : Nat) {T : TypeId} {sz g n cap : Nat} {xs : List Value} : ∀ (vs : List Value) (o : Nat) {w : World}, St F0 w0 cs w → cs.getD k .emp = .row T sz (.slice (some ⟨g, 0, none⟩) n cap) n xs → n * sz ≤ o → St F0 w0 cs (w.setCells g o vs)
  | [], _, _, hS, _, _ => hS
  | u :: vs, o, w, hS, hi, ho => by
    have h1 := hS.turn (w' := w.setCell ⟨g, o, none⟩ u) k (c' := .row T sz (.slice (some ⟨g, 0, none⟩) n cap) n xs) hi fun F hF => ⟨F, ⟨hF.1.spare ho u, hF.2⟩, (Keeps.refl F w).setCell (.inl ((hF.2 g).2 rfl)) _, fun _ => .inl⟩
    have hset : cs.set k (.row T sz (.slice (some ⟨g, 0, none⟩) n cap) n xs) = cs := by
      refine List.ext_getElem? fun j => ?_
      rw [List.getElem?_set]
      by_cases hkj : k = j
      · subst hkj
        rw [if_pos rfl]
        split
        · rename_i hlt
          rw [← hi, List.getD_eq_getElem?_getD, List.getElem?_eq_getElem hlt]; rfl
        · rename_i hlt
          rw [List.getElem?_eq_none (by omega)]
      · rw [if_neg hkj]
    rw [hset] at h1
    exact St.spare k vs (o + 1) h1 hi (by omega)
end
end Kw
end Go
