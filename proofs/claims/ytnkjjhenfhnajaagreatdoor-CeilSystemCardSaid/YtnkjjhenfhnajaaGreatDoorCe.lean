/-
  The last of a program's steps is a finish. No program.
-/
import Derived.Test.YtnkjjhenfhnajaaGreatDoorG04
namespace Go
namespace Cm
/-- If it is done, the last is a finish. -/
def Fin (r : List Op × Stt) : Prop := r.2 = .done → ∃ l o, r.1 = l ++ [o] ∧ o.kind = 9
theorem fin_step (o : Op) (out : List Op) : Fin (step o out) := by
  unfold step Fin
  split
  · intro h; cases h
  · intro h
    by_cases hk : o.kind = 9
    · exact ⟨out, o, rfl, hk⟩
    · simp [hk] at h
theorem fin_times (o : Op) : ∀ (n : Nat) (out : List Op), Fin (times o n out)
  | 0, out => by intro h; cases h
  | n + 1, out => by
    unfold times
    have h1 := fin_step o out
    generalize step o out = r at *
    obtain ⟨q, s⟩ := r
    cases s
    · exact fin_times o n q
    · exact h1
    · intro h; cases h
theorem fin_rep {f : List Op → List Op × Stt} (hf : ∀ o, Fin (f o)) (was : Nat) : ∀ (n : Nat) (out : List Op), Fin (rep f was n out)
  | 0, out => by intro h; cases h
  | n + 1, out => by
    unfold rep
    have h1 := hf out
    generalize f out = r at *
    obtain ⟨q, s⟩ := r
    cases s
    · simp only
      split
      · intro h; cases h
      · exact fin_rep hf was n q
    · exact h1
    · intro h; cases h
theorem fin_play : ∀ (f : Nat) (p out : List Op), Fin (play f p out)
  | 0, p, out => by intro h; simp [play] at h
  | f + 1, [], out => by intro h; simp [play] at h
  | f + 1, o :: p, out => by
    unfold play
    split
    · simp only
      have h1 := fin_rep (fin_play f (p.take (shut (o :: p) 0 - 1))) out.length o.n.toNat out
      generalize rep (play f (p.take (shut (o :: p) 0 - 1))) out.length o.n.toNat out = r at *
      obtain ⟨q, s⟩ := r
      cases s
      · exact fin_play f _ q
      · exact h1
      · intro h; cases h
    · split
      · have h1 := fin_times work o.n.toNat out
        generalize times work o.n.toNat out = r at *
        obtain ⟨q, s⟩ := r
        cases s
        · exact fin_play f _ q
        · exact h1
        · intro h; cases h
      · have h1 := fin_step o out
        generalize step o out = r at *
        obtain ⟨q, s⟩ := r
        cases s
        · exact fin_play f _ q
        · exact h1
        · intro h; cases h
theorem fin_all (p : List Op) : Fin (playAll p) := by
  unfold playAll
  have h1 := fin_play (p.length + 1) p []
  generalize play (p.length + 1) p [] = r at *
  obtain ⟨q, s⟩ := r
  cases s
  · exact fin_step finish q
  · exact h1
  · intro h; cases h
end Cm
end Go
