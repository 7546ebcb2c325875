/-
  Which refusals a program's text has; when a task is refused for the stack. No program.
-/
import Derived.Test.YtkaecdkmalppcaaDoorTl
import Derived.Test.YtkaecdkmalppcaaDoorCr
namespace Go
namespace Cm
def okE (e : Int) : Prop := e = 4 ∨ e = 5 ∨ e = 30 ∨ e = 31 ∨ e = 32
theorem readF_err {len : Int} : ∀ {ps : List Place} {o : Op} {ts : List Tok} {i e : Int}, readF len ps o ts = .err i e → okE e
  | [], _, _, _, _, h => by simp [readF] at h
  | _ :: _, _, [], _, _, h => by simp only [readF, Res.err.injEq] at h; exact .inr (.inr (.inr (.inl h.2.symm)))
  | p :: ps, o, (i, w) :: ts, j, e, h => by
    unfold readF at h
    split at h
    · split at h
      · exact readF_err h
      · simp only [Res.err.injEq] at h; exact .inr (.inr (.inl h.2.symm))
    · simp only [Res.err.injEq] at h; exact .inr (.inr (.inl h.2.symm))
theorem one_err {len : Int} {k : Nat} {ts : List Tok} {i e : Int} (h : one len k ts = .err i e) : okE e := by
  unfold one at h
  split at h
  · rename_i i' e' hr
    simp only [Res.err.injEq] at h
    rw [← h.2]; exact readF_err hr
  · split at h
    · split at h
      · rename_i i' e' hb
        simp only [Res.err.injEq] at h
        rw [← h.2]
        unfold brace at hb
        split at hb
        · simp only [Res.err.injEq] at hb; exact .inr (.inr (.inr (.inl hb.2.symm)))
        · split at hb
          · cases hb
          · simp only [Res.err.injEq] at hb; exact .inr (.inr (.inl hb.2.symm))
      · cases h
    · cases h
theorem parseT_err {len : Int} : ∀ {f : Nat} {ts : List Tok} {ops : List Op} {opn i e : Int}, parseT len f ts ops opn = .err i e → okE e
  | _, [], ops, opn, i, e, h => by
    unfold parseT at h
    split at h
    · simp only [Res.err.injEq] at h; exact .inr (.inr (.inr (.inl h.2.symm)))
    · cases h
  | 0, _ :: _, _, _, _, _, h => by simp [parseT] at h
  | f + 1, (i, w) :: ts, ops, opn, j, e, h => by
    unfold parseT at h
    split at h
    · rename_i hb
      simp only [Res.err.injEq] at h
      rw [← h.2]
      unfold begins at hb ⊢
      split
      · exact .inl rfl
      · rename_i h1
        rw [if_neg h1] at hb
        split
        · exact .inr (.inr (.inl rfl))
        · rename_i h2
          rw [if_neg h2] at hb
          split
          · exact .inr (.inr (.inr (.inr rfl)))
          · rename_i h3
            rw [if_neg h3] at hb; exact absurd rfl hb
    · split at h
      · rename_i i' e' ho
        simp only [Res.err.injEq] at h
        rw [← h.2]; exact one_err ho
      · exact parseT_err h
theorem program_err (l : List UInt8) : (program l).2 = 0 ∨ okE (program l).2 := by
  cases hp : parse l with
  | err i e =>
    have : (program l).2 = e := by unfold program; rw [hp]
    rw [this]
    unfold parse at hp
    split at hp
    · simp only [Res.err.injEq] at hp; exact .inr (.inr (.inl hp.2.symm))
    · exact .inr (parseT_err hp)
  | ok p =>
    rw [program_ok hp]
    split
    · exact .inr (.inr (.inl rfl))
    · exact .inl rfl
end Cm
namespace Tm
theorem needsFrom_err {us : List Int} : ∀ {l : List Need} {pre : Option Need}, needsFrom us pre l = 0 ∨ needsFrom us pre l = 1 ∨ needsFrom us pre l = 21
  | [], _ => .inl rfl
  | n :: l, pre => by
    unfold needsFrom
    by_cases hr : n.res < 0 ∨ (us.length : Int) ≤ n.res ∨ n.units < 1 ∨ us.getD n.res.toNat 0 < n.units
    · rw [if_pos hr]; exact .inr (.inl rfl)
    · rw [if_neg hr]
      cases pre with
      | none => simp only [Bool.false_eq_true, if_false]; exact needsFrom_err
      | some p =>
        by_cases hq : n.res ≤ p.res
        · simp [hq]
        · simp only [hq, decide_false, Bool.false_eq_true, if_false]; exact needsFrom_err
/-- Refused for the stack: just if the sum with it would pass. -/
theorem check_stack {m : TM} {x : Task} (h : m.check x = 25) : m.words < withOne m.ts x.level x.frame ∧ ¬ bad x.level x.frame := by
  unfold TM.check at h
  split at h
  · have := Cm.program_err x.code.data.toList
    unfold prog at h
    rw [h] at this
    unfold Cm.okE at this
    omega
  · split at h
    · omega
    · split at h
      · omega
      · split at h
        · omega
        · rename_i hb
          split at h
          · have h1 := needsFrom_err (us := m.units) (l := x.needs) (pre := none)
            unfold needsErr at h
            omega
          · split at h
            · omega
            · split at h
              · rename_i hw
                exact ⟨hw, fun hbad => hb (.inl hbad)⟩
              · omega
/-- A task whose frame is no larger than its level's is not refused for the stack. -/
theorem check_frame {m : TM} (hm : m.Ok) {x : Task} (h : m.check x = 25) : largest m.ts x.level < x.frame := by
  obtain ⟨h1, h2⟩ := check_stack h
  unfold withOne at h1
  rw [if_neg h2] at h1
  have := hm.room
  omega
end Tm
end Go
