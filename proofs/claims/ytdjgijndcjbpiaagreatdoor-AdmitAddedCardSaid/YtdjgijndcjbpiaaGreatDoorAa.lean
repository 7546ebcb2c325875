/-
  What stands in a sound program's steps. No program.
-/
import Derived.Test.YtdjgijndcjbpiaaGreatDoorCe
namespace Go
namespace Cm
/-- All steps are so; a finish stands last alone. -/
def Sd (P : Op → Prop) (r : List Op × Stt) : Prop :=
  (∀ o ∈ r.1, P o) ∧ (r.2 = .go → ∀ o ∈ r.1, o.kind ≠ 9) ∧ (r.2 = .done → ∃ l o, r.1 = l ++ [o] ∧ o.kind = 9 ∧ ∀ x ∈ l, x.kind ≠ 9)
structure Clean (P : Op → Prop) (out : List Op) : Prop where
  all : ∀ o ∈ out, P o
  no9 : ∀ o ∈ out, o.kind ≠ 9
theorem sd_of {P : Op → Prop} {out : List Op} (h : Clean P out) : Sd P (out, .go) := ⟨h.all, fun _ => h.no9, fun e => by cases e⟩
theorem Sd.clean {P : Op → Prop} {out : List Op} (h : Sd P (out, .go)) : Clean P out := ⟨h.1, h.2.1 rfl⟩
theorem sd_step {P : Op → Prop} {o : Op} {out : List Op} (ho : P o) (h : Clean P out) : Sd P (step o out) := by
  unfold step
  split
  · exact ⟨h.all, (fun e => by cases e), (fun e => by cases e)⟩
  · have ha : ∀ x ∈ out ++ [o], P x := fun x hx => by
      rcases List.mem_append.1 hx with hx | hx
      · exact h.all x hx
      · rw [List.mem_singleton.1 hx]; exact ho
    by_cases hk : o.kind = 9
    · rw [if_pos hk]; exact ⟨ha, (fun e => by cases e), fun _ => ⟨out, o, rfl, hk, h.no9⟩⟩
    · rw [if_neg hk]
      refine ⟨ha, fun _ x hx => ?_, fun e => by cases e⟩
      rcases List.mem_append.1 hx with hx | hx
      · exact h.no9 x hx
      · rw [List.mem_singleton.1 hx]; exact hk
theorem sd_times {P : Op → Prop} {o : Op} (ho : P o) : ∀ (n : Nat) {out : List Op}, Clean P out → Sd P (times o n out)
  | 0, out, h => sd_of h
  | n + 1, out, h => by
    unfold times
    have h1 := sd_step ho h
    generalize step o out = r at *
    obtain ⟨q, s⟩ := r
    cases s
    · exact sd_times ho n h1.clean
    · exact h1
    · exact h1
theorem sd_rep {P : Op → Prop} {f : List Op → List Op × Stt} (hf : ∀ {o}, Clean P o → Sd P (f o)) (was : Nat) : ∀ (n : Nat) {out : List Op}, Clean P out → Sd P (rep f was n out)
  | 0, out, h => sd_of h
  | n + 1, out, h => by
    unfold rep
    have h1 := hf h
    generalize f out = r at *
    obtain ⟨q, s⟩ := r
    cases s
    · simp only
      split
      · exact h1
      · exact sd_rep hf was n h1.clean
    · exact h1
    · exact h1
theorem sd_play {P : Op → Prop} (hw : P work) : ∀ (f : Nat) {p out : List Op}, (∀ o ∈ p, o.kind ≠ 10 → P o) → Clean P out → Sd P (play f p out)
  | 0, p, out, _, h => by simpa [play] using sd_of h
  | f + 1, [], out, _, h => by simpa [play] using sd_of h
  | f + 1, o :: p, out, hp, h => by
    have hp' : ∀ x ∈ p, x.kind ≠ 10 → P x := fun x hx => hp x (List.mem_cons_of_mem _ hx)
    unfold play
    split
    · simp only
      have h1 := sd_rep (P := P) (fun {q} hq => sd_play hw f (p := p.take (shut (o :: p) 0 - 1)) (out := q) (fun x hx => hp' x (List.mem_of_mem_take hx)) hq) out.length o.n.toNat h
      generalize rep (play f (p.take (shut (o :: p) 0 - 1))) out.length o.n.toNat out = r at *
      obtain ⟨q, s⟩ := r
      cases s
      · exact sd_play hw f (fun x hx => hp' x (List.mem_of_mem_drop hx)) h1.clean
      · exact h1
      · exact h1
    · split
      · have h1 := sd_times hw o.n.toNat h
        generalize times work o.n.toNat out = r at *
        obtain ⟨q, s⟩ := r
        cases s
        · exact sd_play hw f hp' h1.clean
        · exact h1
        · exact h1
      · rename_i h10 h5
        have h1 := sd_step (hp o (by simp) h10) h
        generalize step o out = r at *
        obtain ⟨q, s⟩ := r
        cases s
        · exact sd_play hw f hp' h1.clean
        · exact h1
        · exact h1
theorem sd_all {P : Op → Prop} (hw : P work) (hn : P finish) {p : List Op} (hp : ∀ o ∈ p, o.kind ≠ 10 → P o) : Sd P (playAll p) := by
  unfold playAll
  have h1 := sd_play hw (p.length + 1) (p := p) (out := []) hp ⟨by simp, by simp⟩
  generalize play (p.length + 1) p [] = r at *
  obtain ⟨q, s⟩ := r
  cases s
  · exact sd_step hn h1.clean
  · exact h1
  · exact h1
theorem parse_err {l : List UInt8} {i e : Int} (h : parse l = .err i e) : e ≠ 0 := by
  have : okE e := by
    unfold parse at h
    split at h
    · simp only [Res.err.injEq] at h
      exact .inr (.inl h.2.symm)
    · exact parseT_err h
  unfold okE at this
  omega
theorem playAll_end (p : List Op) : (playAll p).2 ≠ .go := by
  unfold playAll
  generalize play (p.length + 1) p [] = r
  obtain ⟨q, s⟩ := r
  cases s
  · simp only
    unfold step
    split
    · intro h; cases h
    · rw [if_pos (by rfl)]; intro h; cases h
  · intro h; cases h
  · intro h; cases h
/-- A step of a sound program. -/
structure StepOk (o : Op) : Prop where
  res : 0 ≤ o.res ∧ o.res < 16
  lock : o.kind = 1 → 1 ≤ o.n
  n : 0 ≤ o.n ∧ o.n ≤ 4096
  kind : 1 ≤ o.kind ∧ o.kind ≤ 11
theorem fields_step {o : Op} (h : fieldsOk o = true) : StepOk o := by
  have hk := fieldsOk_kind h
  unfold fieldsOk at h
  rw [if_neg (by omega)] at h
  obtain ⟨k, hkk⟩ : ∃ k : Nat, o.kind = k := ⟨o.kind.toNat, by omega⟩
  rw [hkk, Int.toNat_natCast] at h
  have hk1 : 1 ≤ k ∧ k ≤ 11 := by omega
  have hr : (rowH k = 1 → k = 1) ∧ (k = 1 → rowH k = 1) := by
    obtain ⟨h1, h2⟩ := hk1
    have : k = 1 ∨ k = 2 ∨ k = 3 ∨ k = 4 ∨ k = 5 ∨ k = 6 ∨ k = 7 ∨ k = 8 ∨ k = 9 ∨ k = 10 ∨ k = 11 := by omega
    rcases this with rfl | rfl | rfl | rfl | rfl | rfl | rfl | rfl | rfl | rfl | rfl <;> simp [rowH]
  generalize rowH k = q at *
  unfold fieldsH at h
  refine ⟨?_, fun hk => ?_, ?_, hk⟩
  · split at h <;> simp at h <;> omega
  · have : q = 1 := hr.2 (by omega)
    subst this
    simp at h; omega
  · split at h <;> simp at h <;> omega
theorem program_sound {l : List UInt8} (h : (program l).2 = 0) : ∃ q o, (program l).1 = q ++ [o] ∧ o.kind = 9 ∧ (∀ x ∈ q, x.kind ≠ 9) ∧ (∀ x ∈ q ++ [o], StepOk x) := by
  unfold program at h ⊢
  cases hp : parse l with
  | err i e =>
    rw [hp] at h
    simp only at h
    have := parse_err hp
    omega
  | ok p =>
    rw [hp] at h
    have hc := parse_checks hp
    have hf := (check_ok hc).2.2.2
    simp only at h ⊢
    unfold steps at h ⊢
    rw [if_neg (by omega)] at h ⊢
    have hs := sd_all (P := StepOk) (p := p) ⟨by decide, by decide, by decide, by decide⟩ ⟨by decide, by decide, by decide, by decide⟩ (fun o ho _ => fields_step (hf o ho))
    have hl := playAll_end p
    generalize playAll p = r at *
    obtain ⟨q, s⟩ := r
    cases s
    · exact absurd rfl hl
    · obtain ⟨l2, o, e, h9, hno⟩ := hs.2.2 rfl
      simp only at e h ⊢
      refine ⟨l2, o, e, h9, hno, ?_⟩
      rw [← e]; exact hs.1
    · simp at h
theorem prog_le (l : List UInt8) : (program l).1.length ≤ 4096 := by
  cases hp : parse l with
  | err i e =>
    have : (program l).1 = [] := by unfold program; rw [hp]
    rw [this]; simp
  | ok p =>
    rw [program_ok hp]
    have h1 : (playAll p).1.length ≤ 4096 := thn_len (playS_len p [] (by simp)) (f := step finish) fun o h => step_len h
    generalize playAll p = r at *
    obtain ⟨o, s⟩ := r
    cases s <;> simp <;> exact h1
end Cm
end Go
