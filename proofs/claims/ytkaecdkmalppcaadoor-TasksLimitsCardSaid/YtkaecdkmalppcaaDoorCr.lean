/-
  What is parsed passes the check. No program.
-/
import Derived.Test.YtkaecdkmalppcaaDoorCt
namespace Go
namespace Cm

def runO : List Op → Int → Option Int
  | [], d => some d
  | o :: p, d => if fieldsOk o = false then none else if o.kind = 10 then (if d = 4 then none else runO p (d + 1)) else if o.kind = 11 then (if d = 0 then none else runO p (d - 1)) else runO p d
theorem runO_app : ∀ (p q : List Op) (d : Int), runO (p ++ q) d = (runO p d).bind (runO q)
  | [], _, _ => rfl
  | o :: p, q, d => by
    simp only [List.cons_append, runO]
    split
    · rfl
    · split
      · split
        · rfl
        · exact runO_app p q _
      · split
        · split
          · rfl
          · exact runO_app p q _
        · exact runO_app p q _
theorem check_run (len : Nat) : ∀ (p : List Op) (i : Nat) (d e : Int), runO p d = some e → ¬ 0 < e → checkFrom len p i d = (0, 0)
  | [], i, d, e, h, he => by
    obtain rfl : d = e := by simpa [runO] using h
    unfold checkFrom; rw [if_neg he]
  | o :: p, i, d, e, h, he => by
    unfold runO at h
    unfold checkFrom
    by_cases h1 : fieldsOk o = false
    · rw [if_pos h1] at h; cases h
    · rw [if_neg h1] at h ⊢
      by_cases h2 : o.kind = 10
      · rw [if_pos h2] at h ⊢
        by_cases h3 : d = 4
        · rw [if_pos h3] at h; cases h
        · rw [if_neg h3] at h ⊢; exact check_run len p _ _ e h he
      · rw [if_neg h2] at h ⊢
        by_cases h3 : o.kind = 11
        · rw [if_pos h3] at h ⊢
          by_cases h4 : d = 0
          · rw [if_pos h4] at h; cases h
          · rw [if_neg h4] at h ⊢; exact check_run len p _ _ e h he
        · rw [if_neg h3] at h ⊢; exact check_run len p _ _ e h he

theorem readF_ok {len : Int} {p : Place} {ps : List Place} {o : Op} {ts : List Tok} {r : Op × List Tok} (h : readF len (p :: ps) o ts = .ok r) :
    ∃ n ts', okP p n = true ∧ readF len ps (put p o n) ts' = .ok r := by
  cases ts with
  | nil => simp [readF] at h
  | cons t ts =>
    obtain ⟨i, w⟩ := t
    unfold readF at h
    split at h
    · rename_i n hn
      split at h
      · rename_i hp; exact ⟨n, ts, hp, h⟩
      · cases h
    · cases h
theorem readF_nil {len : Int} {o : Op} {ts : List Tok} {r : Op × List Tok} (h : readF len [] o ts = .ok r) : r = (o, ts) := by
  unfold readF at h; cases h; rfl
theorem read_fields {len : Int} {k : Nat} {ts : List Tok} {r : Op × List Tok} (hk : 1 ≤ k ∧ k ≤ 11) (h : readF len (places k) ⟨k, 0, 0, 0⟩ ts = .ok r) : fieldsOk r.1 = true ∧ r.1.kind = k := by
  have key : ∀ o : Op, o.kind = k → fieldsH (rowH k) o = true → fieldsOk o = true ∧ o.kind = k := fun o ho hf => by
    refine ⟨?_, ho⟩
    unfold fieldsOk
    rw [if_neg (by omega), ho, Int.toNat_natCast]; exact hf
  have hH : rowH k = 1 ∨ rowH k = 2 ∨ rowH k = 3 ∨ rowH k = 4 ∨ rowH k = 0 := by unfold rowH; split <;> simp
  unfold places at h
  rcases hH with e | e | e | e | e <;> rw [e] at h
  · obtain ⟨a, t1, h1, h⟩ := readF_ok h
    obtain ⟨b, t2, h2, h⟩ := readF_ok h
    rw [readF_nil h]
    simp only [okP, decide_eq_true_eq] at h1 h2
    refine key _ rfl ?_
    rw [e]; simp [fieldsH, put]; omega
  · obtain ⟨a, t1, h1, h⟩ := readF_ok h
    rw [readF_nil h]
    simp only [okP, decide_eq_true_eq] at h1
    refine key _ rfl ?_
    rw [e]; simp [fieldsH, put]; omega
  · obtain ⟨a, t1, h1, h⟩ := readF_ok h
    rw [readF_nil h]
    refine key _ rfl ?_
    rw [e]; simp [fieldsH, put]
  · obtain ⟨a, t1, h1, h⟩ := readF_ok h
    rw [readF_nil h]
    simp only [okP, decide_eq_true_eq] at h1
    refine key _ rfl ?_
    rw [e]; simp [fieldsH, put]; omega
  · rw [readF_nil h]
    refine key _ rfl ?_
    rw [e]; simp [fieldsH]
theorem one_fields {len : Int} {k : Nat} {ts : List Tok} {o : Op} {ts' : List Tok} (hk : 1 ≤ k ∧ k ≤ 11) (h : one len k ts = .ok (o, ts')) : fieldsOk o = true ∧ o.kind = k := by
  unfold one at h
  split at h
  · cases h
  · rename_i o1 ts1 hr
    have := read_fields hk hr
    split at h
    · split at h
      · cases h
      · cases h; exact this
    · cases h; exact this
theorem kindFrom_le (w : List UInt8) : ∀ f k : Nat, kindFrom w f k ≤ k + f
  | 0, k => by simp [kindFrom]
  | f + 1, k => by
    unfold kindFrom
    split
    · omega
    · have := kindFrom_le w f (k + 1); omega
theorem kindOf_le (w : List UInt8) : kindOf w ≤ 11 := by
  unfold kindOf kindFrom
  split
  · omega
  · have h : ∀ f k : Nat, 1 ≤ k → k + f = 12 → kindFrom w f k ≤ 11 := by
      intro f
      induction f with
      | zero => intro k _ _; simp [kindFrom]
      | succ f ih =>
        intro k h1 h2
        unfold kindFrom
        split
        · omega
        · exact ih (k + 1) (by omega) (by omega)
    exact h 10 2 (by omega) (by omega)

theorem parseT_run {len : Int} : ∀ {f : Nat} {ts : List Tok} {ops : List Op} {opn : Int} {p : List Op}, ts.length ≤ f → parseT len f ts ops opn = .ok p → runO ops 0 = some opn → ops.length ≤ 256 → ∃ d, runO p 0 = some d ∧ ¬ 0 < d ∧ p.length ≤ 256
  | _, [], ops, opn, p, _, h, hr, hl => by
    unfold parseT at h
    split at h
    · cases h
    · rename_i hd
      cases h
      exact ⟨opn, hr, hd, hl⟩
  | 0, _ :: _, _, _, _, hf, _, _, _ => by simp at hf
  | f + 1, (i, w) :: ts, ops, opn, p, hf, h, hr, hl => by
    unfold parseT at h
    split at h
    · cases h
    · rename_i hb
      have hb : begins (kindOf w) ops.length opn = 0 := by simpa using hb
      unfold begins at hb
      split at hb
      · omega
      · rename_i h256
        split at hb
        · omega
        · rename_i hk
          split at hb
          · omega
          · rename_i hk4
            split at h
            · cases h
            · rename_i o ts' ho
              obtain ⟨hfo, hok⟩ := one_fields ⟨by omega, kindOf_le w⟩ ho
              have hlen : ts'.length ≤ f := by
                have : ∀ (len : Int) (k : Nat) (ts : List Tok) (o : Op) (ts' : List Tok), one len k ts = .ok (o, ts') → ts'.length ≤ ts.length := one_len
                have := this _ _ _ _ _ ho
                simp only [List.length_cons] at hf; omega
              refine parseT_run hlen h ?_ (by simp; omega)
              rw [runO_app, hr]
              simp only [Option.bind_some, runO]
              rw [if_neg (by simp [hfo]), hok]
              unfold nextOpen
              by_cases h10 : kindOf w = 10
              · rw [if_pos (by omega), if_pos h10, if_neg (by omega)]
              · rw [if_neg (by omega), if_neg h10]
                by_cases h11 : kindOf w = 11
                · rw [if_pos (by omega), if_pos h11, if_neg (by omega)]
                · rw [if_neg (by omega), if_neg h11]
where
  one_len : ∀ (len : Int) (k : Nat) (ts : List Tok) (o : Op) (ts' : List Tok), one len k ts = .ok (o, ts') → ts'.length ≤ ts.length := by
    have rd : ∀ (len : Int) (ps : List Place) (o : Op) (ts : List Tok) (r : Op × List Tok), readF len ps o ts = .ok r → r.2.length ≤ ts.length := by
      intro len ps
      induction ps with
      | nil => intro o ts r h; rw [readF_nil h]; exact Nat.le_refl _
      | cons p ps ih =>
        intro o ts r h
        cases ts with
        | nil => simp [readF] at h
        | cons t ts =>
          obtain ⟨i, w⟩ := t
          unfold readF at h
          split at h
          · split at h
            · have := ih _ _ _ h; simp; omega
            · cases h
          · cases h
    intro len k ts o ts' h
    unfold one at h
    split at h
    · cases h
    · rename_i o1 ts1 hr
      have := rd _ _ _ _ _ hr
      split at h
      · split at h
        · cases h
        · rename_i ts2 hb
          cases h
          unfold brace at hb
          split at hb
          · cases hb
          · split at hb
            · cases hb; simp at this; omega
            · cases hb
      · cases h; exact this

theorem parse_checks {l : List UInt8} {p : List Op} (h : parse l = .ok p) : (check p).2 = 0 := by
  unfold parse at h
  split at h
  · cases h
  · obtain ⟨d, h1, h2, h3⟩ := parseT_run (Nat.le_refl _) h rfl (by simp)
    unfold check
    rw [if_neg (by omega), check_run _ _ _ _ _ h1 h2]
theorem program_ok {l : List UInt8} {p : List Op} (h : parse l = .ok p) : program l = match playAll p with | (_, .long) => ([], 5) | (out, _) => (out, 0) := by
  unfold program
  rw [h]
  simp only [steps]
  rw [if_neg (by simp [parse_checks h])]
  rfl
end Cm
end Go
