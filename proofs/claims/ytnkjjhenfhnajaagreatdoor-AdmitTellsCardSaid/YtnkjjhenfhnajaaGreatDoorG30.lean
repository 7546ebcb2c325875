/-
  Texts In Um Un2 in one.
-/
import Derived.WalkKit
/-
  Rows of numbers in rising order, each with a place. No program.
-/
namespace Go
namespace In

abbrev Row := Int × Nat
/-- Rising. -/
def Rise (ns : List Row) : Prop := ns.Pairwise fun a b => a.1 < b.1
/-- How many names stand below k. -/
def below (k : Int) (ns : List Row) : Nat := (ns.takeWhile fun a => decide (a.1 < k)).length

theorem below_le (k : Int) (ns : List Row) : below k ns ≤ ns.length := (List.takeWhile_prefix _).length_le
theorem below_cons (k : Int) (a : Row) (ns : List Row) : below k (a :: ns) = if a.1 < k then below k ns + 1 else 0 := by
  unfold below; rw [List.takeWhile_cons]; split <;> simp_all
/-- Ahead of that place all are less, from there on none is. -/
theorem below_iff {k : Int} : ∀ {ns : List Row}, Rise ns → ∀ {i : Nat} {a : Row}, ns[i]? = some a → (a.1 < k ↔ i < below k ns)
  | [], _, i, a, h => by simp at h
  | x :: ns, hr, i, a, h => by
    obtain ⟨h1, h2⟩ := List.pairwise_cons.1 hr
    rw [below_cons]
    cases i with
    | zero =>
      obtain rfl : x = a := by simpa using h
      split <;> simp_all
    | succ i =>
      have h : ns[i]? = some a := by simpa using h
      have ih := below_iff (k := k) h2 h
      split
      · rw [ih]; omega
      · rename_i hx
        constructor
        · intro ha; exact absurd (Int.lt_trans (h1 a (List.mem_of_getElem? h)) ha) hx
        · omega
/-- Whether k stands at that place. -/
def foundAt (k : Int) (ns : List Row) : Bool := match ns[below k ns]? with | some a => decide (a.1 = k) | none => false
theorem foundAt_iff {k : Int} {ns : List Row} (hr : Rise ns) : foundAt k ns = true ↔ ∃ a ∈ ns, a.1 = k := by
  unfold foundAt
  constructor
  · intro h
    split at h
    · rename_i a ha; exact ⟨a, List.mem_of_getElem? ha, by simpa using h⟩
    · cases h
  · rintro ⟨a, ha, rfl⟩
    obtain ⟨i, hi⟩ := List.getElem?_of_mem ha
    have h1 := below_iff (k := a.1) hr hi
    have h1 : ¬ i < below a.1 ns := fun h => by have := h1.2 h; omega
    have hlt := (List.getElem?_eq_some_iff.1 hi).1
    have hb : below a.1 ns < ns.length := by omega
    have h2 := List.getElem?_eq_getElem hb
    rw [h2]
    simp only [decide_eq_true_eq]
    have h3 := below_iff (k := a.1) hr h2
    rcases Nat.lt_or_ge (below a.1 ns) i with h | h
    · have h4 := (List.pairwise_iff_getElem.1 hr) _ _ hb hlt h
      rw [(List.getElem?_eq_some_iff.1 hi).2] at h4
      exact absurd (h3.1 h4) (by omega)
    · have e : below a.1 ns = i := by omega
      simp only [e]
      exact congrArg Prod.fst (List.getElem?_eq_some_iff.1 hi).2
/-- What k has. -/
def atOf (k : Int) (ns : List Row) : Nat := match ns[below k ns]? with | some a => a.2 | none => 0

/-- One more. -/
def laid (k : Int) (v : Nat) (ns : List Row) : List Row := ns.take (below k ns) ++ (k, v) :: ns.drop (below k ns)
theorem rise_laid {k : Int} {v : Nat} {ns : List Row} (h : Rise ns) (hk : ∀ a ∈ ns, a.1 ≠ k) : Rise (laid k v ns) := by
  unfold laid Rise
  rw [List.pairwise_append]
  have hs : (ns.take (below k ns) ++ ns.drop (below k ns)).Pairwise fun a b => a.1 < b.1 := by rw [List.take_append_drop]; exact h
  obtain ⟨h1, h2, h3⟩ := List.pairwise_append.1 hs
  have lo : ∀ a ∈ ns.take (below k ns), a.1 < k := fun a ha => by
    obtain ⟨i, hi⟩ := List.getElem?_of_mem ha
    rw [List.getElem?_take] at hi
    split at hi
    · rename_i hlt; exact (below_iff h hi).2 hlt
    · cases hi
  have hi : ∀ a ∈ ns.drop (below k ns), k < a.1 := fun a ha => by
    obtain ⟨i, hi⟩ := List.getElem?_of_mem ha
    rw [List.getElem?_drop] at hi
    have h4 := below_iff (k := k) h hi
    have h5 := hk a (List.mem_of_mem_drop ha)
    have h6 : ¬ a.1 < k := fun hq => by have := h4.1 hq; omega
    omega
  refine ⟨h1, List.pairwise_cons.2 ⟨hi, h2⟩, fun a ha b hb => ?_⟩
  rcases List.mem_cons.1 hb with rfl | hb
  · exact lo a ha
  · exact h3 a ha b hb
end In
end Go

/-
  Units that jobs hold, as plain data: the locks in the order in which they were taken. No program.
-/
namespace Go
namespace Um
set_option linter.unusedSimpArgs false
set_option linter.unusedVariables false

structure Tkn where
  job : Int
  res : Int
  n : Int
  deriving DecidableEq
structure UM where
  us : List Int
  l : List Tkn
  cs : List Int

def sumOf (p : Tkn → Bool) : List Tkn → Int
  | [] => 0
  | x :: l => (if p x then x.n else 0) + sumOf p l
theorem sumOf_app (p : Tkn → Bool) (l r : List Tkn) : sumOf p (l ++ r) = sumOf p l + sumOf p r := by
  induction l with
  | nil => simp [sumOf]
  | cons x l ih => simp only [List.cons_append, sumOf, ih]; omega
theorem sumOf_le {p q : Tkn → Bool} {l : List Tkn} (h : ∀ x ∈ l, 0 ≤ x.n) (hpq : ∀ x, p x = true → q x = true) : 0 ≤ sumOf p l ∧ sumOf p l ≤ sumOf q l := by
  induction l with
  | nil => simp [sumOf]
  | cons x l ih =>
    have := ih fun y hy => h y (by simp [hy])
    have := h x (by simp)
    simp only [sumOf]
    by_cases hp : p x = true
    · rw [if_pos hp, if_pos (hpq x hp)]; omega
    · rw [if_neg hp]; split <;> omega
theorem sumOf_none {p : Tkn → Bool} {l : List Tkn} (h : ∀ x ∈ l, p x = false) : sumOf p l = 0 := by
  induction l with
  | nil => rfl
  | cons x l ih => simp only [sumOf]; rw [if_neg (by simp [h x]), ih fun y hy => h y (by simp [hy])]; rfl
theorem sumOf_len {p : Tkn → Bool} {l : List Tkn} (h : ∀ x ∈ l, 1 ≤ x.n) : ((l.filter p).length : Int) ≤ sumOf p l := by
  induction l with
  | nil => simp [sumOf]
  | cons x l ih =>
    have := ih fun y hy => h y (by simp [hy])
    have := h x (by simp)
    simp only [sumOf, List.filter_cons]
    split <;> simp <;> omega

def ofRes (r : Int) (x : Tkn) : Bool := decide (x.res = r)
def ofJob (j : Int) (x : Tkn) : Bool := decide (x.job = j)
def ofBoth (j r : Int) (x : Tkn) : Bool := decide (x.job = j) && decide (x.res = r)
def UM.has (m : UM) (r : Int) : Prop := 0 ≤ r ∧ r < m.us.length
instance (m : UM) (r : Int) : Decidable (m.has r) := by unfold UM.has; infer_instance
def UM.tot (m : UM) (r : Int) : Int := m.us.getD r.toNat 0
def UM.free (m : UM) (r : Int) : Int := if m.has r then m.tot r - sumOf (ofRes r) m.l else 0
def UM.held (m : UM) (j r : Int) : Int := sumOf (ofBoth j r) m.l
def UM.frees (m : UM) : List Int := (List.range m.us.length).map fun (r : Nat) => m.tot (r : Int) - sumOf (ofRes (r : Int)) m.l
def heldL (l : List Tkn) (j : Int) : List Int := (List.range 16).map fun (r : Nat) => sumOf (ofBoth j (r : Int)) l
def UM.lockErr (m : UM) (j r n need : Int) : Int :=
  if j < 0 ∨ ¬ m.has r ∨ n < 1 ∨ m.tot r < n then 1 else if need < n + m.held j r then 22 else if m.free r < n then 20 else 0
def UM.lock (m : UM) (j r n need : Int) : UM := if m.lockErr j r n need = 0 then ⟨m.us, m.l ++ [⟨j, r, n⟩], m.cs⟩ else m
def UM.drop (m : UM) (j : Int) : UM := ⟨m.us, m.l.filter fun x => !ofJob j x, m.cs⟩

structure UM.Ok (m : UM) : Prop where
  few : m.us.length ≤ 16
  uns : ∀ u ∈ m.us, 1 ≤ u ∧ u ≤ 255
  ent : ∀ x ∈ m.l, 0 ≤ x.job ∧ m.has x.res ∧ 1 ≤ x.n
  fit : ∀ r, m.has r → sumOf (ofRes r) m.l ≤ m.tot r
  cls : m.cs.length = m.us.length
theorem tot_bd {m : UM} (h : m.Ok) {r : Int} (hr : m.has r) : 1 ≤ m.tot r ∧ m.tot r ≤ 255 := by
  unfold UM.has at hr
  unfold UM.tot
  have hl : r.toNat < m.us.length := by omega
  rw [List.getD_eq_getElem?_getD, List.getElem?_eq_getElem hl]
  exact h.uns _ (List.getElem_mem hl)
theorem pos_of {m : UM} (h : m.Ok) : ∀ x ∈ m.l, 0 ≤ x.n := fun x hx => by have := (h.ent x hx).2.2; omega
theorem held_bd {m : UM} (h : m.Ok) (j : Int) {r : Int} (hr : m.has r) : 0 ≤ m.held j r ∧ m.held j r ≤ 255 := by
  have h1 := tot_bd h hr
  have h2 := h.fit r hr
  have h3 := sumOf_le (p := ofBoth j r) (q := ofRes r) (pos_of h) fun x hx => by simp [ofBoth, ofRes] at *; exact hx.2
  unfold UM.held; omega
theorem heldL_len (l : List Tkn) (j : Int) : (heldL l j).length = 16 := by simp [heldL]
theorem heldL_at (l : List Tkn) (j : Int) {r : Nat} (h : r < 16) : (heldL l j)[r]? = some (sumOf (ofBoth j r) l) := by
  unfold heldL; rw [List.getElem?_map, List.getElem?_range h]; rfl
theorem lock_ok {m : UM} (h : m.Ok) {j r n need : Int} (he : m.lockErr j r n need = 0) : (UM.mk m.us (m.l ++ [⟨j, r, n⟩]) m.cs).Ok := by
  unfold UM.lockErr at he
  split at he
  · omega
  split at he
  · omega
  split at he
  · omega
  rename_i h1 h2 h3
  have hr : m.has r := Classical.byContradiction fun hn => h1 (.inr (.inl hn))
  refine ⟨h.few, h.uns, ?_, ?_, h.cls⟩
  · intro x hx
    rcases List.mem_append.1 hx with hx | hx
    · exact h.ent x hx
    · obtain rfl := List.mem_singleton.1 hx
      exact ⟨by simp only; omega, hr, by simp only; omega⟩
  · intro r2 hr2
    show sumOf (ofRes r2) (m.l ++ [⟨j, r, n⟩]) ≤ m.tot r2
    rw [sumOf_app]
    have hf := h.fit r2 hr2
    by_cases e : r = r2
    · subst e
      unfold UM.free at h3
      rw [if_pos hr] at h3
      simp [sumOf, ofRes]; omega
    · simp [sumOf, ofRes, e]; exact hf
/-- How many locks there can be. -/
theorem locks_few {m : UM} (h : m.Ok) : m.l.length ≤ 4080 := by
  have gen : ∀ (k : Nat) (l : List Tkn), (∀ x ∈ l, 0 ≤ x.res ∧ x.res < k ∧ 1 ≤ x.n) → (∀ r : Nat, r < k → sumOf (ofRes r) l ≤ 255) → l.length ≤ k * 255 := by
    intro k
    induction k with
    | zero =>
      intro l hl _
      cases l with
      | nil => simp
      | cons x l => have := hl x (by simp); omega
    | succ k ih =>
      intro l hl hs
      have h1 := sumOf_len (p := ofRes (k : Nat)) (l := l) fun x hx => (hl x hx).2.2
      have h2 := hs k (by omega)
      have h3 := ih (l.filter fun x => !ofRes (k : Nat) x) (fun x hx => by
        obtain ⟨hx1, hx2⟩ := List.mem_filter.1 hx
        have := hl x hx1
        have : x.res ≠ (k : Nat) := by simpa [ofRes] using hx2
        omega) (fun r hr => by
        have h4 := hs r (by omega)
        have h5 : sumOf (ofRes (r : Nat)) (l.filter fun x => !ofRes (k : Nat) x) = sumOf (ofRes (r : Nat)) l := by
          clear h1 h2 ih hs h4 hl
          induction l with
          | nil => rfl
          | cons x l ih =>
            rw [List.filter_cons]
            split
            · simp only [sumOf, ih]
            · rename_i hx
              have hx : x.res = (k : Nat) := by simpa [ofRes] using hx
              have : ¬ (x.res = (r : Nat)) := by omega
              simp only [sumOf]; rw [if_neg (by simp [ofRes, this])]; omega
        omega)
      have h6 : l.length = (l.filter (ofRes (k : Nat))).length + (l.filter fun x => !ofRes (k : Nat) x).length := by
        clear h1 h2 h3 hl hs ih
        induction l with
        | nil => rfl
        | cons x l ih => simp only [List.filter_cons]; cases ofRes (k : Nat) x <;> simp <;> omega
      omega
  have := gen m.us.length m.l (fun x hx => by have := h.ent x hx; unfold UM.has at this; omega) (fun r hr => by
    have hr' : m.has r := by unfold UM.has; omega
    have := h.fit r hr'
    have := tot_bd h hr'
    omega)
  have := h.few
  omega

/-- The rows of just the jobs that hold some lock. -/
def Jobs (l : List Tkn) (ns : List In.Row) : Prop := In.Rise ns ∧ ∀ j, (∃ a, (j, a) ∈ ns) ↔ ∃ x ∈ l, x.job = j
theorem Jobs.nil : Jobs [] [] := ⟨List.Pairwise.nil, fun j => by simp⟩
theorem Jobs.found {l : List Tkn} {ns : List In.Row} (h : Jobs l ns) (j : Int) : In.foundAt j ns = true ↔ ∃ x ∈ l, x.job = j := by
  rw [In.foundAt_iff h.1, ← h.2 j]
  constructor
  · rintro ⟨⟨a, b⟩, h1, rfl⟩; exact ⟨b, h1⟩
  · rintro ⟨a, h1⟩; exact ⟨_, h1, rfl⟩
theorem Jobs.old {l : List Tkn} {ns : List In.Row} (h : Jobs l ns) {j r n : Int} (hf : In.foundAt j ns = true) : Jobs (l ++ [⟨j, r, n⟩]) ns := by
  refine ⟨h.1, fun k => (h.2 k).trans ?_⟩
  obtain ⟨x, hx, hxj⟩ := (h.found j).1 hf
  constructor
  · rintro ⟨y, hy, e⟩; exact ⟨y, by simp [hy], e⟩
  · rintro ⟨y, hy, e⟩
    rcases List.mem_append.1 hy with hy | hy
    · exact ⟨y, hy, e⟩
    · obtain rfl := List.mem_singleton.1 hy
      exact ⟨x, hx, by rw [hxj]; exact e⟩
theorem mem_laid {k : Int} {v : Nat} {ns : List In.Row} {a : In.Row} : a ∈ In.laid k v ns ↔ a = (k, v) ∨ a ∈ ns := by
  unfold In.laid
  conv => rhs; rw [← List.take_append_drop (In.below k ns) ns]
  simp only [List.mem_append, List.mem_cons]
  constructor
  · rintro (h | h | h)
    · exact .inr (.inl h)
    · exact .inl h
    · exact .inr (.inr h)
  · rintro (h | h | h)
    · exact .inr (.inl h)
    · exact .inl h
    · exact .inr (.inr h)
theorem Jobs.new {l : List Tkn} {ns : List In.Row} (h : Jobs l ns) {j r n : Int} (v : Nat) (hf : In.foundAt j ns = false) : Jobs (l ++ [⟨j, r, n⟩]) (In.laid j v ns) := by
  have hn : ∀ a ∈ ns, a.1 ≠ j := fun a ha e => by
    have := (In.foundAt_iff (k := j) h.1).2 ⟨a, ha, e⟩
    rw [hf] at this; cases this
  refine ⟨In.rise_laid h.1 hn, fun k => ?_⟩
  constructor
  · rintro ⟨a, ha⟩
    rcases mem_laid.1 ha with e | ha
    · cases e; exact ⟨⟨j, r, n⟩, by simp, rfl⟩
    · obtain ⟨x, hx, e⟩ := (h.2 k).1 ⟨a, ha⟩
      exact ⟨x, by simp [hx], e⟩
  · rintro ⟨x, hx, e⟩
    rcases List.mem_append.1 hx with hx | hx
    · obtain ⟨a, ha⟩ := (h.2 k).2 ⟨x, hx, e⟩
      exact ⟨a, mem_laid.2 (.inr ha)⟩
    · obtain rfl := List.mem_singleton.1 hx
      exact ⟨v, mem_laid.2 (.inl (by rw [← e]))⟩
theorem sub_len : ∀ {xs ys : List Int}, xs.Pairwise (· < ·) → (∀ x ∈ xs, x ∈ ys) → xs.length ≤ ys.length
  | [], _, _, _ => by simp
  | x :: xs, ys, h, hs => by
    obtain ⟨h1, h2⟩ := List.pairwise_cons.1 h
    have hx := hs x (by simp)
    have := sub_len (xs := xs) (ys := ys.erase x) h2 fun y hy => (List.mem_erase_of_ne (by have := h1 y hy; omega)).2 (hs y (by simp [hy]))
    rw [List.length_erase_of_mem hx] at this
    have := List.length_pos_of_mem hx
    simp only [List.length_cons]; omega
theorem Jobs.few {l : List Tkn} {ns : List In.Row} (h : Jobs l ns) : ns.length ≤ l.length := by
  have := sub_len (xs := ns.map (·.1)) (ys := l.map (·.job)) (by rw [List.pairwise_map]; exact h.1) fun j hj => by
    obtain ⟨a, ha, rfl⟩ := List.mem_map.1 hj
    obtain ⟨x, hx, e⟩ := (h.2 a.1).1 ⟨a.2, ha⟩
    exact List.mem_map.2 ⟨x, hx, e⟩
  simpa using this
end Um
end Go

/-
  Units as plain data: a job's row goes with its last lock. No program.
-/
namespace Go
namespace Um
set_option linter.unusedVariables false

theorem row_at {j : Int} {ns : List In.Row} (hf : In.foundAt j ns = true) : ∃ a, ns[In.below j ns]? = some (j, a) := by
  unfold In.foundAt at hf
  split at hf
  · rename_i a ha
    obtain ⟨b, c⟩ := a
    simp only [decide_eq_true_eq] at hf
    subst hf
    exact ⟨c, ha⟩
  · cases hf
theorem Jobs.drop {l : List Tkn} {ns : List In.Row} (h : Jobs l ns) {j : Int} (hf : In.foundAt j ns = true) : Jobs (l.filter fun x => !ofJob j x) (ns.eraseIdx (In.below j ns)) := by
  obtain ⟨a0, ha0⟩ := row_at hf
  refine ⟨h.1.sublist (List.eraseIdx_sublist _ _), fun k => ?_⟩
  have key : ∀ a, (k, a) ∈ ns.eraseIdx (In.below j ns) ↔ (k, a) ∈ ns ∧ k ≠ j := by
    intro a
    rw [List.mem_eraseIdx_iff_getElem?]
    constructor
    · rintro ⟨i, hi, hx⟩
      refine ⟨List.mem_of_getElem? hx, fun e => ?_⟩
      subst e
      have h1 := List.getElem?_eq_some_iff.1 hx
      have h2 := List.getElem?_eq_some_iff.1 ha0
      have hp := List.pairwise_iff_getElem.1 h.1
      rcases Nat.lt_or_ge i (In.below k ns) with hq | hq
      · have := hp i _ h1.1 h2.1 hq
        rw [h1.2, h2.2] at this
        simp only at this; omega
      · have := hp _ i h2.1 h1.1 (by omega)
        rw [h1.2, h2.2] at this
        simp only at this; omega
    · rintro ⟨hm, hne⟩
      obtain ⟨i, hi⟩ := List.getElem?_of_mem hm
      refine ⟨i, fun e => ?_, hi⟩
      rw [e, ha0] at hi
      cases hi
      exact hne rfl
  constructor
  · rintro ⟨a, ha⟩
    obtain ⟨hm, hne⟩ := (key a).1 ha
    obtain ⟨x, hx, e⟩ := (h.2 k).1 ⟨a, hm⟩
    exact ⟨x, List.mem_filter.2 ⟨hx, by simp [ofJob, e, hne]⟩, e⟩
  · rintro ⟨x, hx, e⟩
    obtain ⟨hx1, hx2⟩ := List.mem_filter.1 hx
    obtain ⟨a, ha⟩ := (h.2 k).2 ⟨x, hx1, e⟩
    exact ⟨a, (key a).2 ⟨ha, by intro e2; simp [ofJob, e, e2] at hx2⟩⟩
end Um
end Go
