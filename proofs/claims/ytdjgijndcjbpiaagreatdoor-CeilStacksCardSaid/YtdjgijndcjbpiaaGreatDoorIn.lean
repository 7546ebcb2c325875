/-
  Rows of numbers in rising order, each with a place. No program.
-/
import Derived.WalkKit
namespace Go
namespace In

abbrev Row := Int × Nat
/-- Rising. -/
def Rise (ns : List Row) : Prop := ns.Pairwise fun a b => a.1 < b.1
/-- How many names stand below k. -/
def below (k : Int) (ns : List Row) : Nat := (ns.takeWhile fun a => decide (a.1 < k)).length

theorem below_le (k : Int) (ns : List Row) : below k ns ≤ ns.length := (List.takeWhile_prefix _).length_le
theorem below_cons (k : Int) (a : Row) (ns : List Row) : below k (a :: ns) = if a.1 < k then below k ns + 1 else 0 := by
  unfold below; rw [List.takeWhile_cons]; split <;> simp_all
/-- Ahead of that place all are less, from there on none is. -/
theorem below_iff {k : Int} : ∀ {ns : List Row}, Rise ns → ∀ {i : Nat} {a : Row}, ns[i]? = some a → (a.1 < k ↔ i < below k ns)
  | [], _, i, a, h => by simp at h
  | x :: ns, hr, i, a, h => by
    obtain ⟨h1, h2⟩ := List.pairwise_cons.1 hr
    rw [below_cons]
    cases i with
    | zero =>
      obtain rfl : x = a := by simpa using h
      split <;> simp_all
    | succ i =>
      have h : ns[i]? = some a := by simpa using h
      have ih := below_iff (k := k) h2 h
      split
      · rw [ih]; omega
      · rename_i hx
        constructor
        · intro ha; exact absurd (Int.lt_trans (h1 a (List.mem_of_getElem? h)) ha) hx
        · omega
/-- Whether k stands at that place. -/
def foundAt (k : Int) (ns : List Row) : Bool := match ns[below k ns]? with | some a => decide (a.1 = k) | none => false
theorem foundAt_iff {k : Int} {ns : List Row} (hr : Rise ns) : foundAt k ns = true ↔ ∃ a ∈ ns, a.1 = k := by
  unfold foundAt
  constructor
  · intro h
    split at h
    · rename_i a ha; exact ⟨a, List.mem_of_getElem? ha, by simpa using h⟩
    · cases h
  · rintro ⟨a, ha, rfl⟩
    obtain ⟨i, hi⟩ := List.getElem?_of_mem ha
    have h1 := below_iff (k := a.1) hr hi
    have h1 : ¬ i < below a.1 ns := fun h => by have := h1.2 h; omega
    have hlt := (List.getElem?_eq_some_iff.1 hi).1
    have hb : below a.1 ns < ns.length := by omega
    have h2 := List.getElem?_eq_getElem hb
    rw [h2]
    simp only [decide_eq_true_eq]
    have h3 := below_iff (k := a.1) hr h2
    rcases Nat.lt_or_ge (below a.1 ns) i with h | h
    · have h4 := (List.pairwise_iff_getElem.1 hr) _ _ hb hlt h
      rw [(List.getElem?_eq_some_iff.1 hi).2] at h4
      exact absurd (h3.1 h4) (by omega)
    · have e : below a.1 ns = i := by omega
      simp only [e]
      exact congrArg Prod.fst (List.getElem?_eq_some_iff.1 hi).2
/-- What k has. -/
def atOf (k : Int) (ns : List Row) : Nat := match ns[below k ns]? with | some a => a.2 | none => 0

/-- One more. -/
def laid (k : Int) (v : Nat) (ns : List Row) : List Row := ns.take (below k ns) ++ (k, v) :: ns.drop (below k ns)
theorem rise_laid {k : Int} {v : Nat} {ns : List Row} (h : Rise ns) (hk : ∀ a ∈ ns, a.1 ≠ k) : Rise (laid k v ns) := by
  unfold laid Rise
  rw [List.pairwise_append]
  have hs : (ns.take (below k ns) ++ ns.drop (below k ns)).Pairwise fun a b => a.1 < b.1 := by rw [List.take_append_drop]; exact h
  obtain ⟨h1, h2, h3⟩ := List.pairwise_append.1 hs
  have lo : ∀ a ∈ ns.take (below k ns), a.1 < k := fun a ha => by
    obtain ⟨i, hi⟩ := List.getElem?_of_mem ha
    rw [List.getElem?_take] at hi
    split at hi
    · rename_i hlt; exact (below_iff h hi).2 hlt
    · cases hi
  have hi : ∀ a ∈ ns.drop (below k ns), k < a.1 := fun a ha => by
    obtain ⟨i, hi⟩ := List.getElem?_of_mem ha
    rw [List.getElem?_drop] at hi
    have h4 := below_iff (k := k) h hi
    have h5 := hk a (List.mem_of_mem_drop ha)
    have h6 : ¬ a.1 < k := fun hq => by have := h4.1 hq; omega
    omega
  refine ⟨h1, List.pairwise_cons.2 ⟨hi, h2⟩, fun a ha b hb => ?_⟩
  rcases List.mem_cons.1 hb with rfl | hb
  · exact lo a ha
  · exact h3 a ha b hb
end In
end Go
