/-
  Rows of names in rising order, each with a number. No program.
-/
import Derived.Test.YtkaecdkmalppcaaDoorTm
import GoSem.Op.String
namespace Go
namespace Tn

theorem bl_irrefl : ∀ a : List UInt8, Op.bytesLess a a = false
  | [] => rfl
  | a :: x => by simp [Op.bytesLess, bl_irrefl x]
theorem bl_trans : ∀ {a b c : List UInt8}, Op.bytesLess a b = true → Op.bytesLess b c = true → Op.bytesLess a c = true
  | [], [], _, h, _ => by simp [Op.bytesLess] at h
  | _ :: _, [], _, h, _ => by simp [Op.bytesLess] at h
  | _, _ :: _, [], _, h => by simp [Op.bytesLess] at h
  | [], _ :: _, _ :: _, _, _ => rfl
  | a :: x, b :: y, c :: z, h, k => by
    simp only [Op.bytesLess, Bool.or_eq_true, decide_eq_true_eq, Bool.and_eq_true, beq_iff_eq] at *
    rcases h with h | ⟨rfl, h⟩
    · rcases k with k | ⟨rfl, k⟩
      · exact .inl (UInt8.lt_trans h k)
      · exact .inl h
    · rcases k with k | ⟨rfl, k⟩
      · exact .inl k
      · exact .inr ⟨rfl, bl_trans h k⟩
theorem bl_tri : ∀ {a b : List UInt8}, Op.bytesLess a b = false → a ≠ b → Op.bytesLess b a = true
  | [], [], _, h => absurd rfl h
  | [], _ :: _, h, _ => by simp [Op.bytesLess] at h
  | _ :: _, [], _, _ => rfl
  | a :: x, b :: y, h, hn => by
    simp only [Op.bytesLess, Bool.or_eq_false_iff, decide_eq_false_iff_not, Bool.and_eq_false_iff, beq_eq_false_iff_ne, Bool.or_eq_true, decide_eq_true_eq, Bool.and_eq_true, beq_iff_eq] at *
    obtain ⟨h1, h2⟩ := h
    by_cases hab : a = b
    · subst hab
      rcases h2 with h2 | h2
      · exact absurd rfl h2
      · exact .inr ⟨rfl, bl_tri h2 (fun e => hn (by rw [e]))⟩
    · refine .inl ?_
      rcases Nat.lt_or_ge b.toNat a.toNat with h | h
      · exact UInt8.lt_iff_toNat_lt.2 h
      · have : a.toNat ≠ b.toNat := fun e => hab (UInt8.toNat_inj.1 e)
        exact absurd (UInt8.lt_iff_toNat_lt.2 (by omega)) h1

def less (a b : ByteArray) : Bool := Op.bytesLess a.toList b.toList
theorem less_irrefl (a : ByteArray) : less a a = false := bl_irrefl _
theorem less_trans {a b c : ByteArray} (h : less a b = true) (k : less b c = true) : less a c = true := bl_trans h k
theorem toList_inj {a b : ByteArray} (h : a.toList = b.toList) : a = b := by
  rw [ByteArray.toList_eq, ByteArray.toList_eq] at h
  have : a.data = b.data := Array.toList_inj.1 h
  cases a; cases b; simp_all
theorem less_tri {a b : ByteArray} (h : less a b = false) (hn : a ≠ b) : less b a = true := bl_tri h fun e => hn (toList_inj e)

abbrev Row := ByteArray × Nat
/-- Rising. -/
def Rise (ns : List Row) : Prop := ns.Pairwise fun a b => less a.1 b.1 = true
/-- How many names stand below k. -/
def below (k : ByteArray) (ns : List Row) : Nat := (ns.takeWhile fun a => less a.1 k).length

theorem below_le (k : ByteArray) (ns : List Row) : below k ns ≤ ns.length := (List.takeWhile_prefix _).length_le
theorem below_cons (k : ByteArray) (a : Row) (ns : List Row) : below k (a :: ns) = if less a.1 k = true then below k ns + 1 else 0 := by
  unfold below; rw [List.takeWhile_cons]; split <;> simp
/-- Ahead of that place all are less, from there on none is. -/
theorem below_iff {k : ByteArray} : ∀ {ns : List Row}, Rise ns → ∀ {i : Nat} {a : Row}, ns[i]? = some a → (less a.1 k = true ↔ i < below k ns)
  | [], _, i, a, h => by simp at h
  | x :: ns, hr, i, a, h => by
    obtain ⟨h1, h2⟩ := List.pairwise_cons.1 hr
    rw [below_cons]
    cases i with
    | zero =>
      obtain rfl : x = a := by simpa using h
      split <;> simp_all
    | succ i =>
      have h : ns[i]? = some a := by simpa using h
      have ih := below_iff (k := k) h2 h
      split
      · rw [ih]; omega
      · rename_i hx
        constructor
        · intro ha; exact absurd (less_trans (h1 a (List.mem_of_getElem? h)) ha) hx
        · omega
/-- Whether k stands at that place. -/
def foundAt (k : ByteArray) (ns : List Row) : Bool := match ns[below k ns]? with | some a => decide (a.1 = k) | none => false
theorem foundAt_iff {k : ByteArray} {ns : List Row} (hr : Rise ns) : foundAt k ns = true ↔ ∃ a ∈ ns, a.1 = k := by
  unfold foundAt
  constructor
  · intro h
    split at h
    · rename_i a ha; exact ⟨a, List.mem_of_getElem? ha, by simpa using h⟩
    · cases h
  · rintro ⟨a, ha, rfl⟩
    obtain ⟨i, hi⟩ := List.getElem?_of_mem ha
    have h1 := below_iff (k := a.1) hr hi
    rw [less_irrefl] at h1
    have h1 : ¬ i < below a.1 ns := fun h => by simpa using h1.2 h
    have hlt := (List.getElem?_eq_some_iff.1 hi).1
    have hb : below a.1 ns < ns.length := by omega
    have h2 := List.getElem?_eq_getElem hb
    rw [h2]
    simp only [decide_eq_true_eq]
    have h3 := below_iff (k := a.1) hr h2
    rcases Nat.lt_or_ge (below a.1 ns) i with h | h
    · have h4 := (List.pairwise_iff_getElem.1 hr) _ _ hb hlt h
      rw [(List.getElem?_eq_some_iff.1 hi).2] at h4
      exact absurd (h3.1 h4) (by omega)
    · have e : below a.1 ns = i := by omega
      simp only [e]
      exact congrArg Prod.fst (List.getElem?_eq_some_iff.1 hi).2
/-- What k has. -/
def atOf (k : ByteArray) (ns : List Row) : Nat := match ns[below k ns]? with | some a => a.2 | none => 0

/-- The rows of just the names that have a number. -/
def Rows (f : ByteArray → Option Nat) (ns : List Row) : Prop := Rise ns ∧ ∀ k v, (k, v) ∈ ns ↔ f k = some v
theorem Rows.found {f : ByteArray → Option Nat} {ns : List Row} (h : Rows f ns) (k : ByteArray) : foundAt k ns = (f k).isSome ∧ (foundAt k ns = true → atOf k ns = (f k).getD 0) := by
  have h1 := foundAt_iff (k := k) h.1
  have h2 : foundAt k ns = (f k).isSome := by
    cases hf : f k with
    | none =>
      simp only [Option.isSome_none]
      cases hq : foundAt k ns
      · rfl
      · obtain ⟨a, ha, e⟩ := h1.1 hq
        obtain ⟨n, v⟩ := a
        simp only at e; subst e
        rw [(h.2 n v).1 ha] at hf; cases hf
    | some v =>
      simp only [Option.isSome_some]
      exact h1.2 ⟨(k, v), (h.2 k v).2 hf, rfl⟩
  refine ⟨h2, fun hq => ?_⟩
  unfold foundAt at hq
  unfold atOf
  split at hq
  · rename_i a ha
    have hk : a.1 = k := by simpa using hq
    obtain ⟨n, v⟩ := a
    simp only at hk; subst hk
    rw [(h.2 n v).1 (List.mem_of_getElem? ha)]; rfl
  · cases hq
/-- One more. -/
def laid (k : ByteArray) (v : Nat) (ns : List Row) : List Row := ns.take (below k ns) ++ (k, v) :: ns.drop (below k ns)
theorem rise_laid {k : ByteArray} {v : Nat} {ns : List Row} (h : Rise ns) (hk : ∀ a ∈ ns, a.1 ≠ k) : Rise (laid k v ns) := by
  unfold laid Rise
  rw [List.pairwise_append]
  have hs : (ns.take (below k ns) ++ ns.drop (below k ns)).Pairwise fun a b => less a.1 b.1 = true := by rw [List.take_append_drop]; exact h
  obtain ⟨h1, h2, h3⟩ := List.pairwise_append.1 hs
  have lo : ∀ a ∈ ns.take (below k ns), less a.1 k = true := fun a ha => by
    obtain ⟨i, hi⟩ := List.getElem?_of_mem ha
    rw [List.getElem?_take] at hi
    split at hi
    · rename_i hlt; exact (below_iff h hi).2 hlt
    · cases hi
  have hi : ∀ a ∈ ns.drop (below k ns), less k a.1 = true := fun a ha => by
    obtain ⟨i, hi⟩ := List.getElem?_of_mem ha
    rw [List.getElem?_drop] at hi
    have h4 := below_iff (k := k) h hi
    refine less_tri ?_ (hk a (List.mem_of_mem_drop ha))
    cases hq : less a.1 k
    · rfl
    · have := h4.1 hq; omega
  refine ⟨h1, List.pairwise_cons.2 ⟨hi, h2⟩, fun a ha b hb => ?_⟩
  rcases List.mem_cons.1 hb with rfl | hb
  · exact lo a ha
  · exact h3 a ha b hb
theorem Rows.add {f g : ByteArray → Option Nat} {ns : List Row} (h : Rows f ns) {k : ByteArray} {v : Nat} (hk : f k = none) (hg : ∀ x, g x = if x = k then some v else f x) : Rows g (laid k v ns) := by
  have hn : ∀ a ∈ ns, a.1 ≠ k := fun a ha e => by
    obtain ⟨n, u⟩ := a
    simp only at e; subst e
    rw [(h.2 n u).1 ha] at hk; cases hk
  refine ⟨rise_laid h.1 hn, fun x u => ?_⟩
  have hm : (x, u) ∈ laid k v ns ↔ (x, u) = (k, v) ∨ (x, u) ∈ ns := by
    unfold laid
    conv => rhs; rw [← List.take_append_drop (below k ns) ns]
    simp only [List.mem_append, List.mem_cons]
    constructor
    · rintro (h | h | h)
      · exact .inr (.inl h)
      · exact .inl h
      · exact .inr (.inr h)
    · rintro (h | h | h)
      · exact .inr (.inl h)
      · exact .inl h
      · exact .inr (.inr h)
  rw [hm, h.2, hg]
  by_cases hx : x = k
  · subst hx
    rw [if_pos rfl, hk]
    simp only [Prod.mk.injEq, true_and, Option.some.injEq, reduceCtorEq, or_false]
    exact eq_comm
  · rw [if_neg hx]
    simp [hx]
theorem Rows.nil : Rows (fun _ => none) [] := ⟨List.Pairwise.nil, fun _ _ => by simp⟩

open Tm in
theorem find_add {ts : List Task} {x : Task} (h : find ts x.name = none) (n : ByteArray) : find (ts ++ [x]) n = if n = x.name then some ts.length else find ts n := by
  have gen : ∀ (ts : List Task) (i : Nat), (∀ t ∈ ts, t.name ≠ x.name) → findFrom n (ts ++ [x]) i = if n = x.name then some (i + ts.length) else findFrom n ts i := by
    intro ts
    induction ts with
    | nil =>
      intro i _
      simp only [List.nil_append, findFrom, List.length_nil, Nat.add_zero]
      by_cases hx : x.name = n
      · simp [hx]
      · rw [if_neg hx, if_neg (fun e => hx e.symm)]
    | cons t ts ih =>
      intro i hn
      simp only [List.cons_append, findFrom]
      rw [ih (i + 1) fun t ht => hn t (by simp [ht])]
      by_cases ht : t.name = n
      · rw [if_pos ht, if_pos ht, if_neg (fun e => hn t (by simp) (by rw [ht, e]))]
      · rw [if_neg ht, if_neg ht]
        simp only [List.length_cons]
        rw [show i + 1 + ts.length = i + (ts.length + 1) by omega]
  have := gen ts 0 (findFrom_none.1 h)
  simpa [find] using this
end Tn
end Go
