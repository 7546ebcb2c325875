/-
  The arena as plain data: frames with their sizes and the words laid in them. No program.
-/
namespace Go
namespace Arm

structure Fr where
  size : Nat
  laid : List Int

structure AM where
  n : Nat
  frs : List Fr
  high : Nat

def sizes (l : List Fr) : Nat := (l.map (·.size)).sum
def AM.used (m : AM) : Nat := sizes m.frs
def Fr.row (f : Fr) : List Int := f.laid ++ List.replicate (f.size - f.laid.length) 0
def rows (l : List Fr) : List Int := l.flatMap Fr.row
def AM.words (m : AM) : List Int := rows m.frs ++ List.replicate (m.n - m.used) 0
structure AM.ok (m : AM) : Prop where
  n_le : m.n ≤ 65536
  used_le : m.used ≤ m.high
  high_le : m.high ≤ m.n
  laid_le : ∀ f ∈ m.frs, f.laid.length ≤ f.size

def AM.new (n : Nat) : AM := ⟨n, [], 0⟩
def AM.opens (m : AM) (s : Int) : Int × AM :=
  if s < 0 then (1, m) else if (m.n : Int) - m.used < s then (11, m)
  else (0, ⟨m.n, m.frs ++ [⟨s.toNat, []⟩], max m.high (m.used + s.toNat)⟩)
def AM.closes (m : AM) : Int × AM := if m.frs = [] then (6, m) else (0, { m with frs := m.frs.dropLast })
def AM.push (m : AM) (v : Int) : Int × AM :=
  match m.frs.getLast? with
  | none => (6, m)
  | some f => if f.laid.length = f.size then (12, m) else (0, { m with frs := m.frs.dropLast ++ [⟨f.size, f.laid ++ [v]⟩] })
def AM.pop (m : AM) : Int × Int × AM :=
  match m.frs.getLast? with
  | none => (0, 6, m)
  | some f => if f.laid = [] then (0, 10, m) else (f.laid.getLastD 0, 0, { m with frs := m.frs.dropLast ++ [⟨f.size, f.laid.dropLast⟩] })
def AM.top (m : AM) : Int × Bool :=
  match m.frs.getLast? with
  | none => (0, false)
  | some f => if f.laid = [] then (0, false) else (f.laid.getLastD 0, true)

theorem sizes_append (a b : List Fr) : sizes (a ++ b) = sizes a + sizes b := by simp [sizes]
theorem sizes_one (f : Fr) : sizes [f] = f.size := by simp [sizes]
theorem rows_append (a b : List Fr) : rows (a ++ b) = rows a ++ rows b := by simp [rows]
theorem row_len {f : Fr} (h : f.laid.length ≤ f.size) : f.row.length = f.size := by simp [Fr.row]; omega
theorem rows_len : ∀ {l : List Fr}, (∀ f ∈ l, f.laid.length ≤ f.size) → (rows l).length = sizes l
  | [], _ => rfl
  | f :: l, h => by
    have ih := rows_len (l := l) fun g hg => h g (by simp [hg])
    have h1 := row_len (h f (by simp))
    simp only [rows, List.flatMap_cons, List.length_append, sizes, List.map_cons, List.sum_cons] at *
    omega
theorem AM.ok.used_n {m : AM} (h : m.ok) : m.used ≤ m.n := Nat.le_trans h.used_le h.high_le
theorem AM.words_len {m : AM} (h : m.ok) : m.words.length = m.n := by
  have := rows_len h.laid_le
  have := h.used_n
  simp [AM.words, AM.used] at *; omega
theorem last_split {l : List Fr} {f : Fr} (h : l.getLast? = some f) : l = l.dropLast ++ [f] := by
  have hne : l ≠ [] := by intro e; subst e; simp at h
  have := List.dropLast_concat_getLast hne
  rw [List.getLast?_eq_some_getLast hne] at h
  cases h; exact this.symm

theorem AM.ok.new {n : Nat} (h : n ≤ 65536) : (AM.new n).ok := ⟨h, by simp [AM.new, AM.used, sizes], by simp [AM.new], by simp [AM.new]⟩
theorem AM.ok.opens {m : AM} (h : m.ok) (s : Int) : (m.opens s).2.ok := by
  unfold AM.opens
  split
  · exact h
  · split
    · exact h
    · have h1 := h.used_le; have h2 := h.high_le
      refine ⟨h.n_le, ?_, ?_, ?_⟩
      · simp only [AM.used, sizes_append, sizes_one]; simp only [AM.used] at h1; omega
      · simp only []; omega
      · intro f hf
        simp only [List.mem_append, List.mem_singleton] at hf
        rcases hf with hf | rfl
        · exact h.laid_le f hf
        · simp
theorem AM.ok.closes {m : AM} (h : m.ok) : m.closes.2.ok := by
  unfold AM.closes
  split
  · exact h
  · rename_i hne
    have hs : sizes m.frs.dropLast ≤ sizes m.frs := by
      conv => rhs; rw [← List.dropLast_concat_getLast hne]
      rw [sizes_append]; omega
    exact ⟨h.n_le, Nat.le_trans hs h.used_le, h.high_le, fun f hf => h.laid_le f (List.dropLast_subset _ hf)⟩
theorem AM.ok.relay {m : AM} (h : m.ok) {f : Fr} (hf : m.frs.getLast? = some f) {l : List Int} (hl : l.length ≤ f.size) : AM.ok { m with frs := m.frs.dropLast ++ [⟨f.size, l⟩] } := by
  have hs : sizes (m.frs.dropLast ++ [⟨f.size, l⟩]) = sizes m.frs := by
    conv => rhs; rw [last_split hf]
    simp [sizes_append, sizes_one]
  refine ⟨h.n_le, by simp only [AM.used, hs]; exact h.used_le, h.high_le, fun g hg => ?_⟩
  simp only [List.mem_append, List.mem_singleton] at hg
  rcases hg with hg | rfl
  · exact h.laid_le g (List.dropLast_subset _ hg)
  · exact hl
theorem AM.ok.push {m : AM} (h : m.ok) (v : Int) : (m.push v).2.ok := by
  unfold AM.push
  split
  · exact h
  · rename_i f hf
    split
    · exact h
    · have := h.laid_le f (List.mem_of_getLast? hf)
      exact h.relay hf (by simp; omega)
theorem AM.ok.pop {m : AM} (h : m.ok) : m.pop.2.2.ok := by
  unfold AM.pop
  split
  · exact h
  · rename_i f hf
    split
    · exact h
    · have := h.laid_le f (List.mem_of_getLast? hf)
      exact h.relay hf (by simp; omega)

theorem words_last (n : Nat) (init : List Fr) (f : Fr) (hi : Nat) : AM.words ⟨n, init ++ [f], hi⟩ = rows init ++ (f.row ++ List.replicate (n - (sizes init + f.size)) 0) := by
  simp [AM.words, AM.used, sizes_append, sizes_one, rows]
theorem set_mid {α : Type} (A l B : List α) (x v : α) : (A ++ (l ++ x :: B)).set (A.length + l.length) v = A ++ (l ++ v :: B) := by
  rw [List.set_append_right _ _ (by omega), show A.length + l.length - A.length = l.length by omega, List.set_append_right _ _ (by omega), Nat.sub_self]
  rfl
theorem words_push {n hi : Nat} {init : List Fr} {f : Fr} {v : Int} (hok : AM.ok ⟨n, init ++ [f], hi⟩) (hf : f.laid.length < f.size) :
    (AM.words ⟨n, init ++ [f], hi⟩).set (sizes init + f.laid.length) v = AM.words ⟨n, init ++ [⟨f.size, f.laid ++ [v]⟩], hi⟩ := by
  have hl : (rows init).length = sizes init := rows_len fun g hg => hok.laid_le g (by simp [hg])
  rw [words_last, words_last]
  obtain ⟨k, hk⟩ : ∃ k, f.size - f.laid.length = k + 1 := ⟨f.size - f.laid.length - 1, by omega⟩
  have e1 : f.row = f.laid ++ 0 :: List.replicate k 0 := by unfold Fr.row; rw [hk]; rfl
  have e2 : Fr.row ⟨f.size, f.laid ++ [v]⟩ = f.laid ++ v :: List.replicate k 0 := by
    unfold Fr.row; simp only [List.length_append, List.length_singleton, show f.size - (f.laid.length + 1) = k by omega]; simp
  rw [e1, e2, ← hl]
  rw [List.append_assoc, List.append_assoc, List.cons_append, List.cons_append]
  exact set_mid (rows init) f.laid (List.replicate k 0 ++ List.replicate (n - ((rows init).length + f.size)) 0) 0 v
theorem words_pop {n hi : Nat} {init : List Fr} {s : Nat} {l : List Int} {v : Int} (hok : AM.ok ⟨n, init ++ [⟨s, l ++ [v]⟩], hi⟩) :
    (AM.words ⟨n, init ++ [⟨s, l ++ [v]⟩], hi⟩).set (sizes init + l.length) 0 = AM.words ⟨n, init ++ [⟨s, l⟩], hi⟩ := by
  have hl : (rows init).length = sizes init := rows_len fun g hg => hok.laid_le g (by simp [hg])
  have hs : l.length < s := by have := hok.laid_le ⟨s, l ++ [v]⟩ (by simp); simp at this; omega
  have hok2 : AM.ok ⟨n, init ++ [⟨s, l⟩], hi⟩ := by
    have := hok.relay (f := ⟨s, l ++ [v]⟩) (by simp) (l := l) (by simp; omega)
    simpa using this
  rw [← words_push (v := v) hok2 hs, List.set_set]
  have hlen := AM.words_len hok2
  have hself : ∀ (L : List Int) (i : Nat) (x : Int), L[i]? = some x → L.set i x = L := fun L i x h => by
    apply List.ext_getElem?
    intro j
    rw [List.getElem?_set]
    split
    · rename_i hij
      subst hij
      have hlt : i < L.length := (List.getElem?_eq_some_iff.1 h).1
      rw [if_pos hlt, h]
    · rfl
  refine hself _ _ _ ?_
  rw [words_last]
  rw [List.getElem?_append_right (by omega), hl, show sizes init + l.length - sizes init = l.length by omega]
  unfold Fr.row
  simp only [List.append_assoc]
  rw [List.getElem?_append_right (by omega), Nat.sub_self]
  obtain ⟨k, hk⟩ : ∃ k, s - l.length = k + 1 := ⟨s - l.length - 1, by omega⟩
  rw [hk]; rfl
theorem words_at {n hi : Nat} {init : List Fr} {s : Nat} {l : List Int} {v : Int} (hok : AM.ok ⟨n, init ++ [⟨s, l ++ [v]⟩], hi⟩) :
    (AM.words ⟨n, init ++ [⟨s, l ++ [v]⟩], hi⟩)[sizes init + l.length]? = some v := by
  have hl : (rows init).length = sizes init := rows_len fun g hg => hok.laid_le g (by simp [hg])
  rw [words_last, List.getElem?_append_right (by omega), hl, show sizes init + l.length - sizes init = l.length by omega]
  unfold Fr.row
  simp
theorem words_close {n hi : Nat} {init : List Fr} {f : Fr} (hok : AM.ok ⟨n, init ++ [f], hi⟩) :
    (AM.words ⟨n, init ++ [f], hi⟩).take (sizes init) ++ List.replicate f.size 0 ++ (AM.words ⟨n, init ++ [f], hi⟩).drop (sizes init + f.size) = AM.words ⟨n, init, hi⟩ := by
  have hl : (rows init).length = sizes init := rows_len fun g hg => hok.laid_le g (by simp [hg])
  have hr := row_len (hok.laid_le f (by simp))
  have hu := hok.used_n
  simp only [AM.used, sizes_append, sizes_one] at hu
  rw [words_last, ← hl, List.take_left, ← List.append_assoc, ← hr, ← List.length_append, List.drop_left, hr]
  simp only [AM.words, AM.used, List.append_assoc, List.replicate_append_replicate]
  congr 2
  simp only [List.length_append, hr, hl]
  omega
theorem split_at {l : List Fr} {i : Nat} {f : Fr} (h : l[i]? = some f) : l = l.take i ++ (f :: l.drop (i + 1)) := by
  have := (List.getElem?_eq_some_iff.1 h).2
  rw [← this, List.getElem_cons_drop, List.take_append_drop]
theorem words_frame {m : AM} (hok : m.ok) {i j : Nat} {f : Fr} (h : m.frs[i]? = some f) {x : Int} (hx : f.laid[j]? = some x) : m.words[sizes (m.frs.take i) + j]? = some x := by
  have hs := split_at h
  have hl : (rows (m.frs.take i)).length = sizes (m.frs.take i) := rows_len fun g hg => hok.laid_le g (List.mem_of_mem_take hg)
  have hj : j < f.laid.length := (List.getElem?_eq_some_iff.1 hx).1
  have e : rows m.frs = rows (m.frs.take i) ++ rows (f :: m.frs.drop (i + 1)) := by rw [← rows_append, ← hs]
  unfold AM.words
  rw [e, List.append_assoc, List.getElem?_append_right (by omega), hl, show sizes (m.frs.take i) + j - sizes (m.frs.take i) = j by omega]
  simp only [rows, List.flatMap_cons, Fr.row, List.append_assoc]
  rw [List.getElem?_append_left hj]
  exact hx
theorem opens_full {m : AM} {s : Int} (h0 : 0 ≤ s) (h : (m.n : Int) - m.used < s) : m.opens s = (11, m) := by
  unfold AM.opens; rw [if_neg (by omega), if_pos h]
end Arm
end Go
