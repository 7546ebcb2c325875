/-
  Plain laws of the table of tasks: greatest frames of lists with the same tasks; a turned order. No program.
-/
import Derived.Test.YtkaecdkmalppcaaDoorTn
namespace Go
namespace Tm

theorem largestFrom_ge {level : Int} : ∀ {ts : List Task} {n : Int}, n ≤ largestFrom level ts n ∧ ∀ t ∈ ts, t.level = level → t.frame ≤ largestFrom level ts n
  | [], n => ⟨Int.le_refl _, fun t ht => by simp at ht⟩
  | t :: ts, n => by
    unfold largestFrom
    obtain ⟨h1, h2⟩ := largestFrom_ge (level := level) (ts := ts) (n := if t.level = level then max n t.frame else n)
    refine ⟨?_, fun u hu hl => ?_⟩
    · split at h1 <;> rename_i h
      · rw [if_pos h]; omega
      · rw [if_neg h]; exact h1
    · rcases List.mem_cons.1 hu with rfl | hu
      · rw [if_pos hl] at h1 ⊢; omega
      · exact h2 u hu hl
theorem largestFrom_of {level : Int} : ∀ {ts : List Task} {n : Int}, largestFrom level ts n = n ∨ ∃ t ∈ ts, t.level = level ∧ t.frame = largestFrom level ts n
  | [], n => .inl rfl
  | t :: ts, n => by
    unfold largestFrom
    rcases largestFrom_of (level := level) (ts := ts) (n := if t.level = level then max n t.frame else n) with h | ⟨u, hu, h1, h2⟩
    · by_cases hl : t.level = level
      · rw [if_pos hl] at h ⊢
        rw [h]
        rcases Int.le_total n t.frame with hm | hm
        · exact .inr ⟨t, by simp, hl, by omega⟩
        · exact .inl (by omega)
      · rw [if_neg hl] at h ⊢; exact .inl h
    · exact .inr ⟨u, by simp [hu], h1, h2⟩
theorem largest_ge {ts : List Task} {t : Task} (ht : t ∈ ts) : t.frame ≤ largest ts t.level := largestFrom_ge.2 t ht rfl
theorem largest_le {ts us : List Task} (hs : ∀ t ∈ ts, t ∈ us) (level : Int) : largest ts level ≤ largest us level := by
  rcases largestFrom_of (level := level) (ts := ts) (n := 0) with h | ⟨t, ht, h1, h2⟩
  · unfold largest; rw [h]; exact largestFrom_ge.1
  · show largestFrom level ts 0 ≤ _
    rw [← h2, ← h1]; exact largest_ge (hs t ht)
theorem boundTo_le {ts us : List Task} (hs : ∀ t ∈ ts, t ∈ us) : ∀ k, boundTo ts k ≤ boundTo us k
  | 0 => Int.le_refl _
  | k + 1 => by
    have := boundTo_le hs k
    have := largest_le hs k
    unfold boundTo; omega
theorem bound_le {ts us : List Task} (hs : ∀ t ∈ ts, t ∈ us) : bound ts ≤ bound us := boundTo_le hs 33
theorem largest_same {ts us : List Task} (hs : ∀ t, t ∈ ts ↔ t ∈ us) (level : Int) : largest ts level = largest us level := Int.le_antisymm (largest_le (fun t => (hs t).1) level) (largest_le (fun t => (hs t).2) level)
theorem bound_same {ts us : List Task} (hs : ∀ t, t ∈ ts ↔ t ∈ us) : bound ts = bound us := Int.le_antisymm (bound_le fun t => (hs t).1) (bound_le fun t => (hs t).2)

/-- A task of a good table is taken by any table of fewer of its tasks. -/
theorem check_less {m : TM} (h : m.Ok) {us : List Task} {x : Task} (hx : x ∈ m.ts) (hs : ∀ t ∈ us, t ∈ m.ts) (hn : ∀ t ∈ us, t.name ≠ x.name) (hl : us.length < 64) : TM.check ⟨m.words, m.units, us⟩ x = 0 := by
  have hf := h.fit x hx
  have hfr := hf.frm
  have hlv := hf.lev
  have hb : bound (us ++ [x]) ≤ m.words := by
    refine Int.le_trans (bound_le fun t ht => ?_) h.room
    rcases List.mem_append.1 ht with ht | ht
    · exact hs t ht
    · obtain rfl := List.mem_singleton.1 ht; exact hx
  rw [bound_app hlv] at hb
  unfold TM.check
  simp only
  rw [if_neg (by simpa using hf.code), if_neg (by simp [hf.name]), if_neg (by rw [show find us x.name = none from findFrom_none.2 hn]; simp),
    if_neg (by rw [hf.times]; unfold bad; simp; omega), if_neg (by simpa using h.needs x hx), if_neg (by omega), if_neg]
  unfold withOne
  rw [if_neg (by unfold bad; omega)]
  omega

theorem mem_at {ts : List Task} {n : Int} {t : Task} (h0 : 0 ≤ n) (h : ts[n.toNat]? = some t) (res : Int) : need ts n res = needOf t.needs res := by
  unfold need; rw [if_neg (by omega), h]

theorem needOf_bd {us : List Int} (res : Int) : ∀ {l : List Need} {pre : Option Need}, needsFrom us pre l = 0 → (∀ u ∈ us, u ≤ 255) → 0 ≤ needOf l res ∧ (needOf l res = 0 ∨ (0 ≤ res ∧ res < us.length ∧ needOf l res ≤ us.getD res.toNat 0))
  | [], _, _, _ => ⟨Int.le_refl _, .inl rfl⟩
  | n :: l, pre, h, hu => by
    unfold needsFrom at h
    by_cases hr : n.res < 0 ∨ (us.length : Int) ≤ n.res ∨ n.units < 1 ∨ us.getD n.res.toNat 0 < n.units
    · rw [if_pos hr] at h; omega
    · rw [if_neg hr] at h
      have h2 : needsFrom us (some n) l = 0 := by
        cases pre with
        | none => simpa using h
        | some p =>
          simp only at h
          by_cases hq : n.res ≤ p.res
          · simp [hq] at h
          · simpa [hq] using h
      unfold needOf
      split
      · rename_i he
        subst he
        exact ⟨by omega, .inr ⟨by omega, by omega, by omega⟩⟩
      · exact needOf_bd res h2 hu

/-- Levels 1 to k. -/
def sumTo (ts : List Task) : Nat → Int
  | 0 => 0
  | k + 1 => sumTo ts k + largest ts (k + 1 : Nat)
theorem largest_none {ts : List Task} (hf : ∀ t ∈ ts, Fit t) : largest ts 0 = 0 := by
  rcases largestFrom_of (level := 0) (ts := ts) (n := 0) with h | ⟨t, ht, h1, _⟩
  · exact h
  · have := (hf t ht).lev; omega
theorem boundTo_sum {ts : List Task} (hf : ∀ t ∈ ts, Fit t) : ∀ k, boundTo ts (k + 1) = sumTo ts k
  | 0 => by simp [boundTo, sumTo, largest_none hf]
  | k + 1 => by
    rw [boundTo, boundTo_sum hf k]; rfl
theorem bound_sum {ts : List Task} (hf : ∀ t ∈ ts, Fit t) : bound ts = sumTo ts 32 := boundTo_sum hf 32
theorem sumTo_bd {ts : List Task} (hf : ∀ t ∈ ts, Fit t) : ∀ k : Nat, 0 ≤ sumTo ts k ∧ sumTo ts k ≤ 4096 * k
  | 0 => ⟨Int.le_refl _, by simp [sumTo]⟩
  | k + 1 => by
    have h1 := sumTo_bd hf k
    have h2 := largest_bd hf (k + 1 : Nat)
    unfold sumTo; omega
theorem largest_take {ts : List Task} {k : Nat} {t : Task} (h : ts[k]? = some t) (level : Int) : largest (ts.take (k + 1)) level = if t.level = level then max (largest (ts.take k) level) t.frame else largest (ts.take k) level := by
  rw [List.take_add_one, h]; exact largest_app
end Tm
end Go
