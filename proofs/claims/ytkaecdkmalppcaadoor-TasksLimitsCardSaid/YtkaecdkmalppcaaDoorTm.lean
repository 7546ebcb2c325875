/-
  The table of tasks as plain data. No program.
-/
import Derived.Test.YtkaecdkmalppcaaDoorCm
namespace Go
namespace Tm

structure Need where
  res : Int
  units : Int
  deriving DecidableEq, Inhabited
structure Task where
  name : ByteArray
  level : Int
  frame : Int
  needs : List Need
  code : ByteArray
  period : Int
  first : Int
  gap : Int
  deriving DecidableEq, Inhabited
structure TM where
  words : Int
  units : List Int
  ts : List Task

/-- What New refuses. -/
def begins (words : Int) (us : List Int) : Int :=
  if words < 0 ∨ 65536 < words then 1 else if 16 < us.length then 4 else if us.all (fun n => decide (1 ≤ n) && decide (n ≤ 255)) then 0 else 1

def prog (x : Task) : List Cm.Op × Int := Cm.program x.code.data.toList
def gapOk (n : Int) : Bool := decide (0 ≤ n) && decide (n ≤ 1048576)
def timesOk (x : Task) : Bool := gapOk x.period && gapOk x.first && gapOk x.gap && (decide (x.period = 0) || decide (x.gap = 0)) && (decide (0 < x.period) == decide (0 < x.first))
def needsFrom (us : List Int) : Option Need → List Need → Int
  | _, [] => 0
  | pre, n :: l => if n.res < 0 ∨ (us.length : Int) ≤ n.res ∨ n.units < 1 ∨ us.getD n.res.toNat 0 < n.units then 1
    else if (match pre with | some p => decide (n.res ≤ p.res) | none => false) then 21 else needsFrom us (some n) l
def needsErr (us : List Int) (l : List Need) : Int := needsFrom us none l
/-- The first task of a name. -/
def findFrom (name : ByteArray) : List Task → Nat → Option Nat
  | [], _ => none
  | t :: ts, i => if t.name = name then some i else findFrom name ts (i + 1)
def find (ts : List Task) (name : ByteArray) : Option Nat := findFrom name ts 0
def largestFrom (level : Int) : List Task → Int → Int
  | [], n => n
  | t :: ts, n => largestFrom level ts (if t.level = level then max n t.frame else n)
def largest (ts : List Task) (level : Int) : Int := largestFrom level ts 0
def boundTo (ts : List Task) : Nat → Int
  | 0 => 0
  | k + 1 => boundTo ts k + largest ts k
def bound (ts : List Task) : Int := boundTo ts 33
def bad (level frame : Int) : Prop := level < 1 ∨ 32 < level ∨ frame < 0 ∨ 4096 < frame
instance (level frame : Int) : Decidable (bad level frame) := by unfold bad; infer_instance
def withOne (ts : List Task) (level frame : Int) : Int := if bad level frame then bound ts else bound ts + max 0 (frame - largest ts level)
def needOf (l : List Need) (res : Int) : Int := match l with | [] => 0 | n :: l => if n.res = res then n.units else needOf l res
def need (ts : List Task) (n res : Int) : Int := if n < 0 then 0 else match ts[n.toNat]? with | some t => needOf t.needs res | none => 0

def TM.check (m : TM) (x : Task) : Int :=
  if (prog x).2 ≠ 0 then (prog x).2
  else if Cm.legal x.name.data.toList = false then 2
  else if (find m.ts x.name).isSome then 3
  else if bad x.level x.frame ∨ timesOk x = false then 1
  else if needsErr m.units x.needs ≠ 0 then needsErr m.units x.needs
  else if 64 ≤ m.ts.length then 4
  else if m.words < withOne m.ts x.level x.frame then 25
  else 0
def TM.add (m : TM) (x : Task) : Int × Int × TM :=
  if m.check x ≠ 0 then (-1, m.check x, m) else (m.ts.length, 0, { m with ts := m.ts ++ [x] })

/-- What holds of each task that was added, and of all. -/
structure Fit (x : Task) : Prop where
  lev : 1 ≤ x.level ∧ x.level ≤ 32
  frm : 0 ≤ x.frame ∧ x.frame ≤ 4096
  code : (prog x).2 = 0
  name : Cm.legal x.name.data.toList = true
  times : timesOk x = true
structure TM.Ok (m : TM) : Prop where
  begins : begins m.words m.units = 0
  few : m.ts.length ≤ 64
  fit : ∀ x ∈ m.ts, Fit x
  needs : ∀ x ∈ m.ts, needsErr m.units x.needs = 0
  once : (m.ts.map (·.name)).Nodup
  room : bound m.ts ≤ m.words

theorem findFrom_none {name : ByteArray} : ∀ {ts : List Task} {i : Nat}, findFrom name ts i = none ↔ ∀ t ∈ ts, t.name ≠ name
  | [], i => by simp [findFrom]
  | t :: ts, i => by
    unfold findFrom
    by_cases h : t.name = name
    · simp [h]
    · rw [if_neg h, findFrom_none]; simp [h]
theorem findFrom_some {name : ByteArray} : ∀ {ts : List Task} {i k : Nat}, findFrom name ts i = some k → ∃ j t, k = i + j ∧ ts[j]? = some t ∧ t.name = name
  | [], i, k, h => by simp [findFrom] at h
  | t :: ts, i, k, h => by
    unfold findFrom at h
    by_cases hn : t.name = name
    · rw [if_pos hn] at h; cases h; exact ⟨0, t, rfl, rfl, hn⟩
    · rw [if_neg hn] at h
      obtain ⟨j, u, h1, h2, h3⟩ := findFrom_some h
      exact ⟨j + 1, u, by omega, by simpa using h2, h3⟩
theorem find_at {ts : List Task} (hn : (ts.map (·.name)).Nodup) {k : Nat} {t : Task} (h : ts[k]? = some t) : find ts t.name = some k := by
  cases hf : find ts t.name with
  | none => exact absurd rfl (findFrom_none.1 hf t (List.mem_of_getElem? h))
  | some j =>
    obtain ⟨j', u, h1, h2, h3⟩ := findFrom_some hf
    simp only [Nat.zero_add] at h1
    subst h1
    have a1 : (ts.map (·.name))[j]? = some t.name := by simp [h2, h3]
    have a2 : (ts.map (·.name))[k]? = some t.name := by simp [h]
    have hk := (List.getElem?_eq_some_iff.1 a2).1
    have hj := (List.getElem?_eq_some_iff.1 a1).1
    have := (List.getElem_inj (h₀ := hj) (h₁ := hk) hn).1 (by rw [(List.getElem?_eq_some_iff.1 a1).2, (List.getElem?_eq_some_iff.1 a2).2])
    rw [this]

theorem largestFrom_bd {level : Int} : ∀ {ts : List Task} {n : Int}, (∀ t ∈ ts, Fit t) → 0 ≤ n → n ≤ 4096 → 0 ≤ largestFrom level ts n ∧ largestFrom level ts n ≤ 4096 ∧ n ≤ largestFrom level ts n
  | [], n, _, h0, h1 => ⟨h0, h1, Int.le_refl _⟩
  | t :: ts, n, hf, h0, h1 => by
    unfold largestFrom
    have := (hf t (by simp)).frm
    split
    · obtain ⟨a, b, c⟩ := largestFrom_bd (level := level) (ts := ts) (n := max n t.frame) (fun t ht => hf t (by simp [ht])) (by omega) (by omega)
      exact ⟨a, b, by omega⟩
    · exact largestFrom_bd (fun t ht => hf t (by simp [ht])) h0 h1
theorem largest_bd {ts : List Task} (hf : ∀ t ∈ ts, Fit t) (level : Int) : 0 ≤ largest ts level ∧ largest ts level ≤ 4096 :=
  ⟨(largestFrom_bd hf (Int.le_refl _) (by omega)).1, (largestFrom_bd hf (Int.le_refl _) (by omega)).2.1⟩
theorem boundTo_bd {ts : List Task} (hf : ∀ t ∈ ts, Fit t) : ∀ k : Nat, 0 ≤ boundTo ts k ∧ boundTo ts k ≤ 4096 * k
  | 0 => ⟨Int.le_refl _, by simp [boundTo]⟩
  | k + 1 => by
    have h1 := boundTo_bd hf k
    have h2 := largest_bd hf k
    unfold boundTo
    omega
theorem bound_bd {ts : List Task} (hf : ∀ t ∈ ts, Fit t) : 0 ≤ bound ts ∧ bound ts ≤ 135168 := by
  have := boundTo_bd hf 33; unfold bound; omega
theorem withOne_bd {ts : List Task} (hf : ∀ t ∈ ts, Fit t) (level frame : Int) : 0 ≤ withOne ts level frame ∧ withOne ts level frame ≤ 139264 := by
  have := bound_bd hf
  unfold withOne
  split
  · omega
  · rename_i h
    have := largest_bd hf level
    unfold bad at h
    omega

theorem largestFrom_app {level : Int} {x : Task} : ∀ {ts : List Task} {n : Int}, largestFrom level (ts ++ [x]) n = if x.level = level then max (largestFrom level ts n) x.frame else largestFrom level ts n
  | [], n => rfl
  | t :: ts, n => by
    simp only [List.cons_append, largestFrom]; exact largestFrom_app
theorem largest_app {level : Int} {x : Task} {ts : List Task} : largest (ts ++ [x]) level = if x.level = level then max (largest ts level) x.frame else largest ts level := largestFrom_app
theorem boundTo_app {x : Task} {ts : List Task} : ∀ k : Nat, boundTo (ts ++ [x]) k = if 0 ≤ x.level ∧ x.level < k then boundTo ts k + max 0 (x.frame - largest ts x.level) else boundTo ts k
  | 0 => by simp only [boundTo]; split <;> omega
  | k + 1 => by
    simp only [boundTo]
    rw [boundTo_app k, largest_app]
    by_cases h : x.level = k
    · rw [if_neg (by omega), if_pos h, if_pos (by omega), ← h]; omega
    · rw [if_neg h]
      by_cases h2 : 0 ≤ x.level ∧ x.level < k
      · rw [if_pos h2, if_pos (by omega)]; omega
      · rw [if_neg h2, if_neg (by omega)]
theorem bound_app {x : Task} {ts : List Task} (h : 1 ≤ x.level ∧ x.level ≤ 32) : bound (ts ++ [x]) = bound ts + max 0 (x.frame - largest ts x.level) := by
  unfold bound; rw [boundTo_app, if_pos (by omega)]

theorem TM.check_fit {m : TM} {x : Task} (h : m.check x = 0) : Fit x ∧ find m.ts x.name = none ∧ needsErr m.units x.needs = 0 ∧ m.ts.length < 64 ∧ withOne m.ts x.level x.frame ≤ m.words := by
  unfold TM.check at h
  split at h
  · rename_i h1; exact absurd h h1
  · split at h
    · omega
    · split at h
      · omega
      · split at h
        · omega
        · split at h
          · rename_i h1; exact absurd h h1
          · split at h
            · omega
            · split at h
              · omega
              · rename_i h1 h2 h3 h4 h5 h6 h7
                unfold bad at h4
                refine ⟨⟨by omega, by omega, by simpa using h1, by simpa using h2, ?_⟩, ?_, by simpa using h5, by omega, by omega⟩
                · by_cases ht : timesOk x = true
                  · exact ht
                  · exact absurd (.inr (by simpa using ht)) h4
                · cases hq : find m.ts x.name with
                  | none => rfl
                  | some k => rw [hq] at h3; simp at h3
theorem TM.add_ok {m : TM} (h : m.Ok) (x : Task) : (m.add x).2.2.Ok := by
  unfold TM.add
  split
  · exact h
  · rename_i hc
    have hc : m.check x = 0 := by simpa using hc
    obtain ⟨hf, hn, hd, hl, hw⟩ := TM.check_fit hc
    refine ⟨h.begins, by simp; omega, fun t ht => ?_, fun t ht => ?_, ?_, ?_⟩
    · rcases List.mem_append.1 ht with ht | ht
      · exact h.fit t ht
      · obtain rfl := List.mem_singleton.1 ht; exact hf
    · rcases List.mem_append.1 ht with ht | ht
      · exact h.needs t ht
      · obtain rfl := List.mem_singleton.1 ht; exact hd
    · simp only [List.map_append, List.map_cons, List.map_nil]
      rw [List.nodup_append]
      refine ⟨h.once, by simp, fun a ha b hb => ?_⟩
      obtain rfl := List.mem_singleton.1 hb
      obtain ⟨t, ht, rfl⟩ := List.mem_map.1 ha
      exact findFrom_none.1 hn t ht
    · show bound (m.ts ++ [x]) ≤ m.words
      rw [bound_app hf.lev]
      unfold withOne at hw
      have h1 := hf.lev
      have h2 := hf.frm
      rw [if_neg (by unfold bad; omega)] at hw
      exact hw
theorem needs_len {us : List Int} : ∀ {l : List Need} {pre : Option Need}, needsFrom us pre l = 0 → (∀ p, pre = some p → 0 ≤ p.res) → l = [] ∨ (match pre with | none => (l.length : Int) ≤ us.length | some p => (l.length : Int) + p.res + 1 ≤ us.length)
  | [], pre, _, _ => .inl rfl
  | n :: l, pre, h, hp => by
    unfold needsFrom at h
    by_cases hr : n.res < 0 ∨ (us.length : Int) ≤ n.res ∨ n.units < 1 ∨ us.getD n.res.toNat 0 < n.units
    · rw [if_pos hr] at h; omega
    · rw [if_neg hr] at h
      cases pre with
      | none =>
        simp only [Bool.false_eq_true, if_false] at h
        have := needs_len h (fun p hp => by cases hp; omega)
        right
        simp only
        rcases this with rfl | this
        · simp; omega
        · simp only [List.length_cons] at *; omega
      | some p =>
        have hp0 := hp p rfl
        simp only at h
        by_cases hq : n.res ≤ p.res
        · simp [hq] at h
        · simp only [hq, decide_false, Bool.false_eq_true, if_false] at h
          have := needs_len h (fun p hp => by cases hp; omega)
          right
          simp only
          rcases this with rfl | this
          · simp; omega
          · simp only [List.length_cons] at *; omega
theorem needs_few {us : List Int} {l : List Need} (h : needsErr us l = 0) : l.length ≤ us.length := by
  rcases needs_len h (fun p hp => by cases hp) with rfl | h
  · simp
  · simpa using h
end Tm
end Go
