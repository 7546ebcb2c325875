/-
  Texts Tm Tn Tl Te in one.
-/
import Derived.Test.YtnkjjhenfhnajaaGreatDoorG03
import GoSem.Op.String
/-
  The table of tasks as plain data. No program.
-/
namespace Go
namespace Tm

structure Need where
  res : Int
  units : Int
  deriving DecidableEq, Inhabited
structure Task where
  name : ByteArray
  level : Int
  frame : Int
  needs : List Need
  code : ByteArray
  period : Int
  first : Int
  gap : Int
  deriving DecidableEq, Inhabited
structure TM where
  words : Int
  units : List Int
  ts : List Task

/-- What New refuses. -/
def begins (words : Int) (us : List Int) : Int :=
  if words < 0 ∨ 65536 < words then 1 else if 16 < us.length then 4 else if us.all (fun n => decide (1 ≤ n) && decide (n ≤ 255)) then 0 else 1

def prog (x : Task) : List Cm.Op × Int := Cm.program x.code.data.toList
def gapOk (n : Int) : Bool := decide (0 ≤ n) && decide (n ≤ 1048576)
def timesOk (x : Task) : Bool := gapOk x.period && gapOk x.first && gapOk x.gap && (decide (x.period = 0) || decide (x.gap = 0)) && (decide (0 < x.period) == decide (0 < x.first))
def needsFrom (us : List Int) : Option Need → List Need → Int
  | _, [] => 0
  | pre, n :: l => if n.res < 0 ∨ (us.length : Int) ≤ n.res ∨ n.units < 1 ∨ us.getD n.res.toNat 0 < n.units then 1
    else if (match pre with | some p => decide (n.res ≤ p.res) | none => false) then 21 else needsFrom us (some n) l
def needsErr (us : List Int) (l : List Need) : Int := needsFrom us none l
/-- The first task of a name. -/
def findFrom (name : ByteArray) : List Task → Nat → Option Nat
  | [], _ => none
  | t :: ts, i => if t.name = name then some i else findFrom name ts (i + 1)
def find (ts : List Task) (name : ByteArray) : Option Nat := findFrom name ts 0
def largestFrom (level : Int) : List Task → Int → Int
  | [], n => n
  | t :: ts, n => largestFrom level ts (if t.level = level then max n t.frame else n)
def largest (ts : List Task) (level : Int) : Int := largestFrom level ts 0
def boundTo (ts : List Task) : Nat → Int
  | 0 => 0
  | k + 1 => boundTo ts k + largest ts k
def bound (ts : List Task) : Int := boundTo ts 33
def bad (level frame : Int) : Prop := level < 1 ∨ 32 < level ∨ frame < 0 ∨ 4096 < frame
instance (level frame : Int) : Decidable (bad level frame) := by unfold bad; infer_instance
def withOne (ts : List Task) (level frame : Int) : Int := if bad level frame then bound ts else bound ts + max 0 (frame - largest ts level)
def needOf (l : List Need) (res : Int) : Int := match l with | [] => 0 | n :: l => if n.res = res then n.units else needOf l res
def need (ts : List Task) (n res : Int) : Int := if n < 0 then 0 else match ts[n.toNat]? with | some t => needOf t.needs res | none => 0

def TM.check (m : TM) (x : Task) : Int :=
  if (prog x).2 ≠ 0 then (prog x).2
  else if Cm.legal x.name.data.toList = false then 2
  else if (find m.ts x.name).isSome then 3
  else if bad x.level x.frame ∨ timesOk x = false then 1
  else if needsErr m.units x.needs ≠ 0 then needsErr m.units x.needs
  else if 64 ≤ m.ts.length then 4
  else if m.words < withOne m.ts x.level x.frame then 25
  else 0
def TM.add (m : TM) (x : Task) : Int × Int × TM :=
  if m.check x ≠ 0 then (-1, m.check x, m) else (m.ts.length, 0, { m with ts := m.ts ++ [x] })

/-- What holds of each task that was added, and of all. -/
structure Fit (x : Task) : Prop where
  lev : 1 ≤ x.level ∧ x.level ≤ 32
  frm : 0 ≤ x.frame ∧ x.frame ≤ 4096
  code : (prog x).2 = 0
  name : Cm.legal x.name.data.toList = true
  times : timesOk x = true
structure TM.Ok (m : TM) : Prop where
  begins : begins m.words m.units = 0
  few : m.ts.length ≤ 64
  fit : ∀ x ∈ m.ts, Fit x
  needs : ∀ x ∈ m.ts, needsErr m.units x.needs = 0
  once : (m.ts.map (·.name)).Nodup
  room : bound m.ts ≤ m.words

theorem findFrom_none {name : ByteArray} : ∀ {ts : List Task} {i : Nat}, findFrom name ts i = none ↔ ∀ t ∈ ts, t.name ≠ name
  | [], i => by simp [findFrom]
  | t :: ts, i => by
    unfold findFrom
    by_cases h : t.name = name
    · simp [h]
    · rw [if_neg h, findFrom_none]; simp [h]
theorem largestFrom_bd {level : Int} : ∀ {ts : List Task} {n : Int}, (∀ t ∈ ts, Fit t) → 0 ≤ n → n ≤ 4096 → 0 ≤ largestFrom level ts n ∧ largestFrom level ts n ≤ 4096 ∧ n ≤ largestFrom level ts n
  | [], n, _, h0, h1 => ⟨h0, h1, Int.le_refl _⟩
  | t :: ts, n, hf, h0, h1 => by
    unfold largestFrom
    have := (hf t (by simp)).frm
    split
    · obtain ⟨a, b, c⟩ := largestFrom_bd (level := level) (ts := ts) (n := max n t.frame) (fun t ht => hf t (by simp [ht])) (by omega) (by omega)
      exact ⟨a, b, by omega⟩
    · exact largestFrom_bd (fun t ht => hf t (by simp [ht])) h0 h1
theorem largest_bd {ts : List Task} (hf : ∀ t ∈ ts, Fit t) (level : Int) : 0 ≤ largest ts level ∧ largest ts level ≤ 4096 :=
  ⟨(largestFrom_bd hf (Int.le_refl _) (by omega)).1, (largestFrom_bd hf (Int.le_refl _) (by omega)).2.1⟩
theorem boundTo_bd {ts : List Task} (hf : ∀ t ∈ ts, Fit t) : ∀ k : Nat, 0 ≤ boundTo ts k ∧ boundTo ts k ≤ 4096 * k
  | 0 => ⟨Int.le_refl _, by simp [boundTo]⟩
  | k + 1 => by
    have h1 := boundTo_bd hf k
    have h2 := largest_bd hf k
    unfold boundTo
    omega
theorem bound_bd {ts : List Task} (hf : ∀ t ∈ ts, Fit t) : 0 ≤ bound ts ∧ bound ts ≤ 135168 := by
  have := boundTo_bd hf 33; unfold bound; omega
theorem withOne_bd {ts : List Task} (hf : ∀ t ∈ ts, Fit t) (level frame : Int) : 0 ≤ withOne ts level frame ∧ withOne ts level frame ≤ 139264 := by
  have := bound_bd hf
  unfold withOne
  split
  · omega
  · rename_i h
    have := largest_bd hf level
    unfold bad at h
    omega

theorem largestFrom_app {level : Int} {x : Task} : ∀ {ts : List Task} {n : Int}, largestFrom level (ts ++ [x]) n = if x.level = level then max (largestFrom level ts n) x.frame else largestFrom level ts n
  | [], n => rfl
  | t :: ts, n => by
    simp only [List.cons_append, largestFrom]; exact largestFrom_app
theorem largest_app {level : Int} {x : Task} {ts : List Task} : largest (ts ++ [x]) level = if x.level = level then max (largest ts level) x.frame else largest ts level := largestFrom_app
theorem boundTo_app {x : Task} {ts : List Task} : ∀ k : Nat, boundTo (ts ++ [x]) k = if 0 ≤ x.level ∧ x.level < k then boundTo ts k + max 0 (x.frame - largest ts x.level) else boundTo ts k
  | 0 => by simp only [boundTo]; split <;> omega
  | k + 1 => by
    simp only [boundTo]
    rw [boundTo_app k, largest_app]
    by_cases h : x.level = k
    · rw [if_neg (by omega), if_pos h, if_pos (by omega), ← h]; omega
    · rw [if_neg h]
      by_cases h2 : 0 ≤ x.level ∧ x.level < k
      · rw [if_pos h2, if_pos (by omega)]; omega
      · rw [if_neg h2, if_neg (by omega)]
theorem bound_app {x : Task} {ts : List Task} (h : 1 ≤ x.level ∧ x.level ≤ 32) : bound (ts ++ [x]) = bound ts + max 0 (x.frame - largest ts x.level) := by
  unfold bound; rw [boundTo_app, if_pos (by omega)]

theorem TM.check_fit {m : TM} {x : Task} (h : m.check x = 0) : Fit x ∧ find m.ts x.name = none ∧ needsErr m.units x.needs = 0 ∧ m.ts.length < 64 ∧ withOne m.ts x.level x.frame ≤ m.words := by
  unfold TM.check at h
  split at h
  · rename_i h1; exact absurd h h1
  · split at h
    · omega
    · split at h
      · omega
      · split at h
        · omega
        · split at h
          · rename_i h1; exact absurd h h1
          · split at h
            · omega
            · split at h
              · omega
              · rename_i h1 h2 h3 h4 h5 h6 h7
                unfold bad at h4
                refine ⟨⟨by omega, by omega, by simpa using h1, by simpa using h2, ?_⟩, ?_, by simpa using h5, by omega, by omega⟩
                · by_cases ht : timesOk x = true
                  · exact ht
                  · exact absurd (.inr (by simpa using ht)) h4
                · cases hq : find m.ts x.name with
                  | none => rfl
                  | some k => rw [hq] at h3; simp at h3
theorem TM.add_ok {m : TM} (h : m.Ok) (x : Task) : (m.add x).2.2.Ok := by
  unfold TM.add
  split
  · exact h
  · rename_i hc
    have hc : m.check x = 0 := by simpa using hc
    obtain ⟨hf, hn, hd, hl, hw⟩ := TM.check_fit hc
    refine ⟨h.begins, by simp; omega, fun t ht => ?_, fun t ht => ?_, ?_, ?_⟩
    · rcases List.mem_append.1 ht with ht | ht
      · exact h.fit t ht
      · obtain rfl := List.mem_singleton.1 ht; exact hf
    · rcases List.mem_append.1 ht with ht | ht
      · exact h.needs t ht
      · obtain rfl := List.mem_singleton.1 ht; exact hd
    · simp only [List.map_append, List.map_cons, List.map_nil]
      rw [List.nodup_append]
      refine ⟨h.once, by simp, fun a ha b hb => ?_⟩
      obtain rfl := List.mem_singleton.1 hb
      obtain ⟨t, ht, rfl⟩ := List.mem_map.1 ha
      exact findFrom_none.1 hn t ht
    · show bound (m.ts ++ [x]) ≤ m.words
      rw [bound_app hf.lev]
      unfold withOne at hw
      have h1 := hf.lev
      have h2 := hf.frm
      rw [if_neg (by unfold bad; omega)] at hw
      exact hw
theorem needs_len {us : List Int} : ∀ {l : List Need} {pre : Option Need}, needsFrom us pre l = 0 → (∀ p, pre = some p → 0 ≤ p.res) → l = [] ∨ (match pre with | none => (l.length : Int) ≤ us.length | some p => (l.length : Int) + p.res + 1 ≤ us.length)
  | [], pre, _, _ => .inl rfl
  | n :: l, pre, h, hp => by
    unfold needsFrom at h
    by_cases hr : n.res < 0 ∨ (us.length : Int) ≤ n.res ∨ n.units < 1 ∨ us.getD n.res.toNat 0 < n.units
    · rw [if_pos hr] at h; omega
    · rw [if_neg hr] at h
      cases pre with
      | none =>
        simp only [Bool.false_eq_true, if_false] at h
        have := needs_len h (fun p hp => by cases hp; omega)
        right
        simp only
        rcases this with rfl | this
        · simp; omega
        · simp only [List.length_cons] at *; omega
      | some p =>
        have hp0 := hp p rfl
        simp only at h
        by_cases hq : n.res ≤ p.res
        · simp [hq] at h
        · simp only [hq, decide_false, Bool.false_eq_true, if_false] at h
          have := needs_len h (fun p hp => by cases hp; omega)
          right
          simp only
          rcases this with rfl | this
          · simp; omega
          · simp only [List.length_cons] at *; omega
theorem needs_few {us : List Int} {l : List Need} (h : needsErr us l = 0) : l.length ≤ us.length := by
  rcases needs_len h (fun p hp => by cases hp) with rfl | h
  · simp
  · simpa using h
end Tm
end Go

/-
  Rows of names in rising order, each with a number. No program.
-/
namespace Go
namespace Tn

theorem bl_irrefl : ∀ a : List UInt8, Op.bytesLess a a = false
  | [] => rfl
  | a :: x => by simp [Op.bytesLess, bl_irrefl x]
theorem bl_trans : ∀ {a b c : List UInt8}, Op.bytesLess a b = true → Op.bytesLess b c = true → Op.bytesLess a c = true
  | [], [], _, h, _ => by simp [Op.bytesLess] at h
  | _ :: _, [], _, h, _ => by simp [Op.bytesLess] at h
  | _, _ :: _, [], _, h => by simp [Op.bytesLess] at h
  | [], _ :: _, _ :: _, _, _ => rfl
  | a :: x, b :: y, c :: z, h, k => by
    simp only [Op.bytesLess, Bool.or_eq_true, decide_eq_true_eq, Bool.and_eq_true, beq_iff_eq] at *
    rcases h with h | ⟨rfl, h⟩
    · rcases k with k | ⟨rfl, k⟩
      · exact .inl (UInt8.lt_trans h k)
      · exact .inl h
    · rcases k with k | ⟨rfl, k⟩
      · exact .inl k
      · exact .inr ⟨rfl, bl_trans h k⟩
theorem bl_tri : ∀ {a b : List UInt8}, Op.bytesLess a b = false → a ≠ b → Op.bytesLess b a = true
  | [], [], _, h => absurd rfl h
  | [], _ :: _, h, _ => by simp [Op.bytesLess] at h
  | _ :: _, [], _, _ => rfl
  | a :: x, b :: y, h, hn => by
    simp only [Op.bytesLess, Bool.or_eq_false_iff, decide_eq_false_iff_not, Bool.and_eq_false_iff, beq_eq_false_iff_ne, Bool.or_eq_true, decide_eq_true_eq, Bool.and_eq_true, beq_iff_eq] at *
    obtain ⟨h1, h2⟩ := h
    by_cases hab : a = b
    · subst hab
      rcases h2 with h2 | h2
      · exact absurd rfl h2
      · exact .inr ⟨rfl, bl_tri h2 (fun e => hn (by rw [e]))⟩
    · refine .inl ?_
      rcases Nat.lt_or_ge b.toNat a.toNat with h | h
      · exact UInt8.lt_iff_toNat_lt.2 h
      · have : a.toNat ≠ b.toNat := fun e => hab (UInt8.toNat_inj.1 e)
        exact absurd (UInt8.lt_iff_toNat_lt.2 (by omega)) h1

def less (a b : ByteArray) : Bool := Op.bytesLess a.toList b.toList
theorem less_irrefl (a : ByteArray) : less a a = false := bl_irrefl _
theorem less_trans {a b c : ByteArray} (h : less a b = true) (k : less b c = true) : less a c = true := bl_trans h k
theorem toList_inj {a b : ByteArray} (h : a.toList = b.toList) : a = b := by
  rw [ByteArray.toList_eq, ByteArray.toList_eq] at h
  have : a.data = b.data := Array.toList_inj.1 h
  cases a; cases b; simp_all
theorem less_tri {a b : ByteArray} (h : less a b = false) (hn : a ≠ b) : less b a = true := bl_tri h fun e => hn (toList_inj e)

abbrev Row := ByteArray × Nat
/-- Rising. -/
def Rise (ns : List Row) : Prop := ns.Pairwise fun a b => less a.1 b.1 = true
/-- How many names stand below k. -/
def below (k : ByteArray) (ns : List Row) : Nat := (ns.takeWhile fun a => less a.1 k).length

theorem below_le (k : ByteArray) (ns : List Row) : below k ns ≤ ns.length := (List.takeWhile_prefix _).length_le
theorem below_cons (k : ByteArray) (a : Row) (ns : List Row) : below k (a :: ns) = if less a.1 k = true then below k ns + 1 else 0 := by
  unfold below; rw [List.takeWhile_cons]; split <;> simp
/-- Ahead of that place all are less, from there on none is. -/
theorem below_iff {k : ByteArray} : ∀ {ns : List Row}, Rise ns → ∀ {i : Nat} {a : Row}, ns[i]? = some a → (less a.1 k = true ↔ i < below k ns)
  | [], _, i, a, h => by simp at h
  | x :: ns, hr, i, a, h => by
    obtain ⟨h1, h2⟩ := List.pairwise_cons.1 hr
    rw [below_cons]
    cases i with
    | zero =>
      obtain rfl : x = a := by simpa using h
      split <;> simp_all
    | succ i =>
      have h : ns[i]? = some a := by simpa using h
      have ih := below_iff (k := k) h2 h
      split
      · rw [ih]; omega
      · rename_i hx
        constructor
        · intro ha; exact absurd (less_trans (h1 a (List.mem_of_getElem? h)) ha) hx
        · omega
/-- Whether k stands at that place. -/
def foundAt (k : ByteArray) (ns : List Row) : Bool := match ns[below k ns]? with | some a => decide (a.1 = k) | none => false
theorem foundAt_iff {k : ByteArray} {ns : List Row} (hr : Rise ns) : foundAt k ns = true ↔ ∃ a ∈ ns, a.1 = k := by
  unfold foundAt
  constructor
  · intro h
    split at h
    · rename_i a ha; exact ⟨a, List.mem_of_getElem? ha, by simpa using h⟩
    · cases h
  · rintro ⟨a, ha, rfl⟩
    obtain ⟨i, hi⟩ := List.getElem?_of_mem ha
    have h1 := below_iff (k := a.1) hr hi
    rw [less_irrefl] at h1
    have h1 : ¬ i < below a.1 ns := fun h => by simpa using h1.2 h
    have hlt := (List.getElem?_eq_some_iff.1 hi).1
    have hb : below a.1 ns < ns.length := by omega
    have h2 := List.getElem?_eq_getElem hb
    rw [h2]
    simp only [decide_eq_true_eq]
    have h3 := below_iff (k := a.1) hr h2
    rcases Nat.lt_or_ge (below a.1 ns) i with h | h
    · have h4 := (List.pairwise_iff_getElem.1 hr) _ _ hb hlt h
      rw [(List.getElem?_eq_some_iff.1 hi).2] at h4
      exact absurd (h3.1 h4) (by omega)
    · have e : below a.1 ns = i := by omega
      simp only [e]
      exact congrArg Prod.fst (List.getElem?_eq_some_iff.1 hi).2
/-- What k has. -/
def atOf (k : ByteArray) (ns : List Row) : Nat := match ns[below k ns]? with | some a => a.2 | none => 0

/-- The rows of just the names that have a number. -/
def Rows (f : ByteArray → Option Nat) (ns : List Row) : Prop := Rise ns ∧ ∀ k v, (k, v) ∈ ns ↔ f k = some v
theorem Rows.found {f : ByteArray → Option Nat} {ns : List Row} (h : Rows f ns) (k : ByteArray) : foundAt k ns = (f k).isSome ∧ (foundAt k ns = true → atOf k ns = (f k).getD 0) := by
  have h1 := foundAt_iff (k := k) h.1
  have h2 : foundAt k ns = (f k).isSome := by
    cases hf : f k with
    | none =>
      simp only [Option.isSome_none]
      cases hq : foundAt k ns
      · rfl
      · obtain ⟨a, ha, e⟩ := h1.1 hq
        obtain ⟨n, v⟩ := a
        simp only at e; subst e
        rw [(h.2 n v).1 ha] at hf; cases hf
    | some v =>
      simp only [Option.isSome_some]
      exact h1.2 ⟨(k, v), (h.2 k v).2 hf, rfl⟩
  refine ⟨h2, fun hq => ?_⟩
  unfold foundAt at hq
  unfold atOf
  split at hq
  · rename_i a ha
    have hk : a.1 = k := by simpa using hq
    obtain ⟨n, v⟩ := a
    simp only at hk; subst hk
    rw [(h.2 n v).1 (List.mem_of_getElem? ha)]; rfl
  · cases hq
/-- One more. -/
def laid (k : ByteArray) (v : Nat) (ns : List Row) : List Row := ns.take (below k ns) ++ (k, v) :: ns.drop (below k ns)
theorem rise_laid {k : ByteArray} {v : Nat} {ns : List Row} (h : Rise ns) (hk : ∀ a ∈ ns, a.1 ≠ k) : Rise (laid k v ns) := by
  unfold laid Rise
  rw [List.pairwise_append]
  have hs : (ns.take (below k ns) ++ ns.drop (below k ns)).Pairwise fun a b => less a.1 b.1 = true := by rw [List.take_append_drop]; exact h
  obtain ⟨h1, h2, h3⟩ := List.pairwise_append.1 hs
  have lo : ∀ a ∈ ns.take (below k ns), less a.1 k = true := fun a ha => by
    obtain ⟨i, hi⟩ := List.getElem?_of_mem ha
    rw [List.getElem?_take] at hi
    split at hi
    · rename_i hlt; exact (below_iff h hi).2 hlt
    · cases hi
  have hi : ∀ a ∈ ns.drop (below k ns), less k a.1 = true := fun a ha => by
    obtain ⟨i, hi⟩ := List.getElem?_of_mem ha
    rw [List.getElem?_drop] at hi
    have h4 := below_iff (k := k) h hi
    refine less_tri ?_ (hk a (List.mem_of_mem_drop ha))
    cases hq : less a.1 k
    · rfl
    · have := h4.1 hq; omega
  refine ⟨h1, List.pairwise_cons.2 ⟨hi, h2⟩, fun a ha b hb => ?_⟩
  rcases List.mem_cons.1 hb with rfl | hb
  · exact lo a ha
  · exact h3 a ha b hb
theorem Rows.add {f g : ByteArray → Option Nat} {ns : List Row} (h : Rows f ns) {k : ByteArray} {v : Nat} (hk : f k = none) (hg : ∀ x, g x = if x = k then some v else f x) : Rows g (laid k v ns) := by
  have hn : ∀ a ∈ ns, a.1 ≠ k := fun a ha e => by
    obtain ⟨n, u⟩ := a
    simp only at e; subst e
    rw [(h.2 n u).1 ha] at hk; cases hk
  refine ⟨rise_laid h.1 hn, fun x u => ?_⟩
  have hm : (x, u) ∈ laid k v ns ↔ (x, u) = (k, v) ∨ (x, u) ∈ ns := by
    unfold laid
    conv => rhs; rw [← List.take_append_drop (below k ns) ns]
    simp only [List.mem_append, List.mem_cons]
    constructor
    · rintro (h | h | h)
      · exact .inr (.inl h)
      · exact .inl h
      · exact .inr (.inr h)
    · rintro (h | h | h)
      · exact .inr (.inl h)
      · exact .inl h
      · exact .inr (.inr h)
  rw [hm, h.2, hg]
  by_cases hx : x = k
  · subst hx
    rw [if_pos rfl, hk]
    simp only [Prod.mk.injEq, true_and, Option.some.injEq, reduceCtorEq, or_false]
    exact eq_comm
  · rw [if_neg hx]
    simp [hx]
theorem Rows.nil : Rows (fun _ => none) [] := ⟨List.Pairwise.nil, fun _ _ => by simp⟩

open Tm in
theorem find_add {ts : List Task} {x : Task} (h : find ts x.name = none) (n : ByteArray) : find (ts ++ [x]) n = if n = x.name then some ts.length else find ts n := by
  have gen : ∀ (ts : List Task) (i : Nat), (∀ t ∈ ts, t.name ≠ x.name) → findFrom n (ts ++ [x]) i = if n = x.name then some (i + ts.length) else findFrom n ts i := by
    intro ts
    induction ts with
    | nil =>
      intro i _
      simp only [List.nil_append, findFrom, List.length_nil, Nat.add_zero]
      by_cases hx : x.name = n
      · simp [hx]
      · rw [if_neg hx, if_neg (fun e => hx e.symm)]
    | cons t ts ih =>
      intro i hn
      simp only [List.cons_append, findFrom]
      rw [ih (i + 1) fun t ht => hn t (by simp [ht])]
      by_cases ht : t.name = n
      · rw [if_pos ht, if_pos ht, if_neg (fun e => hn t (by simp) (by rw [ht, e]))]
      · rw [if_neg ht, if_neg ht]
        simp only [List.length_cons]
        rw [show i + 1 + ts.length = i + (ts.length + 1) by omega]
  have := gen ts 0 (findFrom_none.1 h)
  simpa [find] using this
end Tn
end Go

/-
  Plain laws of the table of tasks: greatest frames of lists with the same tasks; a turned order. No program.
-/
namespace Go
namespace Tm

/-- Levels 1 to k. -/
def sumTo (ts : List Task) : Nat → Int
  | 0 => 0
  | k + 1 => sumTo ts k + largest ts (k + 1 : Nat)
theorem largest_take {ts : List Task} {k : Nat} {t : Task} (h : ts[k]? = some t) (level : Int) : largest (ts.take (k + 1)) level = if t.level = level then max (largest (ts.take k) level) t.frame else largest (ts.take k) level := by
  rw [List.take_add_one, h]; exact largest_app
end Tm
end Go

/-
  Which refusals a program's text has; when a task is refused for the stack. No program.
-/
namespace Go
namespace Cm
def okE (e : Int) : Prop := e = 4 ∨ e = 5 ∨ e = 30 ∨ e = 31 ∨ e = 32
theorem readF_err {len : Int} : ∀ {ps : List Place} {o : Op} {ts : List Tok} {i e : Int}, readF len ps o ts = .err i e → okE e
  | [], _, _, _, _, h => by simp [readF] at h
  | _ :: _, _, [], _, _, h => by simp only [readF, Res.err.injEq] at h; exact .inr (.inr (.inr (.inl h.2.symm)))
  | p :: ps, o, (i, w) :: ts, j, e, h => by
    unfold readF at h
    split at h
    · split at h
      · exact readF_err h
      · simp only [Res.err.injEq] at h; exact .inr (.inr (.inl h.2.symm))
    · simp only [Res.err.injEq] at h; exact .inr (.inr (.inl h.2.symm))
theorem one_err {len : Int} {k : Nat} {ts : List Tok} {i e : Int} (h : one len k ts = .err i e) : okE e := by
  unfold one at h
  split at h
  · rename_i i' e' hr
    simp only [Res.err.injEq] at h
    rw [← h.2]; exact readF_err hr
  · split at h
    · split at h
      · rename_i i' e' hb
        simp only [Res.err.injEq] at h
        rw [← h.2]
        unfold brace at hb
        split at hb
        · simp only [Res.err.injEq] at hb; exact .inr (.inr (.inr (.inl hb.2.symm)))
        · split at hb
          · cases hb
          · simp only [Res.err.injEq] at hb; exact .inr (.inr (.inl hb.2.symm))
      · cases h
    · cases h
theorem parseT_err {len : Int} : ∀ {f : Nat} {ts : List Tok} {ops : List Op} {opn i e : Int}, parseT len f ts ops opn = .err i e → okE e
  | _, [], ops, opn, i, e, h => by
    unfold parseT at h
    split at h
    · simp only [Res.err.injEq] at h; exact .inr (.inr (.inr (.inl h.2.symm)))
    · cases h
  | 0, _ :: _, _, _, _, _, h => by simp [parseT] at h
  | f + 1, (i, w) :: ts, ops, opn, j, e, h => by
    unfold parseT at h
    split at h
    · rename_i hb
      simp only [Res.err.injEq] at h
      rw [← h.2]
      unfold begins at hb ⊢
      split
      · exact .inl rfl
      · rename_i h1
        rw [if_neg h1] at hb
        split
        · exact .inr (.inr (.inl rfl))
        · rename_i h2
          rw [if_neg h2] at hb
          split
          · exact .inr (.inr (.inr (.inr rfl)))
          · rename_i h3
            rw [if_neg h3] at hb; exact absurd rfl hb
    · split at h
      · rename_i i' e' ho
        simp only [Res.err.injEq] at h
        rw [← h.2]; exact one_err ho
      · exact parseT_err h
end Cm
namespace Tm
end Tm
end Go
