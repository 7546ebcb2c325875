/-
  Terms as plain data, and their laws. No program.
-/
import Derived.Test.YtdjgijndcjbpiaaGreatDoorAb
namespace Go
namespace Ad
open Tm

/-- The greatest of some of a list's numbers, from b on. -/
def gmaxFrom {α : Type} (P : α → Bool) (f : α → Int) : List α → Int → Int
  | [], b => b
  | p :: l, b => gmaxFrom P f l (if P p then max b (f p) else b)
def gmax {α : Type} (P : α → Bool) (f : α → Int) (l : List α) : Int := gmaxFrom P f l 0
section
variable {α : Type} {P : α → Bool} {f : α → Int}
theorem gmaxFrom_app {x : α} : ∀ {l : List α} {b : Int}, gmaxFrom P f (l ++ [x]) b = if P x then max (gmaxFrom P f l b) (f x) else gmaxFrom P f l b
  | [], _ => rfl
  | p :: l, b => by simp only [List.cons_append, gmaxFrom]; exact gmaxFrom_app
theorem gmax_app {x : α} {l : List α} : gmax P f (l ++ [x]) = if P x then max (gmax P f l) (f x) else gmax P f l := gmaxFrom_app
theorem gmax_take {l : List α} {k : Nat} {x : α} (h : l[k]? = some x) : gmax P f (l.take (k + 1)) = if P x then max (gmax P f (l.take k)) (f x) else gmax P f (l.take k) := by
  obtain ⟨hk, rfl⟩ := List.getElem?_eq_some_iff.1 h
  rw [List.take_succ_eq_append_getElem hk, gmax_app]
theorem gmaxFrom_ge : ∀ {l : List α} {b : Int}, b ≤ gmaxFrom P f l b ∧ ∀ p ∈ l, P p = true → f p ≤ gmaxFrom P f l b
  | [], b => ⟨Int.le_refl _, by simp⟩
  | q :: l, b => by
    unfold gmaxFrom
    have hb : ∀ c : Int, (if P q then max b (f q) else b) = c → b ≤ c ∧ (P q = true → f q ≤ c) := fun c hc => by
      split at hc
      · omega
      · rename_i hn; exact ⟨by omega, fun e => absurd e hn⟩
    generalize (if P q then max b (f q) else b) = c at *
    have hi := gmaxFrom_ge (l := l) (b := c)
    have hb := hb c rfl
    refine ⟨by omega, fun p hp hP => ?_⟩
    rcases List.mem_cons.1 hp with rfl | hp
    · have := hb.2 hP; omega
    · exact hi.2 p hp hP
theorem gmax_ge0 (l : List α) : 0 ≤ gmax P f l := gmaxFrom_ge.1
theorem gmax_ge {l : List α} {p : α} (hp : p ∈ l) (hP : P p = true) : f p ≤ gmax P f l := gmaxFrom_ge.2 p hp hP
theorem gmaxFrom_is : ∀ {l : List α} {b : Int}, gmaxFrom P f l b = b ∨ ∃ p ∈ l, P p = true ∧ gmaxFrom P f l b = f p
  | [], b => .inl rfl
  | q :: l, b => by
    unfold gmaxFrom
    rcases gmaxFrom_is (l := l) (b := if P q then max b (f q) else b) with h | ⟨p, h1, h2, h3⟩
    · rw [h]
      split
      · rename_i hq
        by_cases hl : b ≤ f q
        · exact .inr ⟨q, by simp, hq, by omega⟩
        · exact .inl (by omega)
      · exact .inl rfl
    · exact .inr ⟨p, by simp [h1], h2, h3⟩
theorem gmax_is (P : α → Bool) (f : α → Int) (l : List α) : gmax P f l = 0 ∨ ∃ p ∈ l, P p = true ∧ gmax P f l = f p := gmaxFrom_is
theorem gmax_mono {Q : α → Bool} {l r : List α} (h : ∀ p ∈ l, P p = true → p ∈ r ∧ Q p = true) : gmax P f l ≤ gmax Q f r := by
  rcases gmax_is P f l with e | ⟨p, h1, h2, h3⟩
  · rw [e]; exact gmax_ge0 _
  · rw [h3]; obtain ⟨a, b⟩ := h p h1 h2; exact gmax_ge a b
theorem gmax_le {l : List α} {c : Int} (h0 : 0 ≤ c) (h : ∀ p ∈ l, P p = true → f p ≤ c) : gmax P f l ≤ c := by
  rcases gmax_is P f l with e | ⟨p, h1, h2, h3⟩
  · omega
  · rw [h3]; exact h p h1 h2
end

def Sec.len (s : Sec) : Int := (s.upto : Int) - s.frm
def secsOf (t : Task) : List Sec := sections (needOf t.needs) (prog t).1
def secsAt (ts : List Task) (j : Nat) : List Sec := match ts[j]? with | some t => secsOf t | none => []
/-- The sections of tasks of lower levels. -/
def lowOne (lev : Int) (ts : List Task) (j : Nat) : List (Nat × Sec) := match ts[j]? with
  | some t => if t.level < lev then (secsOf t).map (Prod.mk j) else []
  | none => []
def lowsTo (lev : Int) (ts : List Task) : Nat → List (Nat × Sec)
  | 0 => []
  | k + 1 => lowsTo lev ts k ++ lowOne lev ts k
def lows (lev : Int) (ts : List Task) : List (Nat × Sec) := lowsTo lev ts ts.length
theorem lowsTo_mem {lev : Int} {ts : List Task} {j : Nat} {s : Sec} : ∀ {k : Nat}, (j, s) ∈ lowsTo lev ts k ↔ j < k ∧ ∃ t, ts[j]? = some t ∧ t.level < lev ∧ s ∈ secsOf t
  | 0 => by simp [lowsTo]
  | k + 1 => by
    unfold lowsTo
    rw [List.mem_append, lowsTo_mem]
    have h1 : (j, s) ∈ lowOne lev ts k ↔ j = k ∧ ∃ t, ts[j]? = some t ∧ t.level < lev ∧ s ∈ secsOf t := by
      unfold lowOne
      constructor
      · intro h
        split at h
        · rename_i t ht
          split at h
          · rename_i hl
            obtain ⟨q, hq, e⟩ := List.mem_map.1 h
            cases e
            exact ⟨rfl, t, ht, hl, hq⟩
          · simp at h
        · simp at h
      · rintro ⟨rfl, t, ht, hl, hs⟩
        rw [ht]
        simp only
        rw [if_pos hl]
        exact List.mem_map.2 ⟨s, hs, rfl⟩
    rw [h1]
    constructor
    · rintro (⟨h, r⟩ | ⟨rfl, r⟩)
      · exact ⟨by omega, r⟩
      · exact ⟨by omega, r⟩
    · rintro ⟨h, r⟩
      by_cases e : j = k
      · exact .inr ⟨e, r⟩
      · exact .inl ⟨by omega, r⟩
theorem lows_mem {lev : Int} {ts : List Task} {j : Nat} {s : Sec} : (j, s) ∈ lows lev ts ↔ ∃ t, ts[j]? = some t ∧ t.level < lev ∧ s ∈ secsOf t := by
  unfold lows
  rw [lowsTo_mem]
  exact ⟨fun h => h.2, fun ⟨t, h, r⟩ => ⟨(List.getElem?_eq_some_iff.1 h).1, t, h, r⟩⟩

def taskI (ts : List Task) (id : Int) : Option Task := if id < 0 then none else ts[id.toNat]?
def levAt (ts : List Task) (id : Int) : Option Int := if id < 0 then none else (ts[id.toNat]?).map (·.level)
def lowsId (ts : List Task) (id : Int) : List (Nat × Sec) := match levAt ts id with | some lev => lows lev ts | none => []
def termP (m : TM) (lev : Int) (p : Nat × Sec) : Bool := decide (lev ≤ m.ceilAt p.2.res 0)
def lenP (p : Nat × Sec) : Int := p.2.len
def termL (m : TM) (lev : Int) : Int := gmax (termP m lev) lenP (lows lev m.ts)
def longL (m : TM) (lev : Int) : Int := gmax (fun _ => true) lenP (lows lev m.ts)
def term (m : TM) (id : Int) : Int := match levAt m.ts id with | some lev => termL m lev | none => 0
def longest (m : TM) (id : Int) : Int := match levAt m.ts id with | some lev => longL m lev | none => 0
def cost (ts : List Task) (id : Int) : Int := if id < 0 then 0 else match ts[id.toNat]? with | some t => (prog t).1.length | none => 0
def secsI (ts : List Task) (id : Int) : List Sec := if id < 0 then [] else secsAt ts id.toNat
structure Hit where
  task : Int
  frm : Int
  upto : Int
  deriving DecidableEq
def sureP (m : TM) (lev : Int) (s : Sec) : Bool := decide (lev ≤ m.ceilAt s.res (m.unitsOf s.res - s.held))
def sureStep (m : TM) (lev : Int) (h : Hit × Bool) (p : Nat × Sec) : Hit × Bool :=
  if sureP m lev p.2 = true ∧ (h.2 = false ∨ h.1.upto - h.1.frm < p.2.len) then (⟨p.1, p.2.frm, p.2.upto⟩, true) else h
def sureFrom (m : TM) (lev : Int) (l : List (Nat × Sec)) : Hit × Bool := l.foldl (sureStep m lev) (⟨0, 0, 0⟩, false)
def sureL (m : TM) (lev : Int) : Hit × Bool := sureFrom m lev (lows lev m.ts)
def sure (m : TM) (id : Int) : Hit × Bool := match levAt m.ts id with | some lev => sureL m lev | none => (⟨0, 0, 0⟩, false)
def greatest (m : TM) : Int := gmax (fun _ => true) (fun k : Nat => term m k) (List.range m.ts.length)

/-- What a fit task's sections are. -/
theorem secs_ok {t : Task} (h : Fit t) : SecsOk (needOf t.needs) (prog t).1 (secsOf t) := by
  obtain ⟨q, o, e, h9, _, hs⟩ := Cm.program_sound h.code
  have e' : (prog t).1 = q ++ [o] := e
  exact sections_ok _ e' h9 (by rw [e']; exact hs)
theorem sec_mem {t : Task} (h : Fit t) {s : Sec} (hs : s ∈ secsOf t) : SecOk (needOf t.needs) (prog t).1 s ∧ SecEnd (prog t).1 s ∧ s.upto < (prog t).1.length := by
  obtain ⟨k, hk⟩ := List.getElem?_of_mem hs
  exact (secs_ok h).each k s hk
theorem sec_len {t : Task} (h : Fit t) {s : Sec} (hs : s ∈ secsOf t) : 1 ≤ s.len := by
  have := (sec_mem h hs).2.1.lt
  unfold Sec.len; omega
theorem sec_has {m : TM} (hm : m.Ok) {t : Task} (ht : t ∈ m.ts) {s : Sec} (hs : s ∈ secsOf t) : m.has s.res ∧ 1 ≤ s.held ∧ s.held ≤ m.unitsOf s.res := by
  have h := (sec_mem (hm.fit t ht) hs).1
  have h1 := h.units
  have h2 := h.held
  rcases needs_of (hm.needs t ht) s.res with e | ⟨a, b, c, d⟩
  · omega
  · exact ⟨⟨a, b⟩, by omega, by unfold TM.unitsOf; omega⟩

section
variable {m : TM}
theorem term_le_long (lev : Int) : termL m lev ≤ longL m lev := gmax_mono fun _ hp _ => ⟨hp, rfl⟩
theorem long_mono {a b : Int} (h : b ≤ a) : longL m b ≤ longL m a := gmax_mono fun p hp _ => by
  obtain ⟨j, s⟩ := p
  obtain ⟨t, h1, h2, h3⟩ := lows_mem.1 hp
  exact ⟨lows_mem.2 ⟨t, h1, by omega, h3⟩, rfl⟩
theorem lows_nil {lev : Int} (h : ∀ t ∈ m.ts, ¬ t.level < lev) : lows lev m.ts = [] := by
  refine List.eq_nil_iff_forall_not_mem.2 fun p hp => ?_
  obtain ⟨j, s⟩ := p
  obtain ⟨t, h1, h2, h3⟩ := lows_mem.1 hp
  exact h t (List.mem_of_getElem? h1) h2
theorem lowest {lev : Int} (h : ∀ t ∈ m.ts, ¬ t.level < lev) : termL m lev = 0 ∧ longL m lev = 0 := by
  unfold termL longL
  rw [lows_nil h]; exact ⟨rfl, rfl⟩
theorem term_is (lev : Int) : termL m lev = 0 ∨ ∃ (j : Nat) (t : Task) (s : Sec), m.ts[j]? = some t ∧ t.level < lev ∧ s ∈ secsOf t ∧ termL m lev = s.len := by
  rcases gmax_is (termP m lev) lenP (lows lev m.ts) with e | ⟨⟨j, s⟩, h1, _, h3⟩
  · exact .inl e
  · obtain ⟨t, h4, h5, h6⟩ := lows_mem.1 h1
    exact .inr ⟨j, t, s, h4, h5, h6, h3⟩
theorem sure_fold (lev : Int) : ∀ (l : List (Nat × Sec)) (h : Hit × Bool) {r : Hit × Bool}, l.foldl (sureStep m lev) h = r → r.2 = true → (r = h) ∨ ∃ p ∈ l, sureP m lev p.2 = true ∧ r.1 = ⟨p.1, p.2.frm, p.2.upto⟩
  | [], h, r, e, _ => .inl e.symm
  | p :: l, h, r, e, hr => by
    rw [List.foldl_cons] at e
    rcases sure_fold lev l _ e hr with h1 | ⟨q, h1, h2, h3⟩
    · unfold sureStep at h1
      split at h1
      · rename_i hp
        exact .inr ⟨p, by simp, hp.1, by rw [h1]⟩
      · exact .inl h1
    · exact .inr ⟨q, by simp [h1], h2, h3⟩
theorem sure_is {lev : Int} (h : (sureL m lev).2 = true) : ∃ (j : Nat) (t : Task) (s : Sec), m.ts[j]? = some t ∧ t.level < lev ∧ s ∈ secsOf t ∧ sureP m lev s = true ∧ (sureL m lev).1 = ⟨j, s.frm, s.upto⟩ := by
  rcases sure_fold lev (lows lev m.ts) _ rfl h with e | ⟨⟨j, s⟩, h1, h2, h3⟩
  · have : (sureL m lev).2 = false := by
      have e' : sureL m lev = (⟨0, 0, 0⟩, false) := e
      rw [e']
    rw [this] at h; cases h
  · obtain ⟨t, h4, h5, h6⟩ := lows_mem.1 h1
    exact ⟨j, t, s, h4, h5, h6, h2, h3⟩
theorem sure_term (hm : m.Ok) {lev : Int} (h : (sureL m lev).2 = true) : (sureL m lev).1.upto - (sureL m lev).1.frm ≤ termL m lev ∧ (sureL m lev).1.frm < (sureL m lev).1.upto := by
  obtain ⟨j, t, s, h1, h2, h3, h4, h5⟩ := sure_is h
  rw [h5]
  have ht := List.mem_of_getElem? h1
  have hl := (sec_mem (hm.fit t ht) h3).2.1.lt
  obtain ⟨k1, k2, k3⟩ := sec_has hm ht h3
  refine ⟨?_, by simp only; omega⟩
  refine gmax_ge (P := termP m lev) (f := lenP) (p := (j, s)) (lows_mem.2 ⟨t, h1, h2, h3⟩) ?_
  unfold sureP at h4
  unfold termP
  simp only [decide_eq_true_eq] at h4 ⊢
  rw [ceilAt_eq hm] at h4 ⊢
  refine Int.le_trans h4 (ceil0_anti ?_)
  omega
theorem greatest_ge {k : Nat} (h : k < m.ts.length) : term m k ≤ greatest m := gmax_ge (P := fun _ => true) (f := fun k : Nat => term m k) (p := k) (List.mem_range.2 h) rfl

/-- One more task. -/
theorem lows_app {lev : Int} {x : Task} {j : Nat} {s : Sec} : (j, s) ∈ lows lev (m.ts ++ [x]) ↔ (j, s) ∈ lows lev m.ts ∨ (j = m.ts.length ∧ x.level < lev ∧ s ∈ secsOf x) := by
  rw [lows_mem, lows_mem]
  constructor
  · rintro ⟨t, h1, h2, h3⟩
    by_cases hj : j < m.ts.length
    · rw [List.getElem?_append_left hj] at h1; exact .inl ⟨t, h1, h2, h3⟩
    · have hl := (List.getElem?_eq_some_iff.1 h1).1
      rw [List.length_append, List.length_singleton] at hl
      obtain rfl : j = m.ts.length := by omega
      rw [List.getElem?_append_right (Nat.le_refl _), Nat.sub_self] at h1
      simp only [List.getElem?_cons_zero, Option.some.injEq] at h1
      subst h1
      exact .inr ⟨rfl, h2, h3⟩
  · rintro (⟨t, h1, h2, h3⟩ | ⟨rfl, h2, h3⟩)
    · have hl := (List.getElem?_eq_some_iff.1 h1).1
      exact ⟨t, by rw [List.getElem?_append_left hl]; exact h1, h2, h3⟩
    · exact ⟨x, by rw [List.getElem?_append_right (Nat.le_refl _), Nat.sub_self]; rfl, h2, h3⟩
theorem ceilAt_more {x : Task} (hm : m.Ok) (hm' : TM.Ok ⟨m.words, m.units, m.ts ++ [x]⟩) (res free : Int) : m.ceilAt res free ≤ TM.ceilAt ⟨m.words, m.units, m.ts ++ [x]⟩ res free := by
  rw [ceilAt_eq hm, ceilAt_eq hm']
  rw [ceil0_app]
  split <;> omega
theorem term_more {x : Task} (hm : m.Ok) (hm' : TM.Ok ⟨m.words, m.units, m.ts ++ [x]⟩) (lev : Int) : termL m lev ≤ termL ⟨m.words, m.units, m.ts ++ [x]⟩ lev :=
  gmax_mono fun p hp hP => by
    obtain ⟨j, s⟩ := p
    refine ⟨lows_app.2 (.inl hp), ?_⟩
    unfold termP at hP ⊢
    simp only [decide_eq_true_eq] at hP ⊢
    exact Int.le_trans hP (ceilAt_more hm hm' _ _)
/-- Where no ceiling is raised: only the new task's own sections count. -/
theorem term_same {x : Task} (hm' : TM.Ok ⟨m.words, m.units, m.ts ++ [x]⟩) {lev : Int} (hr : ∀ r : Nat, r < m.units.length → TM.ceilAt ⟨m.words, m.units, m.ts ++ [x]⟩ r 0 ≤ m.ceilAt r 0) :
    termL ⟨m.words, m.units, m.ts ++ [x]⟩ lev ≤ termL m lev ∨ (x.level < lev ∧ ∃ s ∈ secsOf x, termL ⟨m.words, m.units, m.ts ++ [x]⟩ lev = s.len) := by
  rcases gmax_is (termP ⟨m.words, m.units, m.ts ++ [x]⟩ lev) lenP (lows lev (m.ts ++ [x])) with e | ⟨⟨j, s⟩, h1, h2, h3⟩
  · left; exact (show termL ⟨m.words, m.units, m.ts ++ [x]⟩ lev = 0 from e) ▸ gmax_ge0 _
  · rcases lows_app.1 h1 with h4 | ⟨_, h5, h6⟩
    · left
      refine Int.le_trans (Int.le_of_eq h3) (gmax_ge (P := termP m lev) (f := lenP) h4 ?_)
      obtain ⟨t, k1, k2, k3⟩ := lows_mem.1 h4
      have hh := (sec_has hm' (List.mem_append_left _ (List.mem_of_getElem? k1)) k3).1
      unfold TM.has at hh
      simp only at hh
      have := hr s.res.toNat (by omega)
      rw [show ((s.res.toNat : Nat) : Int) = s.res by omega] at this
      unfold termP at h2 ⊢
      simp only [decide_eq_true_eq] at h2 ⊢
      omega
    · exact .inr ⟨h5, s, h6, h3⟩
/-- A task without needs has no sections and raises nothing. -/
theorem none_secs {x : Task} (hf : Fit x) (hn : x.needs = []) : secsOf x = [] := by
  refine List.eq_nil_iff_forall_not_mem.2 fun s hs => ?_
  have h := (sec_mem hf hs).1
  have h1 := h.units
  have h2 := h.held
  rw [hn] at h2
  simp only [needOf] at h2
  omega
theorem none_ceil {x : Task} (hm : m.Ok) (hm' : TM.Ok ⟨m.words, m.units, m.ts ++ [x]⟩) (hn : x.needs = []) (res : Int) : TM.ceilAt ⟨m.words, m.units, m.ts ++ [x]⟩ res 0 ≤ m.ceilAt res 0 := by
  rw [ceilAt_eq hm, ceilAt_eq hm']
  simp only
  rw [ceil0_app]
  have e : needOf x.needs res = 0 := by rw [hn]; rfl
  rw [if_neg (by omega)]
  exact Int.le_refl _
end
end Ad
end Go
