/-
  Sections of a task's own run as plain data. No program.
-/
import Derived.Test.YtdjgijndcjbpiaaGreatDoorAa
import Derived.Test.YtdjgijndcjbpiaaGreatDoorG05
namespace Go
namespace Ad
open Tm

structure Sec where
  res : Int
  units : Int
  held : Int
  frm : Nat
  upto : Nat
  deriving DecidableEq, Inhabited
/-- A task's own run: what it holds, the open sections (the innermost first), all sections. -/
structure OW where
  held : List Int
  opn : List Nat
  out : List Sec

def OW.heldOf (o : OW) (r : Int) : Int := o.held.getD r.toNat 0
def OW.sec (o : OW) (k : Nat) : Sec := o.out.getD k default
def OW.endOne (o : OW) (t : Nat) : OW := match o.opn with
  | [] => o
  | k :: r => ⟨o.held.set (o.sec k).res.toNat (o.heldOf (o.sec k).res - (o.sec k).units), r, o.out.set k { o.sec k with upto := t }⟩
def ends (t : Nat) : Nat → OW → OW
  | 0, o => o
  | n + 1, o => (ends t n o).endOne t
def OW.lock (o : OW) (t : Nat) (x : Cm.Op) : OW :=
  ⟨o.held.set x.res.toNat (o.heldOf x.res + x.n), o.out.length :: o.opn, o.out ++ [⟨x.res, x.n, o.heldOf x.res + x.n, t, 0⟩]⟩
def OW.isTop (o : OW) (r : Int) : Bool := match o.opn with | [] => false | k :: _ => decide ((o.sec k).res = r)
def stepS (nd : Int → Int) (t : Nat) (x : Cm.Op) (o : OW) : OW :=
  if x.kind = 1 then (if o.heldOf x.res + x.n ≤ nd x.res then o.lock t x else o)
  else if x.kind = 2 then (if o.isTop x.res then o.endOne t else o)
  else if x.kind = 9 then ends t o.opn.length o
  else o
def runS (nd : Int → Int) : List Cm.Op → Nat → OW → OW
  | [], _, o => o
  | x :: l, t, o => runS nd l (t + 1) (stepS nd t x o)
def zeroO : OW := ⟨List.replicate 16 0, [], []⟩
def sections (nd : Int → Int) (l : List Cm.Op) : List Sec := (runS nd l 0 zeroO).out
theorem runS_app (nd : Int → Int) : ∀ (l : List Cm.Op) (x : Cm.Op) (t : Nat) (o : OW), runS nd (l ++ [x]) t o = stepS nd (t + l.length) x (runS nd l t o)
  | [], x, t, o => rfl
  | y :: l, x, t, o => by
    simp only [List.cons_append, runS, List.length_cons]
    rw [runS_app nd l x, show t + 1 + l.length = t + (l.length + 1) by omega]
theorem runS_take {nd : Int → Int} {l : List Cm.Op} {k : Nat} {x : Cm.Op} (h : l[k]? = some x) (o : OW) : runS nd (l.take (k + 1)) 0 o = stepS nd k x (runS nd (l.take k) 0 o) := by
  obtain ⟨hk, rfl⟩ := List.getElem?_eq_some_iff.1 h
  rw [List.take_succ_eq_append_getElem hk, runS_app, List.length_take, Nat.min_eq_left (Nat.le_of_lt hk), Nat.zero_add]

/-- The units of a resource in open sections. -/
def openSum (o : OW) (r : Int) : List Nat → Int
  | [] => 0
  | k :: l => (if (o.sec k).res = r then (o.sec k).units else 0) + openSum o r l

structure SecOk (nd : Int → Int) (l : List Cm.Op) (s : Sec) : Prop where
  res : 0 ≤ s.res ∧ s.res < 16
  units : 1 ≤ s.units ∧ s.units ≤ s.held
  held : s.held ≤ nd s.res
  lock : ∃ x, l[s.frm]? = some x ∧ x.kind = 1 ∧ x.res = s.res ∧ x.n = s.units
structure SecEnd (l : List Cm.Op) (s : Sec) : Prop where
  lt : s.frm < s.upto
  at_ : ∃ x, l[s.upto]? = some x ∧ (x.kind = 9 ∨ x.kind = 2 ∧ x.res = s.res)
/-- A run up to a step: closed sections lie ahead of the bound b. -/
structure Inv (nd : Int → Int) (l : List Cm.Op) (t b : Nat) (o : OW) : Prop where
  hl : o.held.length = 16
  few : o.out.length ≤ t
  dec : o.opn.Pairwise (· > ·)
  lt : ∀ k ∈ o.opn, k < o.out.length
  each : ∀ (k : Nat) s, o.out[k]? = some s → SecOk nd l s ∧ s.frm < t
  shut : ∀ (k : Nat) s, o.out[k]? = some s → k ∉ o.opn → SecEnd l s ∧ s.upto < b
  held : ∀ r : Int, 0 ≤ r → r < 16 → o.heldOf r = openSum o r o.opn
  rise : ∀ (j k : Nat) a b, j < k → o.out[j]? = some a → o.out[k]? = some b → a.frm < b.frm
  nest : ∀ (j k : Nat) a b, j < k → o.out[j]? = some a → o.out[k]? = some b → j ∉ o.opn → (k ∈ o.opn → a.upto ≤ b.frm) ∧ (k ∉ o.opn → a.upto ≤ b.frm ∨ b.upto ≤ a.upto)

theorem openSum_congr {o p : OW} {r : Int} : ∀ {l : List Nat}, (∀ k ∈ l, (o.sec k).res = (p.sec k).res ∧ (o.sec k).units = (p.sec k).units) → openSum o r l = openSum p r l
  | [], _ => rfl
  | k :: l, h => by
    unfold openSum
    rw [(h k (by simp)).1, (h k (by simp)).2, openSum_congr fun k hk => h k (List.mem_cons_of_mem _ hk)]
theorem sec_at {o : OW} {k : Nat} (h : k < o.out.length) : o.out[k]? = some (o.sec k) := by
  unfold OW.sec
  rw [List.getD_eq_getElem?_getD, List.getElem?_eq_getElem h]; rfl
theorem sec_of {o : OW} {k : Nat} {s : Sec} (h : o.out[k]? = some s) : o.sec k = s := by
  unfold OW.sec
  rw [List.getD_eq_getElem?_getD, h]; rfl
section
variable {nd : Int → Int} {l : List Cm.Op} {t b : Nat} {o : OW}
theorem openSum_ge (h : ∀ (k : Nat) s, o.out[k]? = some s → SecOk nd l s ∧ s.frm < t) (r : Int) : ∀ {q : List Nat}, (∀ k ∈ q, k < o.out.length) → 0 ≤ openSum o r q
  | [], _ => Int.le_refl _
  | k :: q, hq => by
    unfold openSum
    have h1 := (h k _ (sec_at (hq k (by simp)))).1.units
    have h2 := openSum_ge h r (q := q) fun k hk => hq k (List.mem_cons_of_mem _ hk)
    split <;> omega
theorem Inv.nneg (h : Inv nd l t b o) {r : Int} (h0 : 0 ≤ r) (h1 : r < 16) : 0 ≤ o.heldOf r := by
  rw [h.held r h0 h1]; exact openSum_ge h.each r h.lt
theorem openSum_le (h : ∀ (k : Nat) s, o.out[k]? = some s → SecOk nd l s ∧ s.frm < t) (hn : ∀ r, nd r ≤ 255) (r : Int) : ∀ {q : List Nat}, (∀ k ∈ q, k < o.out.length) → openSum o r q ≤ 255 * q.length
  | [], _ => by simp [openSum]
  | k :: q, hq => by
    unfold openSum
    have h1 := (h k _ (sec_at (hq k (by simp)))).1
    have h3 := hn (o.sec k).res
    have h4 := h1.held
    have h5 := h1.units
    have h2 := openSum_le h hn r (q := q) fun k hk => hq k (List.mem_cons_of_mem _ hk)
    simp only [List.length_cons]
    split <;> omega
theorem dec_len : ∀ {q : List Nat} {n : Nat}, q.Pairwise (· > ·) → (∀ k ∈ q, k < n) → q.length ≤ n
  | [], n, _, _ => by simp
  | k :: q, n, h, hk => by
    have h1 := List.pairwise_cons.1 h
    have := dec_len (n := k) h1.2 fun j hj => h1.1 j hj
    have := hk k (by simp)
    simp only [List.length_cons]; omega
theorem Inv.opn_le (h : Inv nd l t b o) : o.opn.length ≤ o.out.length := dec_len h.dec h.lt

theorem Inv.later (h : Inv nd l t b o) {t' b' : Nat} (ht : t ≤ t') (hb : b ≤ b') : Inv nd l t' b' o :=
  ⟨h.hl, by have := h.few; omega, h.dec, h.lt, fun k s hk => ⟨(h.each k s hk).1, by have := (h.each k s hk).2; omega⟩, fun k s hk hn => ⟨(h.shut k s hk hn).1, by have := (h.shut k s hk hn).2; omega⟩, h.held, h.rise, h.nest⟩
theorem inv_zero (nd : Int → Int) (l : List Cm.Op) : Inv nd l 0 0 zeroO where
  hl := rfl
  few := Nat.le_refl _
  dec := List.Pairwise.nil
  lt := by simp [zeroO]
  each := by simp [zeroO]
  shut := by simp [zeroO]
  held := fun r h0 h1 => by
    unfold OW.heldOf zeroO openSum
    rw [List.getD_eq_getElem?_getD, List.getElem?_replicate]
    split <;> rfl
  rise := by simp [zeroO]
  nest := by simp [zeroO]
/-- A lock that fits. -/
theorem Inv.lock (h : Inv nd l t t o) {x : Cm.Op} (hx : l[t]? = some x) (hk : x.kind = 1) (ho : Cm.StepOk x) (hf : o.heldOf x.res + x.n ≤ nd x.res) : Inv nd l (t + 1) (t + 1) (o.lock t x) := by
  have hr := ho.res
  have hn := ho.lock hk
  have h0 := h.nneg hr.1 hr.2
  have hsec : ∀ k, k < o.out.length → (o.lock t x).sec k = o.sec k := fun k hk => by
    unfold OW.sec OW.lock
    rw [List.getD_eq_getElem?_getD, List.getD_eq_getElem?_getD, List.getElem?_append_left hk]
  have hnew : (o.lock t x).sec o.out.length = ⟨x.res, x.n, o.heldOf x.res + x.n, t, 0⟩ := by
    unfold OW.sec OW.lock
    rw [List.getD_eq_getElem?_getD, List.getElem?_append_right (Nat.le_refl _), Nat.sub_self]; rfl
  have hat : ∀ (k : Nat) s, (o.lock t x).out[k]? = some s → (k < o.out.length ∧ o.out[k]? = some s) ∨ (k = o.out.length ∧ s = ⟨x.res, x.n, o.heldOf x.res + x.n, t, 0⟩) := fun k s hs => by
    unfold OW.lock at hs
    simp only at hs
    by_cases hk : k < o.out.length
    · rw [List.getElem?_append_left hk] at hs; exact .inl ⟨hk, hs⟩
    · have hl := (List.getElem?_eq_some_iff.1 hs).1
      rw [List.length_append, List.length_singleton] at hl
      obtain rfl : k = o.out.length := by omega
      rw [List.getElem?_append_right (Nat.le_refl _), Nat.sub_self] at hs
      right; exact ⟨rfl, by simpa using hs.symm⟩
  have hmem : ∀ k, k < o.out.length → (k ∈ (o.lock t x).opn ↔ k ∈ o.opn) := fun k hk => by
    unfold OW.lock
    simp only [List.mem_cons]
    exact ⟨fun e => e.resolve_left (by omega), .inr⟩
  have hmemN : o.out.length ∈ (o.lock t x).opn := by unfold OW.lock; simp
  refine ⟨?_, ?_, ?_, ?_, ?_, ?_, ?_, ?_, ?_⟩
  · unfold OW.lock; simp [h.hl]
  · have := h.few; unfold OW.lock; simp; omega
  · unfold OW.lock; exact List.pairwise_cons.2 ⟨fun k hk => h.lt k hk, h.dec⟩
  · intro k hk
    unfold OW.lock at hk ⊢
    simp only [List.mem_cons, List.length_append, List.length_singleton] at *
    rcases hk with rfl | hk
    · omega
    · have := h.lt k hk; omega
  · intro k s hs
    rcases hat k s hs with ⟨_, h1⟩ | ⟨_, rfl⟩
    · have := h.each k s h1; exact ⟨this.1, by omega⟩
    · exact ⟨⟨hr, ⟨hn, by simp only; omega⟩, hf, x, hx, hk, rfl, rfl⟩, Nat.lt_succ_self _⟩
  · intro k s hs hno
    rcases hat k s hs with ⟨hk, h1⟩ | ⟨rfl, _⟩
    · have := h.shut k s h1 fun e => hno ((hmem k hk).2 e)
      exact ⟨this.1, by omega⟩
    · exact absurd hmemN hno
  · intro r hr0 hr1
    show (o.held.set x.res.toNat (o.heldOf x.res + x.n)).getD r.toNat 0 = openSum (o.lock t x) r (o.out.length :: o.opn)
    unfold openSum
    rw [hnew]
    have e : openSum (o.lock t x) r o.opn = openSum o r o.opn := openSum_congr fun k hk => by rw [hsec k (h.lt k hk)]; exact ⟨rfl, rfl⟩
    rw [e, ← h.held r hr0 hr1]
    rw [List.getD_eq_getElem?_getD, List.getElem?_set]
    by_cases hq : x.res = r
    · subst hq
      rw [if_pos rfl, if_pos (by rw [h.hl]; omega), if_pos rfl]
      simp only [Option.getD_some]; omega
    · rw [if_neg (by omega), if_neg hq]
      unfold OW.heldOf
      rw [List.getD_eq_getElem?_getD]; omega
  · intro j k a c hjk ha hc
    rcases hat k c hc with ⟨hk, h1⟩ | ⟨rfl, rfl⟩
    · rcases hat j a ha with ⟨_, h2⟩ | ⟨rfl, _⟩
      · exact h.rise j k a c hjk h2 h1
      · omega
    · rcases hat j a ha with ⟨_, h2⟩ | ⟨rfl, _⟩
      · exact (h.each j a h2).2
      · omega
  · intro j k a c hjk ha hc hj
    rcases hat j a ha with ⟨hjl, h2⟩ | ⟨rfl, _⟩
    · have hj' : j ∉ o.opn := fun e => hj ((hmem j hjl).2 e)
      rcases hat k c hc with ⟨hk, h1⟩ | ⟨rfl, rfl⟩
      · have := h.nest j k a c hjk h2 h1 hj'
        exact ⟨fun e => this.1 ((hmem k hk).1 e), fun e => this.2 fun e2 => e ((hmem k hk).2 e2)⟩
      · exact ⟨fun _ => by have := (h.shut j a h2 hj').2; simp only; omega, fun e => absurd hmemN e⟩
    · exact absurd hmemN hj
/-- The innermost section ends. -/
theorem Inv.endOne (h : Inv nd l (t + 1) (t + 1) o) (hf : ∀ (k : Nat) (s : Sec), o.out[k]? = some s → s.frm < t) {x : Cm.Op} (hx : l[t]? = some x) (hk : x.kind = 9 ∨ x.kind = 2 ∧ o.isTop x.res = true) : Inv nd l (t + 1) (t + 1) (o.endOne t) := by
  unfold OW.endOne
  cases hq : o.opn with
  | nil => exact h
  | cons k r =>
    have hkl := h.lt k (by rw [hq]; simp)
    have hks := sec_at hkl
    have hdec := h.dec
    rw [hq] at hdec
    obtain ⟨hd1, hd2⟩ := List.pairwise_cons.1 hdec
    have hkr : k ∉ r := fun e => by have := hd1 k e; omega
    obtain ⟨hok, hfr⟩ := h.each k _ hks
    have hlt := hf k _ hks
    have htop : x.kind = 9 ∨ x.kind = 2 ∧ x.res = (o.sec k).res := by
      rcases hk with e | ⟨e1, e2⟩
      · exact .inl e
      · unfold OW.isTop at e2
        rw [hq] at e2
        simp only [decide_eq_true_eq] at e2
        exact .inr ⟨e1, e2.symm⟩
    show Inv nd l (t + 1) (t + 1) ⟨o.held.set (o.sec k).res.toNat (o.heldOf (o.sec k).res - (o.sec k).units), r, o.out.set k ⟨(o.sec k).res, (o.sec k).units, (o.sec k).held, (o.sec k).frm, t⟩⟩
    generalize hS : o.sec k = S at *
    have hat : ∀ (j : Nat) s, (o.out.set k (Sec.mk S.res S.units S.held S.frm t))[j]? = some s → (j ≠ k ∧ o.out[j]? = some s) ∨ (j = k ∧ s = Sec.mk S.res S.units S.held S.frm t) := fun j s hs => by
      rw [List.getElem?_set] at hs
      by_cases e : k = j
      · subst e
        rw [if_pos rfl, if_pos hkl] at hs
        exact .inr ⟨rfl, by simpa using hs.symm⟩
      · rw [if_neg e] at hs; exact .inl ⟨fun e2 => e e2.symm, hs⟩
    have hsec : ∀ p q j, ((OW.mk p q (o.out.set k (Sec.mk S.res S.units S.held S.frm t))).sec j).res = (o.sec j).res ∧ ((OW.mk p q (o.out.set k (Sec.mk S.res S.units S.held S.frm t))).sec j).units = (o.sec j).units := fun p q j => by
      by_cases e : j = k
      · subst e
        have : (OW.mk p q (o.out.set j (Sec.mk S.res S.units S.held S.frm t))).sec j = Sec.mk S.res S.units S.held S.frm t := by
          unfold OW.sec
          rw [List.getD_eq_getElem?_getD, List.getElem?_set, if_pos rfl, if_pos hkl]; rfl
        rw [this, hS]; exact ⟨rfl, rfl⟩
      · unfold OW.sec
        rw [List.getD_eq_getElem?_getD, List.getD_eq_getElem?_getD, List.getElem?_set, if_neg (fun e2 => e e2.symm)]; exact ⟨rfl, rfl⟩
    have hmem : ∀ j, j ≠ k → (j ∈ r ↔ j ∈ o.opn) := fun j hj => by
      rw [hq, List.mem_cons]; exact ⟨.inr, fun e => e.resolve_left hj⟩
    refine ⟨?_, ?_, hd2, ?_, ?_, ?_, ?_, ?_, ?_⟩
    · simp [h.hl]
    · simp; exact h.few
    · intro j hj
      simp only [List.length_set]
      exact h.lt j (by rw [hq]; exact List.mem_cons_of_mem _ hj)
    · intro j s hs
      rcases hat j s hs with ⟨_, h1⟩ | ⟨_, rfl⟩
      · exact h.each j s h1
      · exact ⟨⟨hok.res, hok.units, hok.held, hok.lock⟩, hfr⟩
    · intro j s hs hno
      rcases hat j s hs with ⟨hj, h1⟩ | ⟨_, rfl⟩
      · exact h.shut j s h1 fun e => hno ((hmem j hj).2 e)
      · exact ⟨⟨hlt, x, hx, htop⟩, Nat.lt_succ_self _⟩
    · intro q h0 h1
      have e1 := h.held q h0 h1
      rw [hq] at e1
      unfold openSum at e1
      rw [hS] at e1
      show (o.held.set S.res.toNat (o.heldOf S.res - S.units)).getD q.toNat 0 = openSum _ q r
      rw [openSum_congr (p := o) fun j _ => hsec _ _ j]
      rw [List.getD_eq_getElem?_getD, List.getElem?_set]
      have hres := hok.res
      by_cases e : S.res = q
      · subst e
        rw [if_pos rfl, if_pos (by rw [h.hl]; omega)]
        rw [if_pos rfl] at e1
        simp only [Option.getD_some]; omega
      · rw [if_neg (by omega)]
        rw [if_neg e] at e1
        unfold OW.heldOf at e1
        rw [List.getD_eq_getElem?_getD] at e1; omega
    · intro j i a c hjk ha hc
      have : ∀ (j : Nat) s, (o.out.set k (Sec.mk S.res S.units S.held S.frm t))[j]? = some s → ∃ s', o.out[j]? = some s' ∧ s'.frm = s.frm := fun j s hs => by
        rcases hat j s hs with ⟨_, h1⟩ | ⟨rfl, rfl⟩
        · exact ⟨s, h1, rfl⟩
        · exact ⟨_, hks, rfl⟩
      obtain ⟨a', ha', e1⟩ := this j a ha
      obtain ⟨c', hc', e2⟩ := this i c hc
      rw [← e1, ← e2]
      exact h.rise j i a' c' hjk ha' hc'
    · intro j i a c hjk ha hc hj
      rcases hat j a ha with ⟨hjk2, h1⟩ | ⟨rfl, rfl⟩
      · have hj' : j ∉ o.opn := fun e => hj ((hmem j hjk2).2 e)
        rcases hat i c hc with ⟨hik, h2⟩ | ⟨rfl, rfl⟩
        · have := h.nest j i a c hjk h1 h2 hj'
          exact ⟨fun e => this.1 ((hmem i hik).1 e), fun e => this.2 fun e2 => e ((hmem i hik).2 e2)⟩
        · have := (h.nest j i a _ hjk h1 hks hj').1 (by rw [hq]; simp)
          exact ⟨fun _ => this, fun _ => .inl this⟩
      · rcases hat i c hc with ⟨hik, h2⟩ | ⟨rfl, _⟩
        · refine ⟨fun e => ?_, fun e => .inr ?_⟩
          · have := hd1 i e; omega
          · have := (h.shut i c h2 fun e2 => e ((hmem i hik).2 e2)).2
            simp only; omega
        · omega
theorem frm_endOne (o : OW) (t : Nat) {k : Nat} {s : Sec} (h : (o.endOne t).out[k]? = some s) : ∃ s', o.out[k]? = some s' ∧ s'.frm = s.frm := by
  unfold OW.endOne at h
  cases hq : o.opn with
  | nil => rw [hq] at h; exact ⟨s, h, rfl⟩
  | cons j r =>
    rw [hq] at h
    simp only at h
    rw [List.getElem?_set] at h
    by_cases e : j = k
    · subst e
      rw [if_pos rfl] at h
      split at h
      · rename_i hl
        exact ⟨_, sec_at hl, by rw [← Option.some.inj h]⟩
      · cases h
    · rw [if_neg e] at h; exact ⟨s, h, rfl⟩
theorem ends_opn (t : Nat) : ∀ (n : Nat) (o : OW), (ends t n o).opn = o.opn.drop n
  | 0, o => rfl
  | n + 1, o => by
    have := ends_opn t n o
    unfold ends OW.endOne
    cases hq : (ends t n o).opn with
    | nil =>
      simp only [hq]
      rw [hq] at this
      rw [← List.drop_drop, ← this, List.drop_nil]
    | cons k r =>
      simp only
      rw [hq] at this
      rw [← List.drop_drop, ← this]; rfl
theorem Inv.ends (h : Inv nd l (t + 1) (t + 1) o) (hf : ∀ (k : Nat) (s : Sec), o.out[k]? = some s → s.frm < t) {x : Cm.Op} (hx : l[t]? = some x) (hk : x.kind = 9) : ∀ n, Inv nd l (t + 1) (t + 1) (ends t n o) ∧ (∀ (k : Nat) (s : Sec), (Ad.ends t n o).out[k]? = some s → s.frm < t)
  | 0 => ⟨h, hf⟩
  | n + 1 => by
    obtain ⟨h1, h2⟩ := h.ends hf hx hk n
    refine ⟨h1.endOne h2 hx (.inl hk), fun k s hs => ?_⟩
    obtain ⟨s', e1, e2⟩ := frm_endOne _ _ hs
    rw [← e2]; exact h2 k s' e1
theorem Inv.step (h : Inv nd l t t o) {x : Cm.Op} (hx : l[t]? = some x) (ho : Cm.StepOk x) : Inv nd l (t + 1) (t + 1) (stepS nd t x o) := by
  have h' := h.later (Nat.le_succ t) (Nat.le_succ t)
  have hf : ∀ (k : Nat) (s : Sec), o.out[k]? = some s → s.frm < t := fun k s hs => (h.each k s hs).2
  unfold stepS
  by_cases h1 : x.kind = 1
  · rw [if_pos h1]
    split
    · rename_i hfit; exact h.lock hx h1 ho hfit
    · exact h'
  · rw [if_neg h1]
    by_cases h2 : x.kind = 2
    · rw [if_pos h2]
      split
      · rename_i ht; exact h'.endOne hf hx (.inr ⟨h2, ht⟩)
      · exact h'
    · rw [if_neg h2]
      split
      · rename_i h9; exact (h'.ends hf hx h9 _).1
      · exact h'
theorem inv_take (hl : ∀ x ∈ l, Cm.StepOk x) : ∀ k, k ≤ l.length → Inv nd l k k (runS nd (l.take k) 0 zeroO)
  | 0, _ => inv_zero nd l
  | k + 1, hk => by
    have hx := List.getElem?_eq_getElem (show k < l.length by omega)
    rw [runS_take hx]
    exact (inv_take hl k (by omega)).step hx (hl _ (List.getElem_mem _))
theorem inv_all (hl : ∀ x ∈ l, Cm.StepOk x) : Inv nd l l.length l.length (runS nd l 0 zeroO) := by
  have := inv_take (nd := nd) hl l.length (Nat.le_refl _)
  rwa [List.take_length] at this
end
/-- What stands in a sound program's sections. -/
structure SecsOk (nd : Int → Int) (l : List Cm.Op) (q : List Sec) : Prop where
  few : q.length ≤ l.length
  each : ∀ (k : Nat) s, q[k]? = some s → SecOk nd l s ∧ SecEnd l s ∧ s.upto < l.length
  rise : ∀ (j k : Nat) a b, j < k → q[j]? = some a → q[k]? = some b → a.frm < b.frm
  nest : ∀ (j k : Nat) a b, j < k → q[j]? = some a → q[k]? = some b → a.upto ≤ b.frm ∨ b.upto ≤ a.upto
theorem sections_ok (nd : Int → Int) {l q : List Cm.Op} {x : Cm.Op} (e : l = q ++ [x]) (h9 : x.kind = 9) (hl : ∀ x ∈ l, Cm.StepOk x) : SecsOk nd l (sections nd l) := by
  have h := inv_all (nd := nd) hl
  have ho : (runS nd l 0 zeroO).opn = [] := by
    rw [e, runS_app]
    unfold stepS
    rw [if_neg (by omega), if_neg (by omega), if_pos h9, ends_opn, List.drop_length]
  unfold sections
  generalize runS nd l 0 zeroO = o at *
  have hn : ∀ k : Nat, k ∉ o.opn := fun k => by rw [ho]; simp
  exact ⟨h.few, fun k s hs => ⟨(h.each k s hs).1, (h.shut k s hs (hn k)).1, (h.shut k s hs (hn k)).2⟩, h.rise, fun j k a b hjk ha hb => (h.nest j k a b hjk ha hb (hn j)).2 (hn k)⟩
end Ad
end Go
