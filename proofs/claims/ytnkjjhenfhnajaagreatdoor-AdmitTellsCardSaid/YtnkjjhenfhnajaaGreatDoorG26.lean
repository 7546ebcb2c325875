/-
  Texts Aa Ab Ac Ad Ar As Av Ax Da Db Dc Er in one.
-/
import Derived.Test.YtnkjjhenfhnajaaGreatDoorCe
import Derived.Test.YtnkjjhenfhnajaaGreatDoorG05
import Derived.Test.YtnkjjhenfhnajaaGreatDoorUd
import Derived.Test.YtnkjjhenfhnajaaGreatDoorG30
/-
  What stands in a sound program's steps. No program.
-/
namespace Go
namespace Cm
/-- All steps are so; a finish stands last alone. -/
def Sd (P : Op → Prop) (r : List Op × Stt) : Prop :=
  (∀ o ∈ r.1, P o) ∧ (r.2 = .go → ∀ o ∈ r.1, o.kind ≠ 9) ∧ (r.2 = .done → ∃ l o, r.1 = l ++ [o] ∧ o.kind = 9 ∧ ∀ x ∈ l, x.kind ≠ 9)
structure Clean (P : Op → Prop) (out : List Op) : Prop where
  all : ∀ o ∈ out, P o
  no9 : ∀ o ∈ out, o.kind ≠ 9
theorem sd_of {P : Op → Prop} {out : List Op} (h : Clean P out) : Sd P (out, .go) := ⟨h.all, fun _ => h.no9, fun e => by cases e⟩
theorem Sd.clean {P : Op → Prop} {out : List Op} (h : Sd P (out, .go)) : Clean P out := ⟨h.1, h.2.1 rfl⟩
theorem sd_step {P : Op → Prop} {o : Op} {out : List Op} (ho : P o) (h : Clean P out) : Sd P (step o out) := by
  unfold step
  split
  · exact ⟨h.all, (fun e => by cases e), (fun e => by cases e)⟩
  · have ha : ∀ x ∈ out ++ [o], P x := fun x hx => by
      rcases List.mem_append.1 hx with hx | hx
      · exact h.all x hx
      · rw [List.mem_singleton.1 hx]; exact ho
    by_cases hk : o.kind = 9
    · rw [if_pos hk]; exact ⟨ha, (fun e => by cases e), fun _ => ⟨out, o, rfl, hk, h.no9⟩⟩
    · rw [if_neg hk]
      refine ⟨ha, fun _ x hx => ?_, fun e => by cases e⟩
      rcases List.mem_append.1 hx with hx | hx
      · exact h.no9 x hx
      · rw [List.mem_singleton.1 hx]; exact hk
theorem sd_times {P : Op → Prop} {o : Op} (ho : P o) : ∀ (n : Nat) {out : List Op}, Clean P out → Sd P (times o n out)
  | 0, out, h => sd_of h
  | n + 1, out, h => by
    unfold times
    have h1 := sd_step ho h
    generalize step o out = r at *
    obtain ⟨q, s⟩ := r
    cases s
    · exact sd_times ho n h1.clean
    · exact h1
    · exact h1
theorem sd_rep {P : Op → Prop} {f : List Op → List Op × Stt} (hf : ∀ {o}, Clean P o → Sd P (f o)) (was : Nat) : ∀ (n : Nat) {out : List Op}, Clean P out → Sd P (rep f was n out)
  | 0, out, h => sd_of h
  | n + 1, out, h => by
    unfold rep
    have h1 := hf h
    generalize f out = r at *
    obtain ⟨q, s⟩ := r
    cases s
    · simp only
      split
      · exact h1
      · exact sd_rep hf was n h1.clean
    · exact h1
    · exact h1
theorem sd_play {P : Op → Prop} (hw : P work) : ∀ (f : Nat) {p out : List Op}, (∀ o ∈ p, o.kind ≠ 10 → P o) → Clean P out → Sd P (play f p out)
  | 0, p, out, _, h => by simpa [play] using sd_of h
  | f + 1, [], out, _, h => by simpa [play] using sd_of h
  | f + 1, o :: p, out, hp, h => by
    have hp' : ∀ x ∈ p, x.kind ≠ 10 → P x := fun x hx => hp x (List.mem_cons_of_mem _ hx)
    unfold play
    split
    · simp only
      have h1 := sd_rep (P := P) (fun {q} hq => sd_play hw f (p := p.take (shut (o :: p) 0 - 1)) (out := q) (fun x hx => hp' x (List.mem_of_mem_take hx)) hq) out.length o.n.toNat h
      generalize rep (play f (p.take (shut (o :: p) 0 - 1))) out.length o.n.toNat out = r at *
      obtain ⟨q, s⟩ := r
      cases s
      · exact sd_play hw f (fun x hx => hp' x (List.mem_of_mem_drop hx)) h1.clean
      · exact h1
      · exact h1
    · split
      · have h1 := sd_times hw o.n.toNat h
        generalize times work o.n.toNat out = r at *
        obtain ⟨q, s⟩ := r
        cases s
        · exact sd_play hw f hp' h1.clean
        · exact h1
        · exact h1
      · rename_i h10 h5
        have h1 := sd_step (hp o (by simp) h10) h
        generalize step o out = r at *
        obtain ⟨q, s⟩ := r
        cases s
        · exact sd_play hw f hp' h1.clean
        · exact h1
        · exact h1
theorem sd_all {P : Op → Prop} (hw : P work) (hn : P finish) {p : List Op} (hp : ∀ o ∈ p, o.kind ≠ 10 → P o) : Sd P (playAll p) := by
  unfold playAll
  have h1 := sd_play hw (p.length + 1) (p := p) (out := []) hp ⟨by simp, by simp⟩
  generalize play (p.length + 1) p [] = r at *
  obtain ⟨q, s⟩ := r
  cases s
  · exact sd_step hn h1.clean
  · exact h1
  · exact h1
theorem parse_err {l : List UInt8} {i e : Int} (h : parse l = .err i e) : e ≠ 0 := by
  have : okE e := by
    unfold parse at h
    split at h
    · simp only [Res.err.injEq] at h
      exact .inr (.inl h.2.symm)
    · exact parseT_err h
  unfold okE at this
  omega
theorem playAll_end (p : List Op) : (playAll p).2 ≠ .go := by
  unfold playAll
  generalize play (p.length + 1) p [] = r
  obtain ⟨q, s⟩ := r
  cases s
  · simp only
    unfold step
    split
    · intro h; cases h
    · rw [if_pos (by rfl)]; intro h; cases h
  · intro h; cases h
  · intro h; cases h
/-- A step of a sound program. -/
structure StepOk (o : Op) : Prop where
  res : 0 ≤ o.res ∧ o.res < 16
  lock : o.kind = 1 → 1 ≤ o.n
  n : 0 ≤ o.n ∧ o.n ≤ 4096
  kind : 1 ≤ o.kind ∧ o.kind ≤ 11
theorem fields_step {o : Op} (h : fieldsOk o = true) : StepOk o := by
  have hk := fieldsOk_kind h
  unfold fieldsOk at h
  rw [if_neg (by omega)] at h
  obtain ⟨k, hkk⟩ : ∃ k : Nat, o.kind = k := ⟨o.kind.toNat, by omega⟩
  rw [hkk, Int.toNat_natCast] at h
  have hk1 : 1 ≤ k ∧ k ≤ 11 := by omega
  have hr : (rowH k = 1 → k = 1) ∧ (k = 1 → rowH k = 1) := by
    obtain ⟨h1, h2⟩ := hk1
    have : k = 1 ∨ k = 2 ∨ k = 3 ∨ k = 4 ∨ k = 5 ∨ k = 6 ∨ k = 7 ∨ k = 8 ∨ k = 9 ∨ k = 10 ∨ k = 11 := by omega
    rcases this with rfl | rfl | rfl | rfl | rfl | rfl | rfl | rfl | rfl | rfl | rfl <;> simp [rowH]
  generalize rowH k = q at *
  unfold fieldsH at h
  refine ⟨?_, fun hk => ?_, ?_, hk⟩
  · split at h <;> simp at h <;> omega
  · have : q = 1 := hr.2 (by omega)
    subst this
    simp at h; omega
  · split at h <;> simp at h <;> omega
theorem program_sound {l : List UInt8} (h : (program l).2 = 0) : ∃ q o, (program l).1 = q ++ [o] ∧ o.kind = 9 ∧ (∀ x ∈ q, x.kind ≠ 9) ∧ (∀ x ∈ q ++ [o], StepOk x) := by
  unfold program at h ⊢
  cases hp : parse l with
  | err i e =>
    rw [hp] at h
    simp only at h
    have := parse_err hp
    omega
  | ok p =>
    rw [hp] at h
    have hc := parse_checks hp
    have hf := (check_ok hc).2.2.2
    simp only at h ⊢
    unfold steps at h ⊢
    rw [if_neg (by omega)] at h ⊢
    have hs := sd_all (P := StepOk) (p := p) ⟨by decide, by decide, by decide, by decide⟩ ⟨by decide, by decide, by decide, by decide⟩ (fun o ho _ => fields_step (hf o ho))
    have hl := playAll_end p
    generalize playAll p = r at *
    obtain ⟨q, s⟩ := r
    cases s
    · exact absurd rfl hl
    · obtain ⟨l2, o, e, h9, hno⟩ := hs.2.2 rfl
      simp only at e h ⊢
      refine ⟨l2, o, e, h9, hno, ?_⟩
      rw [← e]; exact hs.1
    · simp at h
theorem prog_le (l : List UInt8) : (program l).1.length ≤ 4096 := by
  cases hp : parse l with
  | err i e =>
    have : (program l).1 = [] := by unfold program; rw [hp]
    rw [this]; simp
  | ok p =>
    rw [program_ok hp]
    have h1 : (playAll p).1.length ≤ 4096 := thn_len (playS_len p [] (by simp)) (f := step finish) fun o h => step_len h
    generalize playAll p = r at *
    obtain ⟨o, s⟩ := r
    cases s <;> simp <;> exact h1
end Cm
end Go

/-
  Sections of a task's own run as plain data. No program.
-/
namespace Go
namespace Ad
open Tm

structure Sec where
  res : Int
  units : Int
  held : Int
  frm : Nat
  upto : Nat
  deriving DecidableEq, Inhabited
/-- A task's own run: what it holds, the open sections (the innermost first), all sections. -/
structure OW where
  held : List Int
  opn : List Nat
  out : List Sec

def OW.heldOf (o : OW) (r : Int) : Int := o.held.getD r.toNat 0
def OW.sec (o : OW) (k : Nat) : Sec := o.out.getD k default
def OW.endOne (o : OW) (t : Nat) : OW := match o.opn with
  | [] => o
  | k :: r => ⟨o.held.set (o.sec k).res.toNat (o.heldOf (o.sec k).res - (o.sec k).units), r, o.out.set k { o.sec k with upto := t }⟩
def ends (t : Nat) : Nat → OW → OW
  | 0, o => o
  | n + 1, o => (ends t n o).endOne t
def OW.lock (o : OW) (t : Nat) (x : Cm.Op) : OW :=
  ⟨o.held.set x.res.toNat (o.heldOf x.res + x.n), o.out.length :: o.opn, o.out ++ [⟨x.res, x.n, o.heldOf x.res + x.n, t, 0⟩]⟩
def OW.isTop (o : OW) (r : Int) : Bool := match o.opn with | [] => false | k :: _ => decide ((o.sec k).res = r)
def stepS (nd : Int → Int) (t : Nat) (x : Cm.Op) (o : OW) : OW :=
  if x.kind = 1 then (if o.heldOf x.res + x.n ≤ nd x.res then o.lock t x else o)
  else if x.kind = 2 then (if o.isTop x.res then o.endOne t else o)
  else if x.kind = 9 then ends t o.opn.length o
  else o
def runS (nd : Int → Int) : List Cm.Op → Nat → OW → OW
  | [], _, o => o
  | x :: l, t, o => runS nd l (t + 1) (stepS nd t x o)
def zeroO : OW := ⟨List.replicate 16 0, [], []⟩
def sections (nd : Int → Int) (l : List Cm.Op) : List Sec := (runS nd l 0 zeroO).out
theorem runS_app (nd : Int → Int) : ∀ (l : List Cm.Op) (x : Cm.Op) (t : Nat) (o : OW), runS nd (l ++ [x]) t o = stepS nd (t + l.length) x (runS nd l t o)
  | [], x, t, o => rfl
  | y :: l, x, t, o => by
    simp only [List.cons_append, runS, List.length_cons]
    rw [runS_app nd l x, show t + 1 + l.length = t + (l.length + 1) by omega]
theorem runS_take {nd : Int → Int} {l : List Cm.Op} {k : Nat} {x : Cm.Op} (h : l[k]? = some x) (o : OW) : runS nd (l.take (k + 1)) 0 o = stepS nd k x (runS nd (l.take k) 0 o) := by
  obtain ⟨hk, rfl⟩ := List.getElem?_eq_some_iff.1 h
  rw [List.take_succ_eq_append_getElem hk, runS_app, List.length_take, Nat.min_eq_left (Nat.le_of_lt hk), Nat.zero_add]

/-- The units of a resource in open sections. -/
def openSum (o : OW) (r : Int) : List Nat → Int
  | [] => 0
  | k :: l => (if (o.sec k).res = r then (o.sec k).units else 0) + openSum o r l

structure SecOk (nd : Int → Int) (l : List Cm.Op) (s : Sec) : Prop where
  res : 0 ≤ s.res ∧ s.res < 16
  units : 1 ≤ s.units ∧ s.units ≤ s.held
  held : s.held ≤ nd s.res
  lock : ∃ x, l[s.frm]? = some x ∧ x.kind = 1 ∧ x.res = s.res ∧ x.n = s.units
structure SecEnd (l : List Cm.Op) (s : Sec) : Prop where
  lt : s.frm < s.upto
  at_ : ∃ x, l[s.upto]? = some x ∧ (x.kind = 9 ∨ x.kind = 2 ∧ x.res = s.res)
/-- A run up to a step: closed sections lie ahead of the bound b. -/
structure Inv (nd : Int → Int) (l : List Cm.Op) (t b : Nat) (o : OW) : Prop where
  hl : o.held.length = 16
  few : o.out.length ≤ t
  dec : o.opn.Pairwise (· > ·)
  lt : ∀ k ∈ o.opn, k < o.out.length
  each : ∀ (k : Nat) s, o.out[k]? = some s → SecOk nd l s ∧ s.frm < t
  shut : ∀ (k : Nat) s, o.out[k]? = some s → k ∉ o.opn → SecEnd l s ∧ s.upto < b
  held : ∀ r : Int, 0 ≤ r → r < 16 → o.heldOf r = openSum o r o.opn
  rise : ∀ (j k : Nat) a b, j < k → o.out[j]? = some a → o.out[k]? = some b → a.frm < b.frm
  nest : ∀ (j k : Nat) a b, j < k → o.out[j]? = some a → o.out[k]? = some b → j ∉ o.opn → (k ∈ o.opn → a.upto ≤ b.frm) ∧ (k ∉ o.opn → a.upto ≤ b.frm ∨ b.upto ≤ a.upto)

theorem openSum_congr {o p : OW} {r : Int} : ∀ {l : List Nat}, (∀ k ∈ l, (o.sec k).res = (p.sec k).res ∧ (o.sec k).units = (p.sec k).units) → openSum o r l = openSum p r l
  | [], _ => rfl
  | k :: l, h => by
    unfold openSum
    rw [(h k (by simp)).1, (h k (by simp)).2, openSum_congr fun k hk => h k (List.mem_cons_of_mem _ hk)]
theorem sec_at {o : OW} {k : Nat} (h : k < o.out.length) : o.out[k]? = some (o.sec k) := by
  unfold OW.sec
  rw [List.getD_eq_getElem?_getD, List.getElem?_eq_getElem h]; rfl
section
variable {nd : Int → Int} {l : List Cm.Op} {t b : Nat} {o : OW}
theorem openSum_ge (h : ∀ (k : Nat) s, o.out[k]? = some s → SecOk nd l s ∧ s.frm < t) (r : Int) : ∀ {q : List Nat}, (∀ k ∈ q, k < o.out.length) → 0 ≤ openSum o r q
  | [], _ => Int.le_refl _
  | k :: q, hq => by
    unfold openSum
    have h1 := (h k _ (sec_at (hq k (by simp)))).1.units
    have h2 := openSum_ge h r (q := q) fun k hk => hq k (List.mem_cons_of_mem _ hk)
    split <;> omega
theorem Inv.nneg (h : Inv nd l t b o) {r : Int} (h0 : 0 ≤ r) (h1 : r < 16) : 0 ≤ o.heldOf r := by
  rw [h.held r h0 h1]; exact openSum_ge h.each r h.lt
theorem openSum_le (h : ∀ (k : Nat) s, o.out[k]? = some s → SecOk nd l s ∧ s.frm < t) (hn : ∀ r, nd r ≤ 255) (r : Int) : ∀ {q : List Nat}, (∀ k ∈ q, k < o.out.length) → openSum o r q ≤ 255 * q.length
  | [], _ => by simp [openSum]
  | k :: q, hq => by
    unfold openSum
    have h1 := (h k _ (sec_at (hq k (by simp)))).1
    have h3 := hn (o.sec k).res
    have h4 := h1.held
    have h5 := h1.units
    have h2 := openSum_le h hn r (q := q) fun k hk => hq k (List.mem_cons_of_mem _ hk)
    simp only [List.length_cons]
    split <;> omega
theorem dec_len : ∀ {q : List Nat} {n : Nat}, q.Pairwise (· > ·) → (∀ k ∈ q, k < n) → q.length ≤ n
  | [], n, _, _ => by simp
  | k :: q, n, h, hk => by
    have h1 := List.pairwise_cons.1 h
    have := dec_len (n := k) h1.2 fun j hj => h1.1 j hj
    have := hk k (by simp)
    simp only [List.length_cons]; omega
theorem Inv.opn_le (h : Inv nd l t b o) : o.opn.length ≤ o.out.length := dec_len h.dec h.lt

theorem Inv.later (h : Inv nd l t b o) {t' b' : Nat} (ht : t ≤ t') (hb : b ≤ b') : Inv nd l t' b' o :=
  ⟨h.hl, by have := h.few; omega, h.dec, h.lt, fun k s hk => ⟨(h.each k s hk).1, by have := (h.each k s hk).2; omega⟩, fun k s hk hn => ⟨(h.shut k s hk hn).1, by have := (h.shut k s hk hn).2; omega⟩, h.held, h.rise, h.nest⟩
theorem inv_zero (nd : Int → Int) (l : List Cm.Op) : Inv nd l 0 0 zeroO where
  hl := rfl
  few := Nat.le_refl _
  dec := List.Pairwise.nil
  lt := by simp [zeroO]
  each := by simp [zeroO]
  shut := by simp [zeroO]
  held := fun r h0 h1 => by
    unfold OW.heldOf zeroO openSum
    rw [List.getD_eq_getElem?_getD, List.getElem?_replicate]
    split <;> rfl
  rise := by simp [zeroO]
  nest := by simp [zeroO]
/-- A lock that fits. -/
theorem Inv.lock (h : Inv nd l t t o) {x : Cm.Op} (hx : l[t]? = some x) (hk : x.kind = 1) (ho : Cm.StepOk x) (hf : o.heldOf x.res + x.n ≤ nd x.res) : Inv nd l (t + 1) (t + 1) (o.lock t x) := by
  have hr := ho.res
  have hn := ho.lock hk
  have h0 := h.nneg hr.1 hr.2
  have hsec : ∀ k, k < o.out.length → (o.lock t x).sec k = o.sec k := fun k hk => by
    unfold OW.sec OW.lock
    rw [List.getD_eq_getElem?_getD, List.getD_eq_getElem?_getD, List.getElem?_append_left hk]
  have hnew : (o.lock t x).sec o.out.length = ⟨x.res, x.n, o.heldOf x.res + x.n, t, 0⟩ := by
    unfold OW.sec OW.lock
    rw [List.getD_eq_getElem?_getD, List.getElem?_append_right (Nat.le_refl _), Nat.sub_self]; rfl
  have hat : ∀ (k : Nat) s, (o.lock t x).out[k]? = some s → (k < o.out.length ∧ o.out[k]? = some s) ∨ (k = o.out.length ∧ s = ⟨x.res, x.n, o.heldOf x.res + x.n, t, 0⟩) := fun k s hs => by
    unfold OW.lock at hs
    simp only at hs
    by_cases hk : k < o.out.length
    · rw [List.getElem?_append_left hk] at hs; exact .inl ⟨hk, hs⟩
    · have hl := (List.getElem?_eq_some_iff.1 hs).1
      rw [List.length_append, List.length_singleton] at hl
      obtain rfl : k = o.out.length := by omega
      rw [List.getElem?_append_right (Nat.le_refl _), Nat.sub_self] at hs
      right; exact ⟨rfl, by simpa using hs.symm⟩
  have hmem : ∀ k, k < o.out.length → (k ∈ (o.lock t x).opn ↔ k ∈ o.opn) := fun k hk => by
    unfold OW.lock
    simp only [List.mem_cons]
    exact ⟨fun e => e.resolve_left (by omega), .inr⟩
  have hmemN : o.out.length ∈ (o.lock t x).opn := by unfold OW.lock; simp
  refine ⟨?_, ?_, ?_, ?_, ?_, ?_, ?_, ?_, ?_⟩
  · unfold OW.lock; simp [h.hl]
  · have := h.few; unfold OW.lock; simp; omega
  · unfold OW.lock; exact List.pairwise_cons.2 ⟨fun k hk => h.lt k hk, h.dec⟩
  · intro k hk
    unfold OW.lock at hk ⊢
    simp only [List.mem_cons, List.length_append, List.length_singleton] at *
    rcases hk with rfl | hk
    · omega
    · have := h.lt k hk; omega
  · intro k s hs
    rcases hat k s hs with ⟨_, h1⟩ | ⟨_, rfl⟩
    · have := h.each k s h1; exact ⟨this.1, by omega⟩
    · exact ⟨⟨hr, ⟨hn, by simp only; omega⟩, hf, x, hx, hk, rfl, rfl⟩, Nat.lt_succ_self _⟩
  · intro k s hs hno
    rcases hat k s hs with ⟨hk, h1⟩ | ⟨rfl, _⟩
    · have := h.shut k s h1 fun e => hno ((hmem k hk).2 e)
      exact ⟨this.1, by omega⟩
    · exact absurd hmemN hno
  · intro r hr0 hr1
    show (o.held.set x.res.toNat (o.heldOf x.res + x.n)).getD r.toNat 0 = openSum (o.lock t x) r (o.out.length :: o.opn)
    unfold openSum
    rw [hnew]
    have e : openSum (o.lock t x) r o.opn = openSum o r o.opn := openSum_congr fun k hk => by rw [hsec k (h.lt k hk)]; exact ⟨rfl, rfl⟩
    rw [e, ← h.held r hr0 hr1]
    rw [List.getD_eq_getElem?_getD, List.getElem?_set]
    by_cases hq : x.res = r
    · subst hq
      rw [if_pos rfl, if_pos (by rw [h.hl]; omega), if_pos rfl]
      simp only [Option.getD_some]; omega
    · rw [if_neg (by omega), if_neg hq]
      unfold OW.heldOf
      rw [List.getD_eq_getElem?_getD]; omega
  · intro j k a c hjk ha hc
    rcases hat k c hc with ⟨hk, h1⟩ | ⟨rfl, rfl⟩
    · rcases hat j a ha with ⟨_, h2⟩ | ⟨rfl, _⟩
      · exact h.rise j k a c hjk h2 h1
      · omega
    · rcases hat j a ha with ⟨_, h2⟩ | ⟨rfl, _⟩
      · exact (h.each j a h2).2
      · omega
  · intro j k a c hjk ha hc hj
    rcases hat j a ha with ⟨hjl, h2⟩ | ⟨rfl, _⟩
    · have hj' : j ∉ o.opn := fun e => hj ((hmem j hjl).2 e)
      rcases hat k c hc with ⟨hk, h1⟩ | ⟨rfl, rfl⟩
      · have := h.nest j k a c hjk h2 h1 hj'
        exact ⟨fun e => this.1 ((hmem k hk).1 e), fun e => this.2 fun e2 => e ((hmem k hk).2 e2)⟩
      · exact ⟨fun _ => by have := (h.shut j a h2 hj').2; simp only; omega, fun e => absurd hmemN e⟩
    · exact absurd hmemN hj
/-- The innermost section ends. -/
theorem Inv.endOne (h : Inv nd l (t + 1) (t + 1) o) (hf : ∀ (k : Nat) (s : Sec), o.out[k]? = some s → s.frm < t) {x : Cm.Op} (hx : l[t]? = some x) (hk : x.kind = 9 ∨ x.kind = 2 ∧ o.isTop x.res = true) : Inv nd l (t + 1) (t + 1) (o.endOne t) := by
  unfold OW.endOne
  cases hq : o.opn with
  | nil => exact h
  | cons k r =>
    have hkl := h.lt k (by rw [hq]; simp)
    have hks := sec_at hkl
    have hdec := h.dec
    rw [hq] at hdec
    obtain ⟨hd1, hd2⟩ := List.pairwise_cons.1 hdec
    have hkr : k ∉ r := fun e => by have := hd1 k e; omega
    obtain ⟨hok, hfr⟩ := h.each k _ hks
    have hlt := hf k _ hks
    have htop : x.kind = 9 ∨ x.kind = 2 ∧ x.res = (o.sec k).res := by
      rcases hk with e | ⟨e1, e2⟩
      · exact .inl e
      · unfold OW.isTop at e2
        rw [hq] at e2
        simp only [decide_eq_true_eq] at e2
        exact .inr ⟨e1, e2.symm⟩
    show Inv nd l (t + 1) (t + 1) ⟨o.held.set (o.sec k).res.toNat (o.heldOf (o.sec k).res - (o.sec k).units), r, o.out.set k ⟨(o.sec k).res, (o.sec k).units, (o.sec k).held, (o.sec k).frm, t⟩⟩
    generalize hS : o.sec k = S at *
    have hat : ∀ (j : Nat) s, (o.out.set k (Sec.mk S.res S.units S.held S.frm t))[j]? = some s → (j ≠ k ∧ o.out[j]? = some s) ∨ (j = k ∧ s = Sec.mk S.res S.units S.held S.frm t) := fun j s hs => by
      rw [List.getElem?_set] at hs
      by_cases e : k = j
      · subst e
        rw [if_pos rfl, if_pos hkl] at hs
        exact .inr ⟨rfl, by simpa using hs.symm⟩
      · rw [if_neg e] at hs; exact .inl ⟨fun e2 => e e2.symm, hs⟩
    have hsec : ∀ p q j, ((OW.mk p q (o.out.set k (Sec.mk S.res S.units S.held S.frm t))).sec j).res = (o.sec j).res ∧ ((OW.mk p q (o.out.set k (Sec.mk S.res S.units S.held S.frm t))).sec j).units = (o.sec j).units := fun p q j => by
      by_cases e : j = k
      · subst e
        have : (OW.mk p q (o.out.set j (Sec.mk S.res S.units S.held S.frm t))).sec j = Sec.mk S.res S.units S.held S.frm t := by
          unfold OW.sec
          rw [List.getD_eq_getElem?_getD, List.getElem?_set, if_pos rfl, if_pos hkl]; rfl
        rw [this, hS]; exact ⟨rfl, rfl⟩
      · unfold OW.sec
        rw [List.getD_eq_getElem?_getD, List.getD_eq_getElem?_getD, List.getElem?_set, if_neg (fun e2 => e e2.symm)]; exact ⟨rfl, rfl⟩
    have hmem : ∀ j, j ≠ k → (j ∈ r ↔ j ∈ o.opn) := fun j hj => by
      rw [hq, List.mem_cons]; exact ⟨.inr, fun e => e.resolve_left hj⟩
    refine ⟨?_, ?_, hd2, ?_, ?_, ?_, ?_, ?_, ?_⟩
    · simp [h.hl]
    · simp; exact h.few
    · intro j hj
      simp only [List.length_set]
      exact h.lt j (by rw [hq]; exact List.mem_cons_of_mem _ hj)
    · intro j s hs
      rcases hat j s hs with ⟨_, h1⟩ | ⟨_, rfl⟩
      · exact h.each j s h1
      · exact ⟨⟨hok.res, hok.units, hok.held, hok.lock⟩, hfr⟩
    · intro j s hs hno
      rcases hat j s hs with ⟨hj, h1⟩ | ⟨_, rfl⟩
      · exact h.shut j s h1 fun e => hno ((hmem j hj).2 e)
      · exact ⟨⟨hlt, x, hx, htop⟩, Nat.lt_succ_self _⟩
    · intro q h0 h1
      have e1 := h.held q h0 h1
      rw [hq] at e1
      unfold openSum at e1
      rw [hS] at e1
      show (o.held.set S.res.toNat (o.heldOf S.res - S.units)).getD q.toNat 0 = openSum _ q r
      rw [openSum_congr (p := o) fun j _ => hsec _ _ j]
      rw [List.getD_eq_getElem?_getD, List.getElem?_set]
      have hres := hok.res
      by_cases e : S.res = q
      · subst e
        rw [if_pos rfl, if_pos (by rw [h.hl]; omega)]
        rw [if_pos rfl] at e1
        simp only [Option.getD_some]; omega
      · rw [if_neg (by omega)]
        rw [if_neg e] at e1
        unfold OW.heldOf at e1
        rw [List.getD_eq_getElem?_getD] at e1; omega
    · intro j i a c hjk ha hc
      have : ∀ (j : Nat) s, (o.out.set k (Sec.mk S.res S.units S.held S.frm t))[j]? = some s → ∃ s', o.out[j]? = some s' ∧ s'.frm = s.frm := fun j s hs => by
        rcases hat j s hs with ⟨_, h1⟩ | ⟨rfl, rfl⟩
        · exact ⟨s, h1, rfl⟩
        · exact ⟨_, hks, rfl⟩
      obtain ⟨a', ha', e1⟩ := this j a ha
      obtain ⟨c', hc', e2⟩ := this i c hc
      rw [← e1, ← e2]
      exact h.rise j i a' c' hjk ha' hc'
    · intro j i a c hjk ha hc hj
      rcases hat j a ha with ⟨hjk2, h1⟩ | ⟨rfl, rfl⟩
      · have hj' : j ∉ o.opn := fun e => hj ((hmem j hjk2).2 e)
        rcases hat i c hc with ⟨hik, h2⟩ | ⟨rfl, rfl⟩
        · have := h.nest j i a c hjk h1 h2 hj'
          exact ⟨fun e => this.1 ((hmem i hik).1 e), fun e => this.2 fun e2 => e ((hmem i hik).2 e2)⟩
        · have := (h.nest j i a _ hjk h1 hks hj').1 (by rw [hq]; simp)
          exact ⟨fun _ => this, fun _ => .inl this⟩
      · rcases hat i c hc with ⟨hik, h2⟩ | ⟨rfl, _⟩
        · refine ⟨fun e => ?_, fun e => .inr ?_⟩
          · have := hd1 i e; omega
          · have := (h.shut i c h2 fun e2 => e ((hmem i hik).2 e2)).2
            simp only; omega
        · omega
theorem frm_endOne (o : OW) (t : Nat) {k : Nat} {s : Sec} (h : (o.endOne t).out[k]? = some s) : ∃ s', o.out[k]? = some s' ∧ s'.frm = s.frm := by
  unfold OW.endOne at h
  cases hq : o.opn with
  | nil => rw [hq] at h; exact ⟨s, h, rfl⟩
  | cons j r =>
    rw [hq] at h
    simp only at h
    rw [List.getElem?_set] at h
    by_cases e : j = k
    · subst e
      rw [if_pos rfl] at h
      split at h
      · rename_i hl
        exact ⟨_, sec_at hl, by rw [← Option.some.inj h]⟩
      · cases h
    · rw [if_neg e] at h; exact ⟨s, h, rfl⟩
theorem ends_opn (t : Nat) : ∀ (n : Nat) (o : OW), (ends t n o).opn = o.opn.drop n
  | 0, o => rfl
  | n + 1, o => by
    have := ends_opn t n o
    unfold ends OW.endOne
    cases hq : (ends t n o).opn with
    | nil =>
      simp only [hq]
      rw [hq] at this
      rw [← List.drop_drop, ← this, List.drop_nil]
    | cons k r =>
      simp only
      rw [hq] at this
      rw [← List.drop_drop, ← this]; rfl
theorem Inv.ends (h : Inv nd l (t + 1) (t + 1) o) (hf : ∀ (k : Nat) (s : Sec), o.out[k]? = some s → s.frm < t) {x : Cm.Op} (hx : l[t]? = some x) (hk : x.kind = 9) : ∀ n, Inv nd l (t + 1) (t + 1) (ends t n o) ∧ (∀ (k : Nat) (s : Sec), (Ad.ends t n o).out[k]? = some s → s.frm < t)
  | 0 => ⟨h, hf⟩
  | n + 1 => by
    obtain ⟨h1, h2⟩ := h.ends hf hx hk n
    refine ⟨h1.endOne h2 hx (.inl hk), fun k s hs => ?_⟩
    obtain ⟨s', e1, e2⟩ := frm_endOne _ _ hs
    rw [← e2]; exact h2 k s' e1
theorem Inv.step (h : Inv nd l t t o) {x : Cm.Op} (hx : l[t]? = some x) (ho : Cm.StepOk x) : Inv nd l (t + 1) (t + 1) (stepS nd t x o) := by
  have h' := h.later (Nat.le_succ t) (Nat.le_succ t)
  have hf : ∀ (k : Nat) (s : Sec), o.out[k]? = some s → s.frm < t := fun k s hs => (h.each k s hs).2
  unfold stepS
  by_cases h1 : x.kind = 1
  · rw [if_pos h1]
    split
    · rename_i hfit; exact h.lock hx h1 ho hfit
    · exact h'
  · rw [if_neg h1]
    by_cases h2 : x.kind = 2
    · rw [if_pos h2]
      split
      · rename_i ht; exact h'.endOne hf hx (.inr ⟨h2, ht⟩)
      · exact h'
    · rw [if_neg h2]
      split
      · rename_i h9; exact (h'.ends hf hx h9 _).1
      · exact h'
theorem inv_take (hl : ∀ x ∈ l, Cm.StepOk x) : ∀ k, k ≤ l.length → Inv nd l k k (runS nd (l.take k) 0 zeroO)
  | 0, _ => inv_zero nd l
  | k + 1, hk => by
    have hx := List.getElem?_eq_getElem (show k < l.length by omega)
    rw [runS_take hx]
    exact (inv_take hl k (by omega)).step hx (hl _ (List.getElem_mem _))
theorem inv_all (hl : ∀ x ∈ l, Cm.StepOk x) : Inv nd l l.length l.length (runS nd l 0 zeroO) := by
  have := inv_take (nd := nd) hl l.length (Nat.le_refl _)
  rwa [List.take_length] at this
end
/-- What stands in a sound program's sections. -/
structure SecsOk (nd : Int → Int) (l : List Cm.Op) (q : List Sec) : Prop where
  few : q.length ≤ l.length
  each : ∀ (k : Nat) s, q[k]? = some s → SecOk nd l s ∧ SecEnd l s ∧ s.upto < l.length
  rise : ∀ (j k : Nat) a b, j < k → q[j]? = some a → q[k]? = some b → a.frm < b.frm
  nest : ∀ (j k : Nat) a b, j < k → q[j]? = some a → q[k]? = some b → a.upto ≤ b.frm ∨ b.upto ≤ a.upto
theorem sections_ok (nd : Int → Int) {l q : List Cm.Op} {x : Cm.Op} (e : l = q ++ [x]) (h9 : x.kind = 9) (hl : ∀ x ∈ l, Cm.StepOk x) : SecsOk nd l (sections nd l) := by
  have h := inv_all (nd := nd) hl
  have ho : (runS nd l 0 zeroO).opn = [] := by
    rw [e, runS_app]
    unfold stepS
    rw [if_neg (by omega), if_neg (by omega), if_pos h9, ends_opn, List.drop_length]
  unfold sections
  generalize runS nd l 0 zeroO = o at *
  have hn : ∀ k : Nat, k ∉ o.opn := fun k => by rw [ho]; simp
  exact ⟨h.few, fun k s hs => ⟨(h.each k s hs).1, (h.shut k s hs (hn k)).1, (h.shut k s hs (hn k)).2⟩, h.rise, fun j k a b hjk ha hb => (h.nest j k a b hjk ha hb (hn j)).2 (hn k)⟩
end Ad
end Go

/-
  Terms as plain data, and their laws. No program.
-/
namespace Go
namespace Ad
open Tm

/-- The greatest of some of a list's numbers, from b on. -/
def gmaxFrom {α : Type} (P : α → Bool) (f : α → Int) : List α → Int → Int
  | [], b => b
  | p :: l, b => gmaxFrom P f l (if P p then max b (f p) else b)
def gmax {α : Type} (P : α → Bool) (f : α → Int) (l : List α) : Int := gmaxFrom P f l 0
section
variable {α : Type} {P : α → Bool} {f : α → Int}
theorem gmaxFrom_app {x : α} : ∀ {l : List α} {b : Int}, gmaxFrom P f (l ++ [x]) b = if P x then max (gmaxFrom P f l b) (f x) else gmaxFrom P f l b
  | [], _ => rfl
  | p :: l, b => by simp only [List.cons_append, gmaxFrom]; exact gmaxFrom_app
theorem gmax_app {x : α} {l : List α} : gmax P f (l ++ [x]) = if P x then max (gmax P f l) (f x) else gmax P f l := gmaxFrom_app
end

def Sec.len (s : Sec) : Int := (s.upto : Int) - s.frm
def secsOf (t : Task) : List Sec := sections (needOf t.needs) (prog t).1
def secsAt (ts : List Task) (j : Nat) : List Sec := match ts[j]? with | some t => secsOf t | none => []
/-- The sections of tasks of lower levels. -/
def lowOne (lev : Int) (ts : List Task) (j : Nat) : List (Nat × Sec) := match ts[j]? with
  | some t => if t.level < lev then (secsOf t).map (Prod.mk j) else []
  | none => []
def lowsTo (lev : Int) (ts : List Task) : Nat → List (Nat × Sec)
  | 0 => []
  | k + 1 => lowsTo lev ts k ++ lowOne lev ts k
def lows (lev : Int) (ts : List Task) : List (Nat × Sec) := lowsTo lev ts ts.length
theorem lowsTo_mem {lev : Int} {ts : List Task} {j : Nat} {s : Sec} : ∀ {k : Nat}, (j, s) ∈ lowsTo lev ts k ↔ j < k ∧ ∃ t, ts[j]? = some t ∧ t.level < lev ∧ s ∈ secsOf t
  | 0 => by simp [lowsTo]
  | k + 1 => by
    unfold lowsTo
    rw [List.mem_append, lowsTo_mem]
    have h1 : (j, s) ∈ lowOne lev ts k ↔ j = k ∧ ∃ t, ts[j]? = some t ∧ t.level < lev ∧ s ∈ secsOf t := by
      unfold lowOne
      constructor
      · intro h
        split at h
        · rename_i t ht
          split at h
          · rename_i hl
            obtain ⟨q, hq, e⟩ := List.mem_map.1 h
            cases e
            exact ⟨rfl, t, ht, hl, hq⟩
          · simp at h
        · simp at h
      · rintro ⟨rfl, t, ht, hl, hs⟩
        rw [ht]
        simp only
        rw [if_pos hl]
        exact List.mem_map.2 ⟨s, hs, rfl⟩
    rw [h1]
    constructor
    · rintro (⟨h, r⟩ | ⟨rfl, r⟩)
      · exact ⟨by omega, r⟩
      · exact ⟨by omega, r⟩
    · rintro ⟨h, r⟩
      by_cases e : j = k
      · exact .inr ⟨e, r⟩
      · exact .inl ⟨by omega, r⟩
theorem lows_mem {lev : Int} {ts : List Task} {j : Nat} {s : Sec} : (j, s) ∈ lows lev ts ↔ ∃ t, ts[j]? = some t ∧ t.level < lev ∧ s ∈ secsOf t := by
  unfold lows
  rw [lowsTo_mem]
  exact ⟨fun h => h.2, fun ⟨t, h, r⟩ => ⟨(List.getElem?_eq_some_iff.1 h).1, t, h, r⟩⟩

def taskI (ts : List Task) (id : Int) : Option Task := if id < 0 then none else ts[id.toNat]?
def levAt (ts : List Task) (id : Int) : Option Int := if id < 0 then none else (ts[id.toNat]?).map (·.level)
def lowsId (ts : List Task) (id : Int) : List (Nat × Sec) := match levAt ts id with | some lev => lows lev ts | none => []
def termP (m : TM) (lev : Int) (p : Nat × Sec) : Bool := decide (lev ≤ m.ceilAt p.2.res 0)
def lenP (p : Nat × Sec) : Int := p.2.len
def termL (m : TM) (lev : Int) : Int := gmax (termP m lev) lenP (lows lev m.ts)
def longL (m : TM) (lev : Int) : Int := gmax (fun _ => true) lenP (lows lev m.ts)
def term (m : TM) (id : Int) : Int := match levAt m.ts id with | some lev => termL m lev | none => 0
def longest (m : TM) (id : Int) : Int := match levAt m.ts id with | some lev => longL m lev | none => 0
def cost (ts : List Task) (id : Int) : Int := if id < 0 then 0 else match ts[id.toNat]? with | some t => (prog t).1.length | none => 0
def secsI (ts : List Task) (id : Int) : List Sec := if id < 0 then [] else secsAt ts id.toNat
structure Hit where
  task : Int
  frm : Int
  upto : Int
  deriving DecidableEq
def sureP (m : TM) (lev : Int) (s : Sec) : Bool := decide (lev ≤ m.ceilAt s.res (m.unitsOf s.res - s.held))
def sureStep (m : TM) (lev : Int) (h : Hit × Bool) (p : Nat × Sec) : Hit × Bool :=
  if sureP m lev p.2 = true ∧ (h.2 = false ∨ h.1.upto - h.1.frm < p.2.len) then (⟨p.1, p.2.frm, p.2.upto⟩, true) else h
def sureFrom (m : TM) (lev : Int) (l : List (Nat × Sec)) : Hit × Bool := l.foldl (sureStep m lev) (⟨0, 0, 0⟩, false)
def sureL (m : TM) (lev : Int) : Hit × Bool := sureFrom m lev (lows lev m.ts)
def sure (m : TM) (id : Int) : Hit × Bool := match levAt m.ts id with | some lev => sureL m lev | none => (⟨0, 0, 0⟩, false)
def greatest (m : TM) : Int := gmax (fun _ => true) (fun k : Nat => term m k) (List.range m.ts.length)

/-- What a fit task's sections are. -/
theorem secs_ok {t : Task} (h : Fit t) : SecsOk (needOf t.needs) (prog t).1 (secsOf t) := by
  obtain ⟨q, o, e, h9, _, hs⟩ := Cm.program_sound h.code
  have e' : (prog t).1 = q ++ [o] := e
  exact sections_ok _ e' h9 (by rw [e']; exact hs)
theorem sec_mem {t : Task} (h : Fit t) {s : Sec} (hs : s ∈ secsOf t) : SecOk (needOf t.needs) (prog t).1 s ∧ SecEnd (prog t).1 s ∧ s.upto < (prog t).1.length := by
  obtain ⟨k, hk⟩ := List.getElem?_of_mem hs
  exact (secs_ok h).each k s hk
theorem sec_has {m : TM} (hm : m.Ok) {t : Task} (ht : t ∈ m.ts) {s : Sec} (hs : s ∈ secsOf t) : m.has s.res ∧ 1 ≤ s.held ∧ s.held ≤ m.unitsOf s.res := by
  have h := (sec_mem (hm.fit t ht) hs).1
  have h1 := h.units
  have h2 := h.held
  rcases needs_of (hm.needs t ht) s.res with e | ⟨a, b, c, d⟩
  · omega
  · exact ⟨⟨a, b⟩, by omega, by unfold TM.unitsOf; omega⟩

section
variable {m : TM}
theorem lows_nil {lev : Int} (h : ∀ t ∈ m.ts, ¬ t.level < lev) : lows lev m.ts = [] := by
  refine List.eq_nil_iff_forall_not_mem.2 fun p hp => ?_
  obtain ⟨j, s⟩ := p
  obtain ⟨t, h1, h2, h3⟩ := lows_mem.1 hp
  exact h t (List.mem_of_getElem? h1) h2
end
end Ad
end Go

/-
  The laws' sets of tasks as plain data. No program.
-/
namespace Go
namespace Tm
def clampW (n : Int) : Int := if n < 0 then 0 else if 65536 < n then 65536 else n
def fitT (x : Task) : Bool := decide (x.code.size ≤ 4096) && decide (x.needs.length ≤ 20)
def setT (ts : List Task) : List Task := (ts.take 10).filter fitT
def setU (us : List Int) : List Int := (us.take 16).map clampI
def addsM (ts : List Task) (m : TM) : TM := ts.foldl (fun m x => (m.add x).2.2) m
def setM (w : Int) (us : List Int) (ts : List Task) : TM := addsM (setT ts) ⟨clampW w, setU us, []⟩
theorem clampW_bd (n : Int) : 0 ≤ clampW n ∧ clampW n ≤ 65536 := by unfold clampW; split <;> (try split) <;> omega
theorem set_begins (w : Int) (us : List Int) : begins (clampW w) (setU us) = 0 := by
  have h := clampW_bd w
  unfold begins
  rw [if_neg (by omega), if_neg (by unfold setU; rw [List.length_map, List.length_take]; omega), if_pos]
  rw [List.all_eq_true]
  intro x hx
  obtain ⟨y, _, rfl⟩ := List.mem_map.1 hx
  have := clamp_bd y
  simp; omega
theorem adds_take {ts : List Task} {k : Nat} {x : Task} (h : ts[k]? = some x) (m : TM) : addsM (ts.take (k + 1)) m = ((addsM (ts.take k) m).add x).2.2 := by
  obtain ⟨hk, rfl⟩ := List.getElem?_eq_some_iff.1 h
  unfold addsM
  rw [List.take_succ_eq_append_getElem hk, List.foldl_append]; rfl
theorem adds_ok : ∀ (ts : List Task) {m : TM}, m.Ok → (addsM ts m).Ok
  | [], _, h => h
  | x :: ts, _, h => adds_ok ts (TM.add_ok h x)
theorem add_len (m : TM) (x : Task) : (m.add x).2.2.ts.length ≤ m.ts.length + 1 ∧ (m.add x).2.2.units = m.units ∧ (m.add x).2.2.words = m.words := by
  unfold TM.add
  split
  · exact ⟨Nat.le_succ _, rfl, rfl⟩
  · exact ⟨by simp, rfl, rfl⟩
theorem adds_len : ∀ (ts : List Task) (m : TM), (addsM ts m).ts.length ≤ m.ts.length + ts.length ∧ (addsM ts m).units = m.units
  | [], _ => ⟨Nat.le_refl _, rfl⟩
  | x :: ts, m => by
    obtain ⟨h1, h2⟩ := adds_len ts (m.add x).2.2
    obtain ⟨h3, h4, _⟩ := add_len m x
    refine ⟨?_, h2.trans h4⟩
    show (addsM ts (m.add x).2.2).ts.length ≤ _
    simp only [List.length_cons]; omega
theorem zero_ok {w : Int} {us : List Int} (h : begins w us = 0) : TM.Ok ⟨w, us, []⟩ := by
  refine ⟨h, by simp, by simp, by simp, by simp, ?_⟩
  have : bound [] = 0 := by decide
  simp only
  rw [this]
  unfold begins at h
  split at h <;> omega
theorem setM_ok (w : Int) (us : List Int) (ts : List Task) : (setM w us ts).Ok := adds_ok _ (zero_ok (set_begins w us))
theorem setM_len (w : Int) (us : List Int) (ts : List Task) : (setM w us ts).ts.length ≤ 10 := by
  have h := (adds_len (setT ts) ⟨clampW w, setU us, []⟩).1
  have h2 : (setT ts).length ≤ 10 := by
    unfold setT
    refine Nat.le_trans (List.length_filter_le _ _) ?_
    rw [List.length_take]; omega
  simp only [List.length_nil] at h
  unfold setM; omega
theorem setT_take {ts : List Task} {k : Nat} {x : Task} (h : ts[k]? = some x) : (ts.take (k + 1)).filter fitT = (ts.take k).filter fitT ++ (if fitT x then [x] else []) := by
  obtain ⟨hk, rfl⟩ := List.getElem?_eq_some_iff.1 h
  rw [List.take_succ_eq_append_getElem hk, List.filter_append]
  congr 1
  by_cases hf : fitT ts[k] = true <;> simp [hf]
end Tm
end Go

/-
  Chapter 11's runs as plain data. No program.
-/
namespace Go
namespace Ad
open Tm
namespace AR
def A : Task := ⟨⟨#[97]⟩, 1, 0, [⟨0, 1⟩, ⟨1, 1⟩], ⟨#[108, 111, 99, 107, 32, 48, 32, 49, 59, 32, 119, 111, 114, 107, 32, 51, 59, 32, 108, 111, 99, 107, 32, 49, 32, 49, 59, 32, 119, 111, 114, 107, 32, 50, 59, 32, 117, 110, 108, 111, 99, 107, 32, 49, 59, 32, 117, 110, 108, 111, 99, 107, 32, 48]⟩, 0, 0, 0⟩
def B : Task := ⟨⟨#[98]⟩, 2, 0, [⟨1, 1⟩], ⟨#[108, 111, 99, 107, 32, 49, 32, 49]⟩, 0, 0, 0⟩
def C : Task := ⟨⟨#[99]⟩, 4, 0, [⟨0, 2⟩], ⟨#[]⟩, 0, 0, 0⟩
def D : Task := ⟨⟨#[100]⟩, 4, 0, [], ⟨#[]⟩, 0, 0, 0⟩
def M0 : TM := ⟨8, [2, 1], []⟩
def M1 : TM := ⟨8, [2, 1], [A]⟩
def M2 : TM := ⟨8, [2, 1], [A, B]⟩
def M3 : TM := ⟨8, [2, 1], [A, B, C]⟩
def M : TM := ⟨8, [2, 1], [A, B, C, D]⟩
set_option maxRecDepth 100000
theorem c0 : M0.check A = 0 := by decide +kernel
theorem c1 : M1.check B = 0 := by decide +kernel
theorem c2 : M2.check C = 0 := by decide +kernel
theorem c3 : M3.check D = 0 := by decide +kernel
theorem s0 : secsI M.ts 0 = [⟨0, 1, 1, 0, 8⟩, ⟨1, 1, 1, 4, 7⟩] := by decide +kernel
theorem s1 : secsI M.ts 1 = [⟨1, 1, 1, 0, 1⟩] := by decide +kernel
theorem k0 : cost M.ts 0 = 10 := by decide +kernel
theorem u1 : sure M 1 = (⟨0, 0, 8⟩, true) := by decide +kernel
theorem u2 : sure M 2 = (⟨0, 0, 8⟩, true) := by decide +kernel
theorem u0 : sure M 0 = (⟨0, 0, 0⟩, false) := by decide +kernel
theorem t0 : term M 0 = 0 := by decide +kernel
theorem t1 : term M 1 = 8 := by decide +kernel
theorem t2 : term M 2 = 8 := by decide +kernel
theorem t3 : term M 3 = 8 := by decide +kernel
theorem t9 : term M 9 = 0 := by decide +kernel
theorem l1 : longest M 1 = 8 := by decide +kernel
theorem g : greatest M = 8 := by decide +kernel
end AR
end Ad
end Go

/-
  Response times as plain data, and their laws. No program.
-/
namespace Go
namespace Ad
open Tm

def gapT (x : Task) : Int := max x.period x.gap

def gapI (ts : List Task) (id : Int) : Int := match taskI ts id with | some x => gapT x | none => 0
structure Load where
  own : Int
  gap : Int
  others : List (Int × Int)
/-- The other tasks of at least this level, the first k looked at; none: one of them is free. -/
def othersTo (lev id : Int) (ts : List Task) : Nat → Option (List (Int × Int))
  | 0 => some []
  | k + 1 => match othersTo lev id ts k, ts[k]? with
    | some l, some y => if y.level < lev then some l else if gapT y = 0 then none else if (k : Int) = id then some l else some (l ++ [(cost ts k, gapT y)])
    | r, _ => r
def loadM (m : TM) (id : Int) : Option Load × Int := match taskI m.ts id with
  | none => (none, 1)
  | some x => match othersTo x.level id m.ts m.ts.length with
    | none => (none, 40)
    | some l => (some ⟨term m id + cost m.ts id, gapT x, l⟩, 0)
def demandFrom (ticks : Int) : List (Int × Int) → Int → Int
  | [], n => n
  | p :: l, n => demandFrom ticks l (n + (ticks + p.2 - 1) / p.2 * p.1)
def Load.demand (l : Load) (ticks : Int) : Int := demandFrom ticks l.others l.own
def searchF (l : Load) : Nat → Int → Int
  | 0, r => r
  | f + 1, r => if r ≤ l.gap then (if l.demand r ≤ r then r else searchF l f (l.demand r)) else r
def Load.search (l : Load) : Int := searchF l (l.gap.toNat + 1) 1
def worst (m : TM) (id : Int) : Int × Int := match loadM m id with
  | (some l, _) => if l.gap < l.search then (0, 42) else (l.search, 0)
  | (none, e) => (0, e)
def demandI (m : TM) (id ticks : Int) : Int × Int :=
  if (taskI m.ts id).isNone ∨ ticks < 1 ∨ 1048576 < ticks then (0, 1) else match loadM m id with | (some l, _) => (l.demand ticks, 0) | (none, e) => (0, e)

/-- What holds of a load. -/
structure Load.Ok (l : Load) : Prop where
  own : 1 ≤ l.own
  parts : ∀ p ∈ l.others, 0 ≤ p.1 ∧ 1 ≤ p.2
theorem demandFrom_ge {ticks : Int} (ht : 1 ≤ ticks) : ∀ {l : List (Int × Int)} {n : Int}, (∀ p ∈ l, 0 ≤ p.1 ∧ 1 ≤ p.2) → n ≤ demandFrom ticks l n
  | [], _, _ => Int.le_refl _
  | p :: l, n, h => by
    unfold demandFrom
    obtain ⟨h1, h2⟩ := h p (by simp)
    have h3 : 0 ≤ (ticks + p.2 - 1) / p.2 := Int.ediv_nonneg (by omega) (by omega)
    have h4 := Int.mul_nonneg h3 h1
    have := demandFrom_ge ht (l := l) (n := n + (ticks + p.2 - 1) / p.2 * p.1) fun q hq => h q (List.mem_cons_of_mem _ hq)
    omega
theorem demandFrom_mono {a b : Int} (hab : a ≤ b) : ∀ {l : List (Int × Int)} {n k : Int}, (∀ p ∈ l, 0 ≤ p.1 ∧ 1 ≤ p.2) → n ≤ k → demandFrom a l n ≤ demandFrom b l k
  | [], _, _, _, h => h
  | p :: l, n, k, h, hk => by
    unfold demandFrom
    obtain ⟨h1, h2⟩ := h p (by simp)
    have h3 : (a + p.2 - 1) / p.2 ≤ (b + p.2 - 1) / p.2 := Int.ediv_le_ediv (by omega) (by omega)
    have h4 := Int.mul_le_mul_of_nonneg_right h3 h1
    exact demandFrom_mono hab (fun q hq => h q (List.mem_cons_of_mem _ hq)) (by omega)
section
variable {l : Load}
theorem Load.Ok.ge (h : l.Ok) {t : Int} (ht : 1 ≤ t) : l.own ≤ l.demand t := demandFrom_ge ht h.parts
theorem Load.Ok.mono (h : l.Ok) {a b : Int} (hab : a ≤ b) : l.demand a ≤ l.demand b := demandFrom_mono hab h.parts (Int.le_refl _)
/-- The search: nothing below it is enough. -/
structure At (l : Load) (r : Int) : Prop where
  one : 1 ≤ r
  low : ∀ k, 1 ≤ k → k < r → k < l.demand k
  le : r ≤ l.demand r
theorem at_one (h : l.Ok) : At l 1 := ⟨Int.le_refl _, fun k h1 h2 => by omega, by have := h.ge (t := 1) (by omega); have := h.own; omega⟩
theorem At.step (h : l.Ok) {r : Int} (ha : At l r) (hn : ¬ l.demand r ≤ r) : At l (l.demand r) := by
  have h1 := ha.one
  refine ⟨by omega, fun k h2 h3 => ?_, h.mono (by omega)⟩
  by_cases hk : k < r
  · exact ha.low k h2 hk
  · have := h.mono (a := r) (b := k) (by omega); omega
theorem search_at (h : l.Ok) : ∀ (f : Nat) {r : Int}, At l r → l.gap + 1 - r ≤ f → At l (searchF l f r) ∧ (l.gap < searchF l f r ∨ l.demand (searchF l f r) ≤ searchF l f r)
  | 0, r, ha, hf => by
    unfold searchF
    exact ⟨ha, .inl (by omega)⟩
  | f + 1, r, ha, hf => by
    unfold searchF
    by_cases h1 : r ≤ l.gap
    · rw [if_pos h1]
      by_cases h2 : l.demand r ≤ r
      · rw [if_pos h2]; exact ⟨ha, .inr h2⟩
      · rw [if_neg h2]; exact search_at h f (ha.step h h2) (by omega)
    · rw [if_neg h1]; exact ⟨ha, .inl (by omega)⟩
theorem Load.Ok.found (h : l.Ok) : At l l.search ∧ (l.gap < l.search ∨ l.demand l.search = l.search) := by
  obtain ⟨h1, h2⟩ := search_at h (l.gap.toNat + 1) (at_one h) (by omega)
  refine ⟨h1, h2.imp_right fun h3 => ?_⟩
  have := h1.le
  exact Int.le_antisymm h3 this
/-- One round of the search. -/
theorem searchF_more (h : l.Ok) : ∀ (f g : Nat) {r : Int}, At l r → l.gap + 1 - r ≤ f → f ≤ g → searchF l g r = searchF l f r
  | 0, 0, _, _, _, _ => rfl
  | 0, g + 1, r, ha, hf, _ => by unfold searchF; rw [if_neg (by omega)]
  | f + 1, 0, _, _, _, hg => by omega
  | f + 1, g + 1, r, ha, hf, hg => by
    unfold searchF
    by_cases h1 : r ≤ l.gap
    · rw [if_pos h1, if_pos h1]
      by_cases h2 : l.demand r ≤ r
      · rw [if_pos h2, if_pos h2]
      · rw [if_neg h2, if_neg h2]; exact searchF_more h f g (ha.step h h2) (by omega) (by omega)
    · rw [if_neg h1, if_neg h1]
/-- How a state of the search leads to its end. -/
def Leads (l : Load) (r : Int) : Prop := At l r ∧ ∀ f : Nat, l.gap + 1 - r ≤ f → searchF l f r = l.search
theorem Leads.step (h : l.Ok) {r : Int} (hr : Leads l r) (h1 : r ≤ l.gap) (h2 : ¬ l.demand r ≤ r) : Leads l (l.demand r) := by
  refine ⟨hr.1.step h h2, fun f hf => ?_⟩
  have := hr.2 (f + (l.gap + 1 - r).toNat + 1) (by omega)
  unfold searchF at this
  rw [if_pos h1, if_neg h2] at this
  rw [← this]
  exact (searchF_more h f _ (hr.1.step h h2) hf (by omega)).symm
theorem Leads.over {r : Int} (hr : Leads l r) (h1 : ¬ r ≤ l.gap) : l.search = r := by
  have := hr.2 0 (by omega)
  exact this.symm
end
end Ad
end Go

/-
  Response times: what the laws ask. No program.
-/
namespace Go
namespace Ad
open Tm
structure LoadOf (m : TM) (id : Int) (l : Load) : Prop where
  ok : l.Ok
  own : l.own = term m id + cost m.ts id
  gap : l.gap = gapI m.ts id
  has : 1 ≤ l.gap
  top : l.gap ≤ 1048576
  few : l.others.length ≤ 64
  parts : ∀ p ∈ l.others, (0 ≤ p.1 ∧ p.1 ≤ 4096) ∧ 1 ≤ p.2 ∧ p.2 ≤ 1048576
end Ad
end Go

/-
  Response times: what RespondLeast asks, as one statement. No program.
-/
namespace Go
namespace Ad
open Tm
end Ad
end Go

/-
  The document's run of a task's own steps (keelref11 over keelref5), beside admit's. No program.
-/
namespace Go
namespace Um
set_option linter.unusedSimpArgs false
set_option linter.unusedVariables false
/-- Where a job's innermost lock stands, among the first i. -/
def innerTo (l : List Tkn) (j : Int) : Nat → Int
  | 0 => -1
  | i + 1 => match l[i]? with | some x => if x.job = j then (i : Int) else innerTo l j i | none => innerTo l j i
def innerOf (l : List Tkn) (j : Int) : Int := innerTo l j l.length
theorem innerTo_bd (l : List Tkn) (j : Int) : ∀ i, i ≤ l.length → innerTo l j i = -1 ∨ ∃ (k : Nat) (x : Tkn), k < i ∧ innerTo l j i = (k : Int) ∧ l[k]? = some x ∧ x.job = j
  | 0, _ => .inl rfl
  | i + 1, h => by
    unfold innerTo
    have hi := innerTo_bd l j i (by omega)
    split
    · rename_i x hx
      split
      · rename_i hj; exact .inr ⟨i, x, by omega, rfl, hx, hj⟩
      · rcases hi with hi | ⟨k, y, h1, h2⟩
        · exact .inl hi
        · exact .inr ⟨k, y, by omega, h2⟩
    · rcases hi with hi | ⟨k, y, h1, h2⟩
      · exact .inl hi
      · exact .inr ⟨k, y, by omega, h2⟩
theorem innerOf_bd (l : List Tkn) (j : Int) : innerOf l j = -1 ∨ ∃ (k : Nat) (x : Tkn), k < l.length ∧ innerOf l j = (k : Int) ∧ l[k]? = some x ∧ x.job = j := innerTo_bd l j l.length (Nat.le_refl _)
/-- Unlock: the units, the refusal, the table behind it. -/
def UM.unlock (m : UM) (j r : Int) : (Int × Int) × UM :=
  if j < 0 ∨ ¬ m.has r then ((0, 1), m) else match m.l[(innerOf m.l j).toNat]? with
    | some x => if innerOf m.l j < 0 ∨ x.res ≠ r then ((0, 21), m) else ((x.n, 0), ⟨m.us, m.l.eraseIdx (innerOf m.l j).toNat, m.cs⟩)
    | none => ((0, 21), m)
theorem sumOf_erase {p : Tkn → Bool} : ∀ {l : List Tkn} {k : Nat}, (∀ x ∈ l, 0 ≤ x.n) → sumOf p (l.eraseIdx k) ≤ sumOf p l
  | [], _, _ => by simp [sumOf]
  | x :: l, 0, h => by
    have := h x (by simp)
    simp only [List.eraseIdx_cons_zero, sumOf]
    split <;> omega
  | x :: l, k + 1, h => by
    have := sumOf_erase (p := p) (l := l) (k := k) fun y hy => h y (List.mem_cons_of_mem _ hy)
    simp only [List.eraseIdx_cons_succ, sumOf]; omega
theorem erase_ok {m : UM} (h : m.Ok) (k : Nat) : (UM.mk m.us (m.l.eraseIdx k) m.cs).Ok :=
  ⟨h.few, h.uns, fun x hx => h.ent x (List.mem_of_mem_eraseIdx hx), fun r hr => Int.le_trans (sumOf_erase (pos_of h)) (h.fit r hr), h.cls⟩
theorem unlock_ok {m : UM} (h : m.Ok) (j r : Int) : (m.unlock j r).2.Ok := by
  unfold UM.unlock
  split
  · exact h
  · split
    · split
      · exact h
      · exact erase_ok h _
    · exact h
end Um
namespace Ad
open Tm Um
set_option linter.unusedSimpArgs false
set_option linter.unusedVariables false
/-- The document's locks, the first one first. -/
def toks (o : OW) : List Tkn := o.opn.reverse.map fun k => ⟨0, (o.sec k).res, (o.sec k).units⟩
def umOf (us cs : List Int) (o : OW) : UM := ⟨us, toks o, cs⟩
theorem toks_sum (o : OW) (r : Int) : sumOf (ofRes r) (toks o) = openSum o r o.opn ∧ sumOf (ofBoth 0 r) (toks o) = openSum o r o.opn := by
  have gen : ∀ q : List Nat, sumOf (ofRes r) (q.reverse.map fun k => (⟨0, (o.sec k).res, (o.sec k).units⟩ : Tkn)) = openSum o r q ∧ sumOf (ofBoth 0 r) (q.reverse.map fun k => (⟨0, (o.sec k).res, (o.sec k).units⟩ : Tkn)) = openSum o r q := by
    intro q
    induction q with
    | nil => exact ⟨rfl, rfl⟩
    | cons k q ih =>
      rw [List.reverse_cons, List.map_append, sumOf_app, sumOf_app, ih.1, ih.2, show openSum o r (k :: q) = (if (o.sec k).res = r then (o.sec k).units else 0) + openSum o r q from rfl]
      simp only [List.map_cons, List.map_nil, sumOf, ofRes, ofBoth, decide_true, Bool.true_and, decide_eq_true_eq]
      constructor <;> omega
  exact gen o.opn
section
variable {nd : Int → Int} {l : List Cm.Op} {t : Nat} {o : OW}
theorem toks_lock (h : Inv nd l t t o) (x : Cm.Op) : toks (o.lock t x) = toks o ++ [⟨0, x.res, x.n⟩] := by
  have hnew : (o.lock t x).sec o.out.length = ⟨x.res, x.n, o.heldOf x.res + x.n, t, 0⟩ := by
    unfold OW.sec OW.lock
    rw [List.getD_eq_getElem?_getD, List.getElem?_append_right (Nat.le_refl _), Nat.sub_self]; rfl
  have e : (o.lock t x).opn = o.out.length :: o.opn := rfl
  unfold toks
  rw [e, List.reverse_cons, List.map_append, List.map_cons, List.map_nil, hnew]
  congr 1
  refine List.map_congr_left fun k hk => ?_
  have hlt := h.lt k (by simpa using hk)
  have : (o.lock t x).sec k = o.sec k := by
    unfold OW.sec OW.lock
    rw [List.getD_eq_getElem?_getD, List.getD_eq_getElem?_getD, List.getElem?_append_left hlt]
  rw [this]
theorem lock_iff (h : Inv nd l t t o) {us cs : List Int} (hok : (umOf us cs o).Ok) (hnd : ∀ r, nd r = 0 ∨ (0 ≤ r ∧ r < us.length ∧ 1 ≤ nd r ∧ nd r ≤ us.getD r.toNat 0)) {x : Cm.Op} (ho : Cm.StepOk x) (hk : x.kind = 1) :
    ((umOf us cs o).lockErr 0 x.res x.n (nd x.res) = 0 ↔ o.heldOf x.res + x.n ≤ nd x.res) ∧ (umOf us cs o).held 0 x.res = o.heldOf x.res := by
  have hr := ho.res
  have hn := ho.lock hk
  have h0 := h.nneg hr.1 hr.2
  have hh : (umOf us cs o).held 0 x.res = o.heldOf x.res := by
    rw [h.held x.res hr.1 hr.2]; exact (toks_sum o x.res).2
  refine ⟨?_, hh⟩
  have hs : sumOf (ofRes x.res) (umOf us cs o).l = o.heldOf x.res := by
    rw [h.held x.res hr.1 hr.2]; exact (toks_sum o x.res).1
  unfold UM.lockErr
  rw [hh]
  unfold UM.free
  rw [hs]
  unfold UM.tot
  rw [show (umOf us cs o).us = us from rfl]
  have hhas : (umOf us cs o).has x.res ↔ x.res < us.length := by
    unfold UM.has; rw [show (umOf us cs o).us = us from rfl]; exact ⟨fun h => h.2, fun h => ⟨hr.1, h⟩⟩
  rcases hnd x.res with e | ⟨e1, e2, e3, e4⟩
  · rw [e]
    constructor
    · intro h
      split at h
      · omega
      · split at h
        · omega
        · omega
    · intro h; omega
  · have hb := hhas.2 e2
    constructor
    · intro h
      split at h
      · omega
      · split at h
        · omega
        · omega
    · intro h
      rw [if_neg, if_neg, if_neg]
      · rw [if_pos hb]; omega
      · omega
      · rintro (a | a | a | a)
        · omega
        · exact a hb
        · omega
        · omega
/-- The document's Unlock of job 0. -/
theorem inner_all : ∀ (q : List Tkn) (i : Nat), (∀ x ∈ q, x.job = 0) → i ≤ q.length → innerTo q 0 i = (i : Int) - 1
  | q, 0, _, _ => rfl
  | q, i + 1, h, hi => by
    unfold innerTo
    have hx := List.getElem?_eq_getElem (show i < q.length by omega)
    rw [hx]
    simp only
    rw [if_pos (h _ (List.getElem_mem _))]; omega
theorem unlock_iff (h : Inv nd l t t o) {us cs : List Int} (hok : (umOf us cs o).Ok) (r : Int) :
    (o.isTop r = true → ((umOf us cs o).unlock 0 r).1.2 = 0 ∧ ∀ t', ((umOf us cs o).unlock 0 r).2 = umOf us cs (o.endOne t')) ∧ (o.isTop r = false → ((umOf us cs o).unlock 0 r).1.2 ≠ 0 ∧ ((umOf us cs o).unlock 0 r).2 = umOf us cs o) := by
  have hj : ∀ x ∈ toks o, x.job = 0 := fun x hx => by
    obtain ⟨k, _, rfl⟩ := List.mem_map.1 hx; rfl
  have hin : innerOf (toks o) 0 = ((toks o).length : Int) - 1 := inner_all _ _ hj (Nat.le_refl _)
  have hl : (umOf us cs o).l = toks o := rfl
  unfold UM.unlock
  rw [hl, hin]
  unfold OW.isTop
  cases hq : o.opn with
  | nil =>
    have ht : toks o = [] := by unfold toks; rw [hq]; rfl
    refine ⟨(fun e => by cases e), fun _ => ?_⟩
    rw [ht]
    split
    · exact ⟨by simp, rfl⟩
    · exact ⟨by simp, rfl⟩
  | cons k q =>
    simp only
    have ht : toks o = (q.reverse.map fun k => (⟨0, (o.sec k).res, (o.sec k).units⟩ : Tkn)) ++ [⟨0, (o.sec k).res, (o.sec k).units⟩] := by
      unfold toks; rw [hq, List.reverse_cons, List.map_append]; rfl
    have hlen : (((toks o).length : Int) - 1).toNat = (q.reverse.map fun k => (⟨0, (o.sec k).res, (o.sec k).units⟩ : Tkn)).length := by
      rw [ht, List.length_append, List.length_singleton]; omega
    have hget : (toks o)[(((toks o).length : Int) - 1).toNat]? = some ⟨0, (o.sec k).res, (o.sec k).units⟩ := by
      rw [hlen, ht, List.getElem?_append_right (Nat.le_refl _), Nat.sub_self]; rfl
    have hpos : ¬ ((toks o).length : Int) - 1 < 0 := by rw [ht, List.length_append, List.length_singleton]; omega
    rw [hget]
    simp only
    have hent := hok.ent ⟨0, (o.sec k).res, (o.sec k).units⟩ (by rw [hl]; exact List.mem_of_getElem? hget)
    constructor
    · intro e
      have e : (o.sec k).res = r := by simpa using e
      have hh : (umOf us cs o).has r := by have := hent.2.1; simp only at this; rw [e] at this; exact this
      rw [if_neg (by simp [hh]), if_neg (by simp [hpos, e])]
      refine ⟨rfl, fun t' => ?_⟩
      simp only
      unfold umOf
      congr 1
      rw [hlen, ht, List.eraseIdx_append_of_length_le (Nat.le_refl _), Nat.sub_self]
      have e2 : (o.endOne t').opn = q := by unfold OW.endOne; rw [hq]
      unfold toks
      rw [e2]
      simp only [List.eraseIdx_cons_zero, List.append_nil]
      refine List.map_congr_left fun j hj => ?_
      have : ((o.endOne t').sec j).res = (o.sec j).res ∧ ((o.endOne t').sec j).units = (o.sec j).units := by
        unfold OW.endOne
        rw [hq]
        simp only
        unfold OW.sec
        simp only
        rw [List.getD_eq_getElem?_getD, List.getD_eq_getElem?_getD, List.getElem?_set]
        by_cases hkj : k = j
        · subst hkj
          rw [if_pos rfl]
          split
          · exact ⟨by simp [List.getD_eq_getElem?_getD], by simp [List.getD_eq_getElem?_getD]⟩
          · rename_i hn
            rw [List.getD_eq_getElem?_getD, List.getElem?_eq_none (show o.out.length ≤ k by omega)]; exact ⟨rfl, rfl⟩
        · rw [if_neg hkj]; exact ⟨rfl, rfl⟩
      rw [this.1, this.2]
    · intro e
      have e : ¬ (o.sec k).res = r := by simpa using e
      split
      · exact ⟨by simp, rfl⟩
      · rw [if_pos (.inr e)]; exact ⟨by simp, rfl⟩
end
/-- All these sections end here. -/
def shutAll (t : Nat) (ks : List Nat) (out : List Sec) : List Sec := ks.foldl (fun q k => q.set k { q.getD k default with upto := t }) out
theorem shutAll_app (t : Nat) (ks : List Nat) (k : Nat) (out : List Sec) : shutAll t (ks ++ [k]) out = (shutAll t ks out).set k { (shutAll t ks out).getD k default with upto := t } := by
  unfold shutAll; rw [List.foldl_append]; rfl
theorem shutAll_len (t : Nat) : ∀ (ks : List Nat) (out : List Sec), (shutAll t ks out).length = out.length
  | [], _ => rfl
  | k :: ks, out => by
    unfold shutAll; rw [List.foldl_cons]
    have := shutAll_len t ks (out.set k { out.getD k default with upto := t })
    unfold shutAll at this; rw [this, List.length_set]
theorem shutAll_at (t : Nat) : ∀ (ks : List Nat) (out : List Sec) (j : Nat), (shutAll t ks out)[j]? = if j ∈ ks then out[j]?.map (fun s => { s with upto := t }) else out[j]?
  | [], out, j => by simp [shutAll]
  | k :: ks, out, j => by
    have ih := shutAll_at t ks (out.set k { out.getD k default with upto := t }) j
    have e : shutAll t (k :: ks) out = shutAll t ks (out.set k { out.getD k default with upto := t }) := rfl
    rw [e, ih, List.getElem?_set]
    by_cases hkj : k = j
    · subst hkj
      simp only [List.mem_cons, true_or, if_true]
      by_cases hl : k < out.length
      · rw [if_pos hl, List.getD_eq_getElem?_getD, List.getElem?_eq_getElem hl]
        split <;> rfl
      · rw [if_neg hl, List.getElem?_eq_none (by omega)]
        split <;> rfl
    · have : (j ∈ k :: ks) ↔ j ∈ ks := by
        rw [List.mem_cons]; exact ⟨fun h => h.resolve_left fun e => hkj e.symm, .inr⟩
      simp only [if_neg hkj, this]
theorem shutAll_rev (t : Nat) (ks : List Nat) (out : List Sec) : shutAll t ks.reverse out = shutAll t ks out := by
  refine List.ext_getElem? fun j => ?_
  rw [shutAll_at, shutAll_at]
  simp only [List.mem_reverse]
theorem ends_out (t : Nat) (o : OW) : ∀ n, n ≤ o.opn.length → (ends t n o).out = shutAll t (o.opn.take n) o.out
  | 0, _ => by simp [ends, shutAll]
  | n + 1, h => by
    have ih := ends_out t o n (by omega)
    have hop := ends_opn t n o
    have hx := List.getElem?_eq_getElem (show n < o.opn.length by omega)
    rw [List.take_succ_eq_append_getElem (by omega), shutAll_app, ← ih, show ends t (n + 1) o = (ends t n o).endOne t from rfl]
    unfold OW.endOne
    have hd : (ends t n o).opn = o.opn[n] :: o.opn.drop (n + 1) := by rw [hop, List.drop_eq_getElem_cons]
    rw [hd]
    rfl
theorem ends_all (t : Nat) (o : OW) : (ends t o.opn.length o).out = shutAll t o.opn.reverse o.out := by
  rw [ends_out t o _ (Nat.le_refl _), List.take_length, shutAll_rev]
/-- The run, the first k steps done. -/
def runK (nd : Int → Int) (l : List Cm.Op) (k : Nat) : OW := runS nd (l.take k) 0 zeroO
theorem runK_step {nd : Int → Int} {l : List Cm.Op} {k : Nat} {x : Cm.Op} (h : l[k]? = some x) : runK nd l (k + 1) = stepS nd k x (runK nd l k) := runS_take h zeroO
theorem runK_all {nd : Int → Int} {l : List Cm.Op} : (runK nd l l.length).out = sections nd l := by unfold runK sections; rw [List.take_length]
theorem runK_inv {nd : Int → Int} {l : List Cm.Op} (hl : ∀ x ∈ l, Cm.StepOk x) {k : Nat} (hk : k ≤ l.length) : Inv nd l k k (runK nd l k) := inv_take hl k hk
theorem runK_ok {nd : Int → Int} {l : List Cm.Op} {us cs : List Int} (hl : ∀ x ∈ l, Cm.StepOk x) (h0 : (UM.mk us [] cs).Ok) (hnd : ∀ r, nd r = 0 ∨ (0 ≤ r ∧ r < us.length ∧ 1 ≤ nd r ∧ nd r ≤ us.getD r.toNat 0)) : ∀ {k : Nat}, k ≤ l.length → (∀ (j : Nat) x, j < k → l[j]? = some x → x.kind ≠ 9) → (umOf us cs (runK nd l k)).Ok
  | 0, _, _ => h0
  | k + 1, hk, h9 => by
    have ih := runK_ok hl h0 hnd (k := k) (by omega) fun j x hj hx => h9 j x (by omega) hx
    have hx := List.getElem?_eq_getElem (show k < l.length by omega)
    have ho := hl _ (List.getElem_mem (show k < l.length by omega))
    have hI := runK_inv (nd := nd) hl (show k ≤ l.length by omega)
    have hn9 := h9 k _ (by omega) hx
    rw [runK_step hx]
    generalize l[k] = x at *
    unfold stepS
    split
    · rename_i h1
      split
      · rename_i hf
        have := lock_ok ih ((lock_iff hI ih hnd ho h1).1.2 hf)
        unfold umOf
        rw [toks_lock hI]; exact this
      · exact ih
    · split
      · split
        · rename_i ht
          have := unlock_ok ih 0 x.res
          rw [((unlock_iff hI ih x.res).1 ht).2 k] at this
          exact this
        · exact ih
      · exact ih
end Ad
end Go

/-
  The document's gaps, rows and times (keelref12), beside respond's. No program.
-/
namespace Go
namespace Ad
open Tm
set_option linter.unusedSimpArgs false
set_option linter.unusedVariables false
/-- The document's gap. -/
def gapRT (x : Task) : Int := if 0 < x.period then x.period else x.gap
def gapRI (ts : List Task) (id : Int) : Int := match taskI ts id with | some x => gapRT x | none => 0
def heavyM (ts : List Task) : Bool := ts.any fun x => decide (20000 < gapRT x)
/-- The document's rows, the first k tasks looked at. -/
def rowsTo (lev id : Int) (ts : List Task) : Nat → List (Int × Int) × Bool
  | 0 => ([], true)
  | k + 1 => match ts[k]? with
    | some y => if (k : Int) ≠ id ∧ lev ≤ y.level then ((rowsTo lev id ts k).1 ++ [(cost ts k, gapT y)], (rowsTo lev id ts k).2 && decide (0 < gapT y)) else rowsTo lev id ts k
    | none => rowsTo lev id ts k
/-- The document's rows, and whether all of them can be reckoned with. -/
def rowsM (m : TM) (id : Int) (x : Task) : List (Int × Int) := (rowsTo x.level id m.ts m.ts.length).1
def rowsB (m : TM) (id : Int) (x : Task) : Bool := decide (0 < gapT x) && (rowsTo x.level id m.ts m.ts.length).2
end Ad
end Go

/-
  Units as plain data: a job's innermost lock given back, and all of them. No program.
-/
namespace Go
namespace Um
set_option linter.unusedSimpArgs false
set_option linter.unusedVariables false
/-- The locks without a job's innermost one. -/
def popL (l : List Tkn) (j : Int) : List Tkn := if innerOf l j < 0 then l else l.eraseIdx (innerOf l j).toNat
/-- What goes, and what is left. -/
structure Popped (l : List Tkn) (j : Int) (x : Tkn) : Prop where
  job : x.job = j
  mem : x ∈ l
  at_ : (l.filter (ofJob j))[(l.filter (ofJob j)).length - 1]? = some x
  own : (popL l j).filter (ofJob j) = (l.filter (ofJob j)).dropLast
  rest : (popL l j).filter (fun y => !ofJob j y) = l.filter (fun y => !ofJob j y)
  others : ∀ k, k ≠ j → (popL l j).filter (ofJob k) = l.filter (ofJob k)
  sum : ∀ p, sumOf p (popL l j) = sumOf p l - (if p x then x.n else 0)
  sub : ∀ y ∈ popL l j, y ∈ l
  inner : l[(innerOf l j).toNat]? = some x ∧ 0 ≤ innerOf l j ∧ l.eraseIdx (innerOf l j).toNat = popL l j
section
variable {l : List Tkn} {j : Int} {x : Tkn}
theorem Popped.heldL (h : Popped l j x) {r : Nat} (hr : x.res = r) : Um.heldL (popL l j) j = (Um.heldL l j).set r (sumOf (ofBoth j r) l - x.n) := by
  refine List.ext_getElem? fun i => ?_
  rw [List.getElem?_set]
  by_cases hi : i < 16
  · rw [heldL_at _ _ hi, h.sum]
    by_cases e : r = i
    · subst e
      have hb : ofBoth j (r : Int) x = true := by simp [ofBoth, h.job, hr]
      have hl : r < (Um.heldL l j).length := by rw [heldL_len]; exact hi
      rw [if_pos hb, if_pos rfl, if_pos hl]
    · rw [if_neg e, heldL_at _ _ hi, if_neg (by simp only [ofBoth, Bool.and_eq_true, decide_eq_true_eq]; rintro ⟨_, h2⟩; omega)]
      simp
  · have e : ∀ l, (Um.heldL l j)[i]? = none := fun l => List.getElem?_eq_none (by rw [heldL_len]; omega)
    rw [e, e]
    split
    · rw [if_neg (by rw [heldL_len]; omega)]
    · rfl
theorem Popped.frees {m : UM} (h : Popped m.l j x) {r : Nat} (hr : x.res = r) (hl : r < m.us.length) : (UM.mk m.us (popL m.l j) m.cs).frees = m.frees.set r (m.free r + x.n) := by
  have hfr : m.free r = m.tot r - sumOf (ofRes r) m.l := by unfold UM.free; rw [if_pos (by unfold UM.has; omega)]
  refine List.ext_getElem? fun i => ?_
  rw [List.getElem?_set]
  unfold UM.frees
  simp only [List.getElem?_map, List.length_map, List.length_range]
  by_cases hi : i < m.us.length
  · rw [List.getElem?_range hi]
    simp only [Option.map_some, h.sum, UM.tot]
    by_cases e : r = i
    · subst e
      rw [if_pos rfl, if_pos hi, if_pos (by simp [ofRes, hr]), hfr]
      simp only [UM.tot]
      congr 1; omega
    · rw [if_neg e, if_neg (by simp only [ofRes, decide_eq_true_eq]; omega)]
      simp
  · rw [List.getElem?_eq_none (by simp; omega)]
    by_cases e : r = i
    · rw [if_pos e, if_neg (by omega)]; rfl
    · rw [if_neg e]; rfl
theorem Popped.jobs (h : Popped l j x) {ns : List In.Row} (hn : Jobs l ns) : (((popL l j).filter (ofJob j)) ≠ [] → Jobs (popL l j) ns) ∧ (((popL l j).filter (ofJob j)) = [] → Jobs (popL l j) (ns.eraseIdx (In.below j ns))) := by
  constructor
  · intro hne
    obtain ⟨y, hy⟩ := List.exists_mem_of_ne_nil _ hne
    obtain ⟨hy1, hy2⟩ := List.mem_filter.1 hy
    have hyj : y.job = j := by simpa [ofJob] using hy2
    refine ⟨hn.1, fun k => (hn.2 k).trans ?_⟩
    constructor
    · rintro ⟨z, hz, e⟩
      by_cases hk : k = j
      · exact ⟨y, hy1, by rw [hk]; exact hyj⟩
      · have : z ∈ l.filter (ofJob k) := List.mem_filter.2 ⟨hz, by simp [ofJob, e]⟩
        rw [← h.others k hk] at this
        exact ⟨z, (List.mem_filter.1 this).1, e⟩
    · rintro ⟨z, hz, e⟩; exact ⟨z, h.sub z hz, e⟩
  · intro he
    have hf : popL l j = l.filter fun y => !ofJob j y := by
      rw [← h.rest]
      refine (List.filter_eq_self.2 fun y hy => ?_).symm
      cases hq : ofJob j y with
      | false => rfl
      | true =>
        have : y ∈ (popL l j).filter (ofJob j) := List.mem_filter.2 ⟨hy, hq⟩
        rw [he] at this; cases this
    rw [hf]
    exact hn.drop ((hn.found j).2 ⟨x, h.mem, h.job⟩)
end
/-- All of a job's locks, one after the other. -/
def popN (j : Int) : Nat → List Tkn → List Tkn
  | 0, l => l
  | n + 1, l => popL (popN j n l) j
end Um
end Go

/-
  Chapter 12's runs as plain data. No program.
-/
namespace Go
namespace Ad
open Tm
namespace RR
def M0 : TM := ⟨8, [1], []⟩
def hi : Task := ⟨⟨#[97]⟩, 2, 0, [], ⟨#[119, 111, 114, 107, 32, 49]⟩, 4, 1, 0⟩
def lo : Task := ⟨⟨#[98]⟩, 1, 0, [], ⟨#[119, 111, 114, 107, 32, 50]⟩, 0, 0, 8⟩
def one : Task := ⟨⟨#[97]⟩, 1, 0, [], ⟨#[119, 111, 114, 107, 32, 49]⟩, 4, 1, 0⟩
def free : Task := ⟨⟨#[97]⟩, 2, 0, [], ⟨#[119, 111, 114, 107, 32, 49]⟩, 0, 0, 0⟩
def hi2 : Task := ⟨⟨#[97]⟩, 2, 0, [⟨0, 1⟩], ⟨#[119, 111, 114, 107, 32, 49]⟩, 4, 1, 0⟩
def lo2 : Task := ⟨⟨#[98]⟩, 1, 0, [⟨0, 1⟩], ⟨#[108, 111, 99, 107, 32, 48, 32, 49, 59, 32, 119, 111, 114, 107, 32, 49, 59, 32, 117, 110, 108, 111, 99, 107, 32, 48]⟩, 0, 0, 8⟩
def lo3 : Task := ⟨⟨#[98]⟩, 1, 0, [⟨0, 1⟩], ⟨#[108, 111, 99, 107, 32, 48, 32, 49, 59, 32, 119, 111, 114, 107, 32, 50, 59, 32, 117, 110, 108, 111, 99, 107, 32, 48]⟩, 0, 0, 8⟩
set_option maxRecDepth 100000
/-- What Runs asks of two tasks. -/
structure Two (x y : Task) (a e b f : Int) : Prop where
  c0 : M0.check x = 0
  c1 : TM.check ⟨8, [1], [x]⟩ y = 0
  w0 : worst ⟨8, [1], [x, y]⟩ 0 = (a, e)
  w1 : worst ⟨8, [1], [x, y]⟩ 1 = (b, f)
theorem r1 : Two hi lo 2 0 7 0 := ⟨by decide +kernel, by decide +kernel, by decide +kernel, by decide +kernel⟩
theorem r2 : Two one lo 0 42 7 0 := ⟨by decide +kernel, by decide +kernel, by decide +kernel, by decide +kernel⟩
theorem r3 : Two free lo 0 40 0 40 := ⟨by decide +kernel, by decide +kernel, by decide +kernel, by decide +kernel⟩
theorem r4 : Two hi2 lo2 4 0 8 0 := ⟨by decide +kernel, by decide +kernel, by decide +kernel, by decide +kernel⟩
def M5 : TM := ⟨8, [1], [hi2, lo3]⟩
theorem g1 : gapI M5.ts 1 = 8 := by decide +kernel
theorem g2 : gapI M5.ts 2 = 0 := by decide +kernel
theorem d1 : demandI M5 0 4 = (5, 0) := by decide +kernel
theorem d2 : demandI M5 0 0 = (0, 1) := by decide +kernel
end RR
end Ad
end Go
