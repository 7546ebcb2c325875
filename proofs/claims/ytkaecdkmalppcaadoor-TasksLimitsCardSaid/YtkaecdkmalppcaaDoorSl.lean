/-
  Chunks: parts of memory with their footprints; states that are lists of chunks, each apart from all others.
-/
import Derived.Test.YtkaecdkmalppcaaDoorVec
namespace Go
namespace Kw

/-- A part of memory: it stands on the blocks of its footprint and on no others. -/
structure Ch where
  holds : (Nat → Prop) → World → Prop
  lt : ∀ F w, holds F w → ∀ b, F b → b < w.heap.size
  keep : ∀ F G w w', holds F w → Keeps G w w' → (∀ b, F b → ¬ G b) → holds F w'

namespace Ch
def emp : Ch := ⟨fun F _ => ∀ b, ¬ F b, fun _ _ h b hb => (h b hb).elim, fun _ _ _ _ h _ _ => h⟩
/-- A fact of no place. -/
def pr (φ : Prop) : Ch := ⟨fun F _ => φ ∧ ∀ b, ¬ F b, fun _ _ h b hb => (h.2 b hb).elim, fun _ _ _ _ h _ _ => h⟩
/-- A block, known whole. -/
def pt (p : Nat) (T : TypeId) (xs : List Value) : Ch :=
  ⟨fun F w => Blk w p T xs ∧ ∀ b, F b ↔ b = p, fun _ _ h b hb => by rw [(h.2 b).1 hb]; exact h.1.lt, fun _ _ _ _ h hk hn => ⟨hk.blk h.1 (hn p ((h.2 p).2 rfl)), h.2⟩⟩
/-- A slice that owns its row. -/
def row (T : TypeId) (sz : Nat) (v : Value) (n : Nat) (xs : List Value) : Ch :=
  ⟨fun F w => Own w T sz v n xs ∧ ∀ b, F b ↔ v.ownBlock = some b, fun _ _ h b hb => h.1.lt b ((h.2 b).1 hb), fun _ _ _ _ h hk hn => ⟨h.1.keeps hk fun b hb => hn b ((h.2 b).2 hb), h.2⟩⟩
/-- A slice that reads, owns its row or ends with its length. -/
def vec (T : TypeId) (sz : Nat) (v : Value) (n : Nat) (xs : List Value) : Ch :=
  ⟨fun F w => Vec w T sz v n xs ∧ ∀ b, F b ↔ v.ownBlock = some b, fun _ _ h b hb => h.1.lt b ((h.2 b).1 hb), fun _ _ _ _ h hk hn => ⟨h.1.keeps hk fun b hb => hn b ((h.2 b).2 hb), h.2⟩⟩
def ex {α : Type} (c : α → Ch) : Ch :=
  ⟨fun F w => ∃ x, (c x).holds F w, fun F w ⟨x, h⟩ => (c x).lt F w h, fun F G w w' ⟨x, h⟩ hk hn => ⟨x, (c x).keep F G w w' h hk hn⟩⟩
end Ch

def Sts : List Ch → (Nat → Prop) → World → Prop
  | [], F, _ => ∀ b, ¬ F b
  | c :: cs, F, w => ∃ F1 F2, c.holds F1 w ∧ Sts cs F2 w ∧ Sep F1 F2 ∧ ∀ b, F b ↔ F1 b ∨ F2 b

theorem Sts.lt : ∀ {cs : List Ch} {F : Nat → Prop} {w : World}, Sts cs F w → ∀ b, F b → b < w.heap.size
  | [], _, _, h, b, hb => (h b hb).elim
  | c :: _, _, w, ⟨F1, _, h1, h2, _, h4⟩, b, hb => ((h4 b).1 hb).elim (fun h => c.lt F1 w h1 b h) (fun h => Sts.lt h2 b h)
theorem Sts.keep : ∀ {cs : List Ch} {F G : Nat → Prop} {w w' : World}, Sts cs F w → Keeps G w w' → (∀ b, F b → ¬ G b) → Sts cs F w'
  | [], _, _, _, _, h, _, _ => h
  | c :: _, _, G, w, w', ⟨F1, F2, h1, h2, h3, h4⟩, hk, hn =>
    ⟨F1, F2, c.keep F1 G w w' h1 hk fun b hb => hn b ((h4 b).2 (.inl hb)), h2.keep hk fun b hb => hn b ((h4 b).2 (.inr hb)), h3, h4⟩
def Ch.stars (cs : List Ch) : Ch := ⟨Sts cs, fun _ _ h => h.lt, fun _ _ _ _ h hk hn => h.keep hk hn⟩

theorem Sts.nil (w : World) : Sts [] (fun _ => False) w := fun _ => id
theorem Sts.one {c : Ch} {F : Nat → Prop} {w : World} (h : c.holds F w) : Sts [c] F w := ⟨F, fun _ => False, h, Sts.nil w, fun _ _ => id, fun _ => ⟨.inl, fun h => h.elim id False.elim⟩⟩
/-- Chunks of no place. -/
theorem Sts.void {w : World} : ∀ {cs : List Ch}, (∀ c ∈ cs, c.holds (fun _ => False) w) → Sts cs (fun _ => False) w
  | [], _ => fun _ => id
  | c :: cs, h => ⟨fun _ => False, fun _ => False, h c (by simp), Sts.void fun c hc => h c (by simp [hc]), fun _ h => h.elim, fun _ => ⟨False.elim, fun h => h.elim id id⟩⟩
theorem Sts.more {w : World} {c : Ch} {cs : List Ch} {F : Nat → Prop} (h : c.holds F w) (hv : ∀ c ∈ cs, c.holds (fun _ => False) w) : Sts (c :: cs) F w :=
  ⟨F, fun _ => False, h, Sts.void hv, fun _ _ => id, fun _ => ⟨.inl, fun h => h.elim id False.elim⟩⟩
theorem Sts.of_one {c : Ch} {F : Nat → Prop} {w : World} (h : Sts [c] F w) : c.holds F w := by
  obtain ⟨F1, F2, h1, h2, h3, h4⟩ := h
  have : F = F1 := funext fun b => propext ⟨fun hb => ((h4 b).1 hb).elim id fun h => (h2 b h).elim, fun hb => (h4 b).2 (.inl hb)⟩
  rw [this]; exact h1

theorem Sts.get : ∀ (i : Nat) {cs : List Ch} {F : Nat → Prop} {w : World}, Sts cs F w →
    ∃ F1 F2, (cs.getD i .emp).holds F1 w ∧ Sts (cs.set i .emp) F2 w ∧ Sep F1 F2 ∧ ∀ b, F b ↔ F1 b ∨ F2 b
  | i, [], F, w, h => ⟨fun _ => False, F, by simp [Ch.emp], by simpa using h, fun _ h => h.elim, fun _ => ⟨.inr, fun h => h.elim False.elim id⟩⟩
  | 0, c :: cs, F, w, ⟨F1, F2, h1, h2, h3, h4⟩ =>
    ⟨F1, F2, h1, ⟨fun _ => False, F2, fun _ => id, h2, fun _ h => h.elim, fun _ => ⟨.inr, fun h => h.elim False.elim id⟩⟩, h3, h4⟩
  | i + 1, c :: cs, F, w, ⟨F1, F2, h1, h2, h3, h4⟩ => by
    obtain ⟨G1, G2, k1, k2, k3, k4⟩ := Sts.get i h2
    refine ⟨G1, fun b => F1 b ∨ G2 b, by simpa using k1, ⟨F1, G2, h1, k2, fun b hb hg => h3 b hb ((k4 b).2 (.inr hg)), fun _ => Iff.rfl⟩, fun b hb hg => ?_, fun b => ?_⟩
    · rcases hg with hg | hg
      · exact h3 b hg ((k4 b).2 (.inl hb))
      · exact k3 b hb hg
    · rw [h4 b, k4 b]
      constructor
      · rintro (h | h | h)
        · exact .inr (.inl h)
        · exact .inl h
        · exact .inr (.inr h)
      · rintro (h | h | h)
        · exact .inr (.inl h)
        · exact .inl h
        · exact .inr (.inr h)

theorem Sts.put : ∀ (i : Nat) {cs : List Ch} {F1 F2 : Nat → Prop} {w : World} {c : Ch}, Sts cs F2 w → cs.getD i .emp = .emp → c.holds F1 w → Sep F1 F2 →
    ∃ F, Sts (cs.set i c) F w ∧ ∀ b, F b → F1 b ∨ F2 b
  | i, [], F1, F2, w, c, h, _, _, _ => ⟨F2, by simpa using h, fun _ => .inr⟩
  | 0, c0 :: cs, F1, F2, w, c, ⟨G1, G2, h1, h2, h3, h4⟩, he, hc, hs => by
    simp only [List.getD_cons_zero] at he
    subst he
    exact ⟨fun b => F1 b ∨ G2 b, ⟨F1, G2, hc, h2, fun b hb hg => hs b hb ((h4 b).2 (.inr hg)), fun _ => Iff.rfl⟩, fun b hb => hb.imp id fun h => (h4 b).2 (.inr h)⟩
  | i + 1, c0 :: cs, F1, F2, w, c, ⟨G1, G2, h1, h2, h3, h4⟩, he, hc, hs => by
    simp only [List.getD_cons_succ] at he
    obtain ⟨F, k1, k2⟩ := Sts.put i h2 he hc fun b hb hg => hs b hb ((h4 b).2 (.inr hg))
    refine ⟨fun b => G1 b ∨ F b, ⟨G1, F, h1, k1, fun b hb hf => ?_, fun _ => Iff.rfl⟩, fun b hb => ?_⟩
    · rcases k2 b hf with h | h
      · exact hs b h ((h4 b).2 (.inl hb))
      · exact h3 b hb h
    · rcases hb with hb | hb
      · exact .inr ((h4 b).2 (.inl hb))
      · exact (k2 b hb).imp id fun h => (h4 b).2 (.inr h)

theorem Sts.app : ∀ {cs ds : List Ch} {F1 F2 : Nat → Prop} {w : World}, Sts cs F1 w → Sts ds F2 w → Sep F1 F2 → Sts (cs ++ ds) (fun b => F1 b ∨ F2 b) w
  | [], ds, F1, F2, w, h1, h2, _ => by
    have : (fun b => F1 b ∨ F2 b) = F2 := funext fun b => propext ⟨fun h => h.elim (fun h => (h1 b h).elim) id, .inr⟩
    rw [this]; exact h2
  | c :: cs, ds, F1, F2, w, ⟨G1, G2, h1, h2, h3, h4⟩, hd, hs =>
    ⟨G1, fun b => G2 b ∨ F2 b, h1, Sts.app h2 hd fun b hb hf => hs b ((h4 b).2 (.inr hb)) hf, fun b hb hf => hf.elim (h3 b hb) (hs b ((h4 b).2 (.inl hb))), fun b => by show (F1 b ∨ F2 b) ↔ (G1 b ∨ (G2 b ∨ F2 b)); rw [h4 b, or_assoc]⟩

def sel : List Nat → List Ch → List Ch
  | [], _ => []
  | i :: is, cs => cs.getD i .emp :: sel is (cs.set i .emp)
def blank : List Nat → List Ch → List Ch
  | [], cs => cs
  | i :: is, cs => blank is (cs.set i .emp)
def putL : List Nat → List Ch → List Ch → List Ch
  | _, cs, [] => cs
  | [], cs, c :: post => cs ++ c :: post
  | i :: is, cs, c :: post => putL is (cs.set i c) post

theorem Sts.sel : ∀ (is : List Nat) {cs : List Ch} {F : Nat → Prop} {w : World}, Sts cs F w →
    ∃ F1 F2, Sts (sel is cs) F1 w ∧ Sts (blank is cs) F2 w ∧ Sep F1 F2 ∧ ∀ b, F b ↔ F1 b ∨ F2 b
  | [], cs, F, w, h => ⟨fun _ => False, F, Sts.nil w, h, fun _ h => h.elim, fun _ => ⟨.inr, fun h => h.elim False.elim id⟩⟩
  | i :: is, cs, F, w, h => by
    obtain ⟨G1, G2, k1, k2, k3, k4⟩ := Sts.get i h
    obtain ⟨H1, H2, l1, l2, l3, l4⟩ := Sts.sel is k2
    refine ⟨fun b => G1 b ∨ H1 b, H2, ⟨G1, H1, k1, l1, fun b hb hh => k3 b hb ((l4 b).2 (.inl hh)), fun _ => Iff.rfl⟩, l2, fun b hb hh => ?_, fun b => by rw [k4 b, l4 b, or_assoc]⟩
    rcases hb with hb | hb
    · exact k3 b hb ((l4 b).2 (.inr hh))
    · exact l3 b hb hh

theorem set_getD_ne {cs : List Ch} {i j : Nat} (c : Ch) (h : i ≠ j) : (cs.set i c).getD j .emp = cs.getD j .emp := by
  simp [List.getD_eq_getElem?_getD, List.getElem?_set_ne h]
theorem set_emp_getD {cs : List Ch} {i : Nat} : (cs.set i .emp).getD i .emp = .emp := by
  simp only [List.getD_eq_getElem?_getD, List.getElem?_set]
  split
  · split <;> rfl
  · simp at *
theorem blank_emp : ∀ (is : List Nat) (cs : List Ch) (i : Nat), (i ∈ is ∨ cs.getD i .emp = .emp) → (blank is cs).getD i .emp = .emp
  | [], cs, i, h => by simpa [blank] using h
  | j :: is, cs, i, h => by
    unfold blank
    refine blank_emp is _ i ?_
    by_cases hij : j = i
    · subst hij; exact .inr set_emp_getD
    · rcases h with h | h
      · rcases List.mem_cons.1 h with h | h
        · exact absurd h.symm hij
        · exact .inl h
      · exact .inr (by rw [set_getD_ne _ hij]; exact h)

theorem Sts.putL : ∀ (is : List Nat) {cs post : List Ch} {F1 F2 : Nat → Prop} {w : World}, is.Nodup → (∀ i ∈ is, cs.getD i .emp = .emp) → Sts post F1 w → Sts cs F2 w → Sep F1 F2 →
    ∃ F, Sts (putL is cs post) F w ∧ ∀ b, F b → F1 b ∨ F2 b
  | is, cs, [], F1, F2, w, _, _, _, h, _ => ⟨F2, by cases is <;> exact h, fun _ => .inr⟩
  | [], cs, c :: post, F1, F2, w, _, _, hp, h, hs => by
    refine ⟨_, Sts.app h hp hs.symm, fun b hb => hb.symm⟩
  | i :: is, cs, c :: post, F1, F2, w, hn, he, ⟨G1, G2, h1, h2, h3, h4⟩, h, hs => by
    obtain ⟨F, k1, k2⟩ := Sts.put i h (he i (by simp)) h1 fun b hb hf => hs b ((h4 b).2 (.inl hb)) hf
    obtain ⟨hni, hn⟩ := List.nodup_cons.1 hn
    obtain ⟨F', l1, l2⟩ := Sts.putL is (cs := cs.set i c) (post := post) hn (fun j hj => by rw [set_getD_ne _ (fun e => hni (by rw [e]; exact hj))]; exact he j (by simp [hj])) h2 k1 fun b hb hf => by
      rcases k2 b hf with h | h
      · exact h3 b h hb
      · exact hs b ((h4 b).2 (.inr hb)) h
    refine ⟨F', l1, fun b hb => ?_⟩
    rcases l2 b hb with h | h
    · exact .inl ((h4 b).2 (.inr h))
    · exact (k2 b h).imp (fun h => (h4 b).2 (.inl h)) id

/-- What brings the list of a state into its form. -/
theorem red : (∀ (a b : Ch) l, (a :: l).set 0 b = b :: l) ∧ (∀ (a b : Ch) l n, (a :: l).set (n + 1) b = a :: l.set n b) ∧ (∀ (a d : Ch) l, (a :: l).getD 0 d = a) ∧ (∀ (a d : Ch) l n, (a :: l).getD (n + 1) d = l.getD n d) ∧
    (∀ (a : Ch) l k, a :: l ++ k = a :: (l ++ k)) ∧ (∀ k : List Ch, [] ++ k = k) ∧ (∀ k : List Ch, k ++ [] = k) ∧
    (∀ cs, Kw.sel [] cs = []) ∧ (∀ i is cs, Kw.sel (i :: is) cs = cs.getD i .emp :: Kw.sel is (cs.set i .emp)) ∧
    (∀ cs, blank [] cs = cs) ∧ (∀ i is cs, blank (i :: is) cs = blank is (cs.set i .emp)) ∧
    (∀ is cs, Kw.putL is cs [] = cs) ∧ (∀ cs c post, Kw.putL [] cs (c :: post) = cs ++ c :: post) ∧ (∀ i is cs c post, Kw.putL (i :: is) cs (c :: post) = Kw.putL is (cs.set i c) post) := by
  refine ⟨fun _ _ _ => rfl, fun _ _ _ _ => rfl, fun _ _ _ => rfl, fun _ _ _ _ => rfl, fun _ _ _ => rfl, fun _ => rfl, fun k => List.append_nil k, fun _ => rfl, fun _ _ _ => rfl, fun _ => rfl, fun _ _ _ => rfl, fun is _ => by cases is <;> rfl, fun _ _ _ => rfl, fun _ _ _ _ _ => rfl⟩

/-- The state: these chunks, each apart; since w0 nothing has turned outside F0 but what is new. -/
def St (F0 : Nat → Prop) (w0 : World) (cs : List Ch) (w : World) : Prop := ∃ F, Sts cs F w ∧ Moves F0 F w0 w

section
variable {F0 : Nat → Prop} {w0 w w' : World} {cs : List Ch}

theorem St.of {F : Nat → Prop} (h : Sts cs F w) : St F w cs w := ⟨F, h, Moves.refl F w⟩
theorem St.start (w : World) : St (fun _ => False) w [] w := ⟨_, Sts.nil w, Moves.refl _ w⟩
theorem St.keeps (h : St F0 w0 cs w) : Keeps F0 w0 w := by obtain ⟨_, _, h⟩ := h; exact h.1

theorem St.sel (is : List Nat) (hS : St F0 w0 cs w) (hn : is.Nodup := by decide) :
    ∃ F, Sts (sel is cs) F w ∧ (∀ b, F b → F0 b ∨ w0.heap.size ≤ b) ∧ (∀ j p T xs, (blank is cs).getD j .emp = .pt p T xs → ¬ F p) ∧ ∀ {w' post}, St F w post w' → St F0 w0 (putL is (blank is cs) post) w' := by
  obtain ⟨F, h, hM⟩ := hS
  obtain ⟨F1, F2, h1, h2, h3, h4⟩ := h.sel is
  refine ⟨F1, h1, fun b hb => hM.2 b ((h4 b).2 (.inl hb)), fun j p T xs hj hp => ?_, fun {w' post} ⟨F', k1, k2⟩ => ?_⟩
  · obtain ⟨G1, G2, g1, _, _, g4⟩ := Sts.get j h2
    rw [hj] at g1
    exact h3 p hp ((g4 p).2 (.inl ((g1.2 p).2 rfl)))
  · have hs2 : Sep F' F2 := k2.sep h3 h2.lt
    obtain ⟨F'', l1, l2⟩ := Sts.putL is hn (fun i hi => blank_emp is cs i (.inl hi)) k1 (h2.keep k2.1 fun b hb hb1 => h3 b hb1 hb) hs2
    refine ⟨F'', l1, hM.1.trans' k2.1 fun b hb => hM.2 b ((h4 b).2 (.inl hb)), fun b hb => ?_⟩
    rcases l2 b hb with hb | hb
    · rcases k2.2 b hb with hb | hb
      · exact hM.2 b ((h4 b).2 (.inl hb))
      · exact .inr (Nat.le_trans hM.1.size hb)
    · exact hM.2 b ((h4 b).2 (.inr hb))

/-- One chunk is taken, and something given back for it. -/
theorem St.at (i : Nat) {c : Ch} (hS : St F0 w0 cs w) (hi : cs.getD i .emp = c) :
    ∃ F, c.holds F w ∧ (∀ b, F b → F0 b ∨ w0.heap.size ≤ b) ∧ ∀ {w' c' post}, St F w (c' :: post) w' → St F0 w0 (cs.set i c' ++ post) w' := by
  subst hi
  obtain ⟨F, h1, h2, _, h3⟩ := hS.sel [i] (by simp)
  refine ⟨F, Sts.of_one h1, h2, fun {w' c' post} h => ?_⟩
  have := h3 h
  have e : putL [i] (blank [i] cs) (c' :: post) = cs.set i c' ++ post := by
    simp only [putL, blank, List.set_set]
    cases post <;> simp [putL]
  rw [e] at this
  exact this

theorem St.step (hS : St F0 w0 cs w) (hk : Keeps (fun _ => False) w w') : St F0 w0 cs w' := by
  obtain ⟨F, h, hM⟩ := hS
  exact ⟨F, h.keep hk fun _ _ => id, hM.new hk⟩
theorem St.drew (hS : St F0 w0 cs w) : St F0 w0 cs w.drew := hS.step (Keeps.refl _ _).drew
theorem St.drewN (hS : St F0 w0 cs w) (n : Nat) : St F0 w0 cs (w.drewN n) := hS.step ((Keeps.refl _ _).drewN n)
/-- A new chunk. -/
theorem St.add (hS : St F0 w0 cs w) {G : Nat → Prop} {c : Ch} (hk : Keeps (fun _ => False) w w') (hc : c.holds G w') (hG : ∀ b, G b → w.heap.size ≤ b) : St F0 w0 (cs ++ [c]) w' := by
  obtain ⟨F, h, hM⟩ := hS
  have hs : Sep F G := fun b hb hg => by have := h.lt b hb; have := hG b hg; omega
  refine ⟨_, (h.keep hk fun _ _ => id).app (Sts.one hc) hs, (hM.new hk).1, fun b hb => ?_⟩
  rcases hb with hb | hb
  · exact hM.2 b hb
  · exact .inr (Nat.le_trans hM.1.size (hG b hb))
theorem St.adds (hS : St F0 w0 cs w) {ds : List Ch} (h : St (fun _ => False) w ds w') : St F0 w0 (cs ++ ds) w' := by
  obtain ⟨F, h1, _, _, h3⟩ := hS.sel []
  have e : F = fun _ => False := funext fun b => propext ⟨fun hb => h1 b hb, False.elim⟩
  subst e
  have := h3 h
  cases ds <;> simpa [putL, blank] using this
theorem St.new (hS : St F0 w0 cs w) (T : TypeId) (xs : List Value) : St F0 w0 (cs ++ [.pt w.heap.size T xs]) (w.alloc (.cells xs.toArray T)) :=
  hS.add ((Keeps.refl _ _).alloc _) (G := fun b => b = w.heap.size) ⟨Blk.new w T xs, fun _ => Iff.rfl⟩ fun b hb => by rw [hb]; exact Nat.le_refl _
theorem St.turn (i : Nat) {c c' : Ch} (hS : St F0 w0 cs w) (hi : cs.getD i .emp = c) (h : ∀ F, c.holds F w → ∃ F', c'.holds F' w' ∧ Moves F F' w w') : St F0 w0 (cs.set i c') w' := by
  obtain ⟨F, h1, _, h2⟩ := hS.at i hi
  obtain ⟨F', k1, k2⟩ := h F h1
  simpa using h2 (post := []) ⟨F', Sts.one k1, k2⟩
theorem St.set (i : Nat) {p : Nat} {T : TypeId} {xs : List Value} (hS : St F0 w0 cs w) (o : Nat) (v : Value) (hi : cs.getD i .emp = .pt p T xs := by rfl) : St F0 w0 (cs.set i (.pt p T (xs.set o v))) (w.setCell ⟨p, o, none⟩ v) :=
  hS.turn i hi fun F h => ⟨F, ⟨h.1.set o v, h.2⟩, ((Keeps.refl F w).setCell (.inl ((h.2 p).2 rfl)) v), fun _ => .inl⟩
theorem St.blk (i : Nat) {p : Nat} {T : TypeId} {xs : List Value} (hS : St F0 w0 cs w) (hi : cs.getD i .emp = .pt p T xs := by rfl) : Blk w p T xs := by
  obtain ⟨F, h, _⟩ := hS.at i hi; exact h.1
theorem St.own (i : Nat) {T : TypeId} {sz n : Nat} {v : Value} {xs : List Value} (hS : St F0 w0 cs w) (hi : cs.getD i .emp = .row T sz v n xs := by rfl) : Own w T sz v n xs := by
  obtain ⟨F, h, _⟩ := hS.at i hi; exact h.1
theorem St.vec (i : Nat) {T : TypeId} {sz n : Nat} {v : Value} {xs : List Value} (hS : St F0 w0 cs w) (hi : cs.getD i .emp = .vec T sz v n xs := by rfl) : Vec w T sz v n xs := by
  obtain ⟨F, h, _⟩ := hS.at i hi; exact h.1
theorem St.pr (i : Nat) {φ : Prop} (hS : St F0 w0 cs w) (hi : cs.getD i .emp = .pr φ := by rfl) : φ := by
  obtain ⟨F, h, _⟩ := hS.at i hi; exact h.1
/-- An owned row grows, or moves. -/
theorem St.grown (i : Nat) {T U : TypeId} {sz n sz' n' : Nat} {v v' : Value} {xs xs' : List Value} (hS : St F0 w0 cs w) (hg : w.grownBy w' v.ownBlock) (ho : Own w' U sz' v' n' xs')
    (hat : ∀ b, v'.ownBlock = some b → v.ownBlock = some b ∨ w.heap.size ≤ b) (hi : cs.getD i .emp = .row T sz v n xs := by rfl) : St F0 w0 (cs.set i (.row U sz' v' n' xs')) w' :=
  hS.turn i hi fun F h => ⟨fun b => v'.ownBlock = some b, ⟨ho, fun _ => Iff.rfl⟩, (Keeps.refl F w).grown hg fun b hb => .inl ((h.2 b).2 hb), fun b hb => (hat b hb).imp (fun h' => (h.2 b).2 h') id⟩
theorem St.setRow (i : Nat) {T : TypeId} {n g : Nat} {v : Value} {xs : List Value} (hS : St F0 w0 cs w) (hg : v.ownBlock = some g) (j : Nat) (u : Value) (hi : cs.getD i .emp = .row T 1 v n xs := by rfl) : St F0 w0 (cs.set i (.row T 1 v n (xs.set j u))) (w.setCell ⟨g, j, none⟩ u) :=
  hS.turn i hi fun F h => ⟨F, ⟨h.1.setIn hg j u, h.2⟩, (Keeps.refl F w).setCell (.inl ((h.2 g).2 hg)) u, fun _ => .inl⟩
/-- A chunk is taken apart. -/
theorem St.opens (i : Nat) {α : Type} {c : Ch} (hS : St F0 w0 cs w) (D : α → List Ch) (h : ∀ F, c.holds F w → ∃ x, Sts (D x) F w) (hi : cs.getD i .emp = c := by rfl) : ∃ x, St F0 w0 (cs.set i .emp ++ D x) w := by
  obtain ⟨F, h1, _, h2⟩ := hS.at i hi
  obtain ⟨x, h⟩ := h F h1
  refine ⟨x, ?_⟩
  have : Sts (Ch.emp :: D x) F w := ⟨fun _ => False, F, fun _ => id, h, fun _ h => h.elim, fun _ => ⟨.inr, fun h => h.elim False.elim id⟩⟩
  exact h2 (St.of this)
/-- Chunks are put together. -/
theorem St.fold (is : List Nat) (c : Ch) (hS : St F0 w0 cs w) (h : ∀ F, Sts (Kw.sel is cs) F w → c.holds F w) (hn : is.Nodup := by decide) : St F0 w0 (putL is (blank is cs) [c]) w := by
  obtain ⟨F, h1, _, _, h2⟩ := hS.sel is hn
  exact h2 (St.of (Sts.one (h F h1)))
/-- Only these are kept. -/
theorem St.sub (is : List Nat) (hS : St F0 w0 cs w) : St F0 w0 (Kw.sel is cs) w := by
  obtain ⟨F, h, hM⟩ := hS
  obtain ⟨F1, F2, h1, _, _, h4⟩ := h.sel is
  exact ⟨F1, h1, hM.1, fun b hb => hM.2 b ((h4 b).2 (.inl hb))⟩
theorem St.imp (i : Nat) {c : Ch} (c' : Ch) (hS : St F0 w0 cs w) (h : ∀ F, c.holds F w → c'.holds F w) (hi : cs.getD i .emp = c := by rfl) : St F0 w0 (cs.set i c') w :=
  hS.turn i hi fun F h1 => ⟨F, h F h1, Moves.refl F w⟩
/-- What a call on some chunks left, seen from the state ahead. -/
theorem St.base (hS : St F0 w0 cs w) : ∃ F, St F w cs w ∧ ∀ {w' cs'}, St F w cs' w' → St F0 w0 cs' w' := by
  obtain ⟨F, h, hM⟩ := hS
  exact ⟨F, St.of h, fun {w' cs'} ⟨F', k1, k2⟩ => ⟨F', k1, hM.trans k2⟩⟩
end
end Kw
end Go
