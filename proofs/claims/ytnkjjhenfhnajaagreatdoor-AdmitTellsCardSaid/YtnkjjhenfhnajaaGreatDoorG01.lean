/-
  Texts Kw Vec Sl Slo in one.
-/
import Derived.WalkKit
import Derived.Deep.AppendLies
import Derived.Deep.Quiet
/-
  Words on worlds: a block known whole; what a step keeps outside a set of blocks; append and make in these words.
-/
namespace Go
namespace Kw
open Go.RowKit

theorem ret_int {k : IntKind} {a b : Int} (h : a = b) : Ending.returned (.int k a) = .returned (.int k b) := by rw [h]
theorem ret_bool {a b : Bool} (h : a = b) : Ending.returned (.bool a) = .returned (.bool b) := by rw [h]
theorem hid {p : Prop} (h : p) : Hid p := h

/-- Block b is a row of just these cells. -/
def Blk (w : World) (b : Nat) (T : TypeId) (xs : List Value) : Prop := w.heap[b]? = some (.cells xs.toArray T (0, 0))

section
variable {w w' : World} {b : Nat} {T : TypeId} {xs : List Value}

theorem Blk.cell (h : Blk w b T xs) (o : Nat) : w.cell? ⟨b, o, none⟩ = xs[o]? := by
  unfold Blk at h; simp [World.cell?, h]
theorem Blk.at (h : Blk w b T xs) {o : Nat} {v : Value} (hx : xs[o]? = some v) : w.cell? ⟨b, o, none⟩ = some v := by rw [h.cell, hx]
theorem Blk.fz (h : Blk w b T xs) (o : Nat) : w.frozen? ⟨b, o, none⟩ = false := by
  unfold Blk at h; simp [World.frozen?, h]
theorem Blk.lt (h : Blk w b T xs) : b < w.heap.size := by
  unfold Blk at h
  rcases Nat.lt_or_ge b w.heap.size with h' | h'
  · exact h'
  · rw [Array.getElem?_eq_none h'] at h; cases h
theorem Blk.same (h : Blk w b T xs) (hs : w'.heap[b]? = w.heap[b]?) : Blk w' b T xs := hs.trans h
theorem Blk.inj {ys : List Value} {U : TypeId} (h : Blk w b T xs) (h' : Blk w b U ys) : xs = ys := by
  unfold Blk at h h'; rw [h] at h'; simpa using (Obj.cells.inj (Option.some.inj h')).1
theorem Blk.ne {ys : List Value} {U : TypeId} {c : Nat} (h : Blk w b T xs) (h' : Blk w c U ys) (hl : xs.length ≠ ys.length) : b ≠ c := by
  intro e; subst e; exact hl (by rw [h.inj h'])
theorem Blk.neT {ys : List Value} {U : TypeId} {c : Nat} (h : Blk w b T xs) (h' : Blk w c U ys) (hl : T ≠ U) : b ≠ c := by
  intro e; subst e
  unfold Blk at h h'; rw [h] at h'
  exact hl (Obj.cells.inj (Option.some.inj h')).2.1
theorem Blk.drew (h : Blk w b T xs) : Blk w.drew b T xs := h
theorem Blk.drewN (h : Blk w b T xs) (n : Nat) : Blk (w.drewN n) b T xs := h
theorem Blk.alloc (h : Blk w b T xs) (o : Obj) : Blk (w.alloc o) b T xs := (Below.heap_alloc w o b h.lt).trans h
theorem Blk.new (w : World) (T : TypeId) (xs : List Value) : Blk (w.alloc (.cells xs.toArray T)) w.heap.size T xs :=
  heap_alloc_new w _
theorem Blk.set (h : Blk w b T xs) (o : Nat) (v : Value) : Blk (w.setCell ⟨b, o, none⟩ v) b T (xs.set o v) := by
  unfold Blk at *
  simp [World.setCell, Array.getElem?_modify, h]
theorem Blk.far (h : Blk w b T xs) {a : Addr} (hn : a.block ≠ b) (v : Value) : Blk (w.setCell a v) b T xs :=
  (Below.heap_setCell w a v b (fun e => hn e.symm)).trans h
theorem Blk.row (h : Blk w b T xs) (ys : List Value) : Blk (w.setRow b ys.toArray) b T ys := by
  unfold Blk at *
  exact setRow_heap w b xs.toArray ys.toArray T (0, 0) h
end

theorem cells2 {w : World} {p : Nat} {T : TypeId} {a b : Value} (h : Blk w p T [a, b]) : w.cell? ⟨p, 0, none⟩ = some a ∧ w.cell? ⟨p, 1, none⟩ = some b ∧ (∀ o, w.frozen? ⟨p, o, none⟩ = false) := ⟨h.cell 0, h.cell 1, h.fz⟩
theorem cells3 {w : World} {p : Nat} {T : TypeId} {a b c : Value} (h : Blk w p T [a, b, c]) : w.cell? ⟨p, 0, none⟩ = some a ∧ w.cell? ⟨p, 1, none⟩ = some b ∧ w.cell? ⟨p, 2, none⟩ = some c ∧ (∀ o, w.frozen? ⟨p, o, none⟩ = false) := ⟨h.cell 0, h.cell 1, h.cell 2, h.fz⟩
theorem cells4 {w : World} {p : Nat} {T : TypeId} {a b c d : Value} (h : Blk w p T [a, b, c, d]) : w.cell? ⟨p, 0, none⟩ = some a ∧ w.cell? ⟨p, 1, none⟩ = some b ∧ w.cell? ⟨p, 2, none⟩ = some c ∧ w.cell? ⟨p, 3, none⟩ = some d ∧ (∀ o, w.frozen? ⟨p, o, none⟩ = false) := ⟨h.cell 0, h.cell 1, h.cell 2, h.cell 3, h.fz⟩

/-- Outside F nothing that was there has turned. -/
structure Keeps (F : Nat → Prop) (w w' : World) : Prop where
  os : w'.os = w.os
  tape : w'.tape = w.tape
  output : w'.output = w.output
  size : w.heap.size ≤ w'.heap.size
  block : ∀ k, k < w.heap.size → ¬ F k → w'.heap[k]? = w.heap[k]?

section
variable {F G : Nat → Prop} {w w1 w2 : World}

theorem Keeps.refl (F : Nat → Prop) (w : World) : Keeps F w w := ⟨rfl, rfl, rfl, Nat.le_refl _, fun _ _ _ => rfl⟩
theorem Keeps.trans' (h : Keeps F w w1) (k : Keeps G w1 w2) (hG : ∀ b, G b → F b ∨ w.heap.size ≤ b) : Keeps F w w2 :=
  ⟨k.os.trans h.os, k.tape.trans h.tape, k.output.trans h.output, Nat.le_trans h.size k.size, fun i hi hn =>
    (k.block i (Nat.lt_of_lt_of_le hi h.size) (fun g => by rcases hG i g with h1 | h1; exact hn h1; omega)).trans (h.block i hi hn)⟩
theorem Keeps.trans (h : Keeps F w w1) (k : Keeps F w1 w2) : Keeps F w w2 := h.trans' k fun _ h => .inl h
theorem Keeps.mono (h : Keeps F w w1) (hF : ∀ b, F b → G b) : Keeps G w w1 := ⟨h.os, h.tape, h.output, h.size, fun k hk hn => h.block k hk fun hf => hn (hF k hf)⟩
theorem Keeps.drew (h : Keeps F w w1) : Keeps F w w1.drew := ⟨h.os, h.tape, h.output, h.size, h.block⟩
theorem Keeps.drewN (h : Keeps F w w1) (n : Nat) : Keeps F w (w1.drewN n) := ⟨h.os, h.tape, h.output, h.size, h.block⟩
theorem Keeps.alloc (h : Keeps F w w1) (o : Obj) : Keeps F w (w1.alloc o) :=
  h.trans' (G := fun _ => False) ⟨rfl, rfl, rfl, by simp, fun k hk _ => Below.heap_alloc _ _ _ hk⟩ fun _ h => h.elim
theorem Keeps.setCell (h : Keeps F w w1) {a : Addr} (ha : F a.block ∨ w.heap.size ≤ a.block) (v : Value) : Keeps F w (w1.setCell a v) :=
  h.trans' (G := fun b => b = a.block) ⟨rfl, rfl, rfl, by simp, fun k _ hk => Below.heap_setCell _ _ _ _ hk⟩ fun b h => by subst h; exact ha
theorem Keeps.setRow (h : Keeps F w w1) {g : Nat} (ha : F g ∨ w.heap.size ≤ g) (cs : Array Value) : Keeps F w (w1.setRow g cs) :=
  h.trans' (G := fun b => b = g) ⟨rfl, rfl, rfl, by simp, fun k _ hk => setRow_other _ _ _ _ hk⟩ fun b h => by subst h; exact ha
theorem Keeps.grown {row : Option Nat} (h : Keeps F w w1) (hg : w1.grownBy w2 row) (hr : ∀ k, row = some k → F k ∨ w.heap.size ≤ k) : Keeps F w w2 :=
  h.trans' (G := fun b => row = some b) ⟨hg.os, hg.tape, hg.output, hg.size, fun k hk hn => hg.block k hk (fun e => hn e.symm)⟩ fun b hb => hr b hb
theorem Keeps.below (h : Keeps (fun _ => False) w w1) : Below w.heap.size w w1 := ⟨h.os, h.tape, h.output, h.size, fun k hk => h.block k hk id⟩
theorem Keeps.of_below (h : Below w.heap.size w w1) : Keeps F w w1 := ⟨h.os, h.tape, h.output, h.size, fun k hk _ => h.block k hk⟩
theorem Keeps.blk (h : Keeps F w w1) {b : Nat} {T : TypeId} {xs : List Value} (hb : Blk w b T xs) (hn : ¬ F b) : Blk w1 b T xs := (h.block b hb.lt hn).trans hb
end

/-- Outside F nothing has turned, and F' is of F's blocks and of new ones. -/
def Moves (F F' : Nat → Prop) (w w' : World) : Prop := Keeps F w w' ∧ ∀ b, F' b → F b ∨ w.heap.size ≤ b
theorem Moves.trans {F F' F'' : Nat → Prop} {w w1 w2 : World} (h : Moves F F' w w1) (k : Moves F' F'' w1 w2) : Moves F F'' w w2 :=
  ⟨h.1.trans' k.1 h.2, fun b hb => by
    rcases k.2 b hb with h1 | h1
    · exact h.2 b h1
    · exact .inr (Nat.le_trans h.1.size h1)⟩
theorem Moves.refl (F : Nat → Prop) (w : World) : Moves F F w w := ⟨Keeps.refl _ _, fun _ h => .inl h⟩
theorem Moves.keep {F : Nat → Prop} {w w' : World} (h : Keeps F w w') : Moves F F w w' := ⟨h, fun _ h => .inl h⟩
theorem Moves.new {F F' : Nat → Prop} {w w1 w2 : World} (h : Moves F F' w w1) (k : Keeps (fun _ => False) w1 w2) : Moves F F' w w2 :=
  h.trans ⟨k.mono fun _ h => h.elim, fun _ h => .inl h⟩
/-- Two sets of blocks have none in common. -/
def Sep (F G : Nat → Prop) : Prop := ∀ b, F b → ¬ G b
theorem Sep.symm {F G : Nat → Prop} (h : Sep F G) : Sep G F := fun b hb hf => h b hf hb
theorem Moves.sep {F F' G : Nat → Prop} {w w' : World} (h : Moves F F' w w') (hs : Sep F G) (hG : ∀ b, G b → b < w.heap.size) : Sep F' G := fun b hb hg => by
  rcases h.2 b hb with h1 | h1
  · exact hs b h1 hg
  · have := hG b hg; omega

/-- A slice value that owns its row. -/
abbrev Own (w : World) (T : TypeId) (sz : Nat) (v : Value) (n : Nat) (xs : List Value) : Prop := w.ownsRow 0 T sz v n xs

section
variable {w w' : World} {T : TypeId} {sz n : Nat} {v : Value} {xs : List Value}
theorem Own.keeps {F : Nat → Prop} (h : Own w T sz v n xs) (hk : Keeps F w w') (hn : ∀ b, v.ownBlock = some b → ¬ F b) : Own w' T sz v n xs := by
  obtain ⟨h1, h2⟩ := h
  refine ⟨h1, ?_⟩
  rcases h2 with h2 | ⟨g, cap, cur, rfl, hb, hg, hr⟩
  · exact .inl h2
  · have hlt : g < w.heap.size := by
      rcases Nat.lt_or_ge g w.heap.size with h' | h'
      · exact h'
      · rw [Array.getElem?_eq_none h'] at hg; cases hg
    exact .inr ⟨g, cap, cur, rfl, hb, (hk.block g hlt (hn g rfl)).trans hg, hr⟩
theorem Own.far (h : Own w T sz v n xs) {a : Addr} (hn : v.ownBlock ≠ some a.block) (u : Value) : Own (w.setCell a u) T sz v n xs :=
  h.keeps (F := fun b => b = a.block) ((Keeps.refl (fun b => b = a.block) w).setCell (.inl rfl) _) fun b hb e => hn (by rw [hb, e])
theorem Own.alloc (h : Own w T sz v n xs) (o : Obj) : Own (w.alloc o) T sz v n xs := World.ownsRow.alloc h o
theorem Own.drew (h : Own w T sz v n xs) : Own w.drew T sz v n xs := h
theorem Own.drewN (h : Own w T sz v n xs) (k : Nat) : Own (w.drewN k) T sz v n xs := h
theorem Own.lt (h : Own w T sz v n xs) : ∀ b, v.ownBlock = some b → b < w.heap.size := fun b hb => (World.ownsRow.lt h b hb).2
/-- The value behind 'xs[:k]' (capacity kept). -/
def cut (v : Value) (k : Nat) : Value := match v with | .slice a _ c => .slice a k c | v => v
theorem Own.shorter (h : Own w T sz v n xs) (k : Nat) (hk : k ≤ n) : Own w T sz (cut v k) k (xs.take (k * sz)) := by
  obtain ⟨h1, h2⟩ := h
  have hle : k * sz ≤ n * sz := Nat.mul_le_mul_right _ hk
  refine ⟨by rw [List.length_take, h1]; omega, ?_⟩
  rcases h2 with ⟨rfl, rfl⟩ | ⟨g, cap, cur, rfl, hb, hg, hn, hm, hs, ht⟩
  · obtain rfl : k = 0 := by omega
    exact .inl ⟨rfl, rfl⟩
  · refine .inr ⟨g, cap, cur, rfl, hb, hg, by omega, hm, hs, ?_⟩
    rw [← ht, List.take_take]; congr 1; omega
theorem Own.cells' (h : Own w T sz v n xs) {g : Nat} (hg : v.ownBlock = some g) {j : Nat} {u : Value} (hu : xs[j]? = some u) : w.cell? ⟨g, j, none⟩ = some u := by
  have := World.ownsRow.cells h hg j u hu
  have hadd : (⟨g, 0, none⟩ : Addr).add j = ⟨g, j, none⟩ := by unfold Addr.add; split <;> simp_all
  rwa [hadd] at this
theorem Own.fz (h : Own w T sz v n xs) {g : Nat} (hg : v.ownBlock = some g) (j : Nat) : w.frozen? ⟨g, j, none⟩ = false := by
  rcases h.2 with ⟨rfl, _⟩ | ⟨g', cap, cur, rfl, hb, hh, _⟩
  · cases hg
  · obtain rfl : g' = g := by simpa [Value.ownBlock] using hg
    simp [World.frozen?, hh]
theorem Own.form (h : Own w T sz v n xs) (hn : 0 < n) : ∃ g cap, v = .slice (some ⟨g, 0, none⟩) n cap ∧ g < w.heap.size := by
  obtain ⟨g, cap, h1, _, h2⟩ := World.ownsRow.form h hn
  exact ⟨g, cap, h1, h2⟩
theorem Own.neT (h : Own w T sz v n xs) {b : Nat} {U : TypeId} {ys : List Value} (hb : Blk w b U ys) (hne : T ≠ U) : v.ownBlock ≠ some b := by
  rcases h.2 with ⟨rfl, _⟩ | ⟨g', cap, cur, rfl, _, hh, _⟩
  · intro e; cases e
  · intro e
    obtain rfl : g' = b := by simpa [Value.ownBlock] using e
    unfold Blk at hb; rw [hb] at hh
    exact hne (Obj.cells.inj (Option.some.inj hh)).2.1.symm
/-- What the value looks like, nil or not. -/
theorem Own.shape (h : Own w T sz v n xs) : ∃ a c, v = .slice a n c ∧ n ≤ c := by
  rcases h.2 with ⟨rfl, rfl⟩ | ⟨g, cap, cur, rfl, hb, hh, hn, _⟩
  · exact ⟨none, 0, rfl, Nat.le_refl _⟩
  · exact ⟨_, cap, rfl, hn⟩
end

theorem add_at (b o n : Nat) : (⟨b, o, none⟩ : Addr).add n = ⟨b, o + n, none⟩ := by
  unfold Addr.add; split
  · rename_i h; subst h; rfl
  · rfl

section
variable {w : World} {T : TypeId} {n : Nat} {v : Value} {xs : List Value}
/-- An element of a row of one-cell elements is written. -/
theorem Own.setIn (h : Own w T 1 v n xs) {g : Nat} (hg : v.ownBlock = some g) (j : Nat) (u : Value) : Own (w.setCell ⟨g, j, none⟩ u) T 1 v n (xs.set j u) := by
  obtain ⟨h1, h2⟩ := h
  refine ⟨by simp [h1], ?_⟩
  rcases h2 with ⟨rfl, _⟩ | ⟨g', cap, cur, rfl, hb, hh, hn, hm, hs, ht⟩
  · cases hg
  · obtain rfl : g' = g := by simpa [Value.ownBlock] using hg
    refine .inr ⟨g', cap, cur.setIfInBounds j u, rfl, hb, ?_, hn, hm, by simp [hs], ?_⟩
    · have hB : Blk w g' T cur.toList := by unfold Blk; simpa using hh
      have := hB.set j u
      unfold Blk at this
      rw [this]; simp [← List.setIfInBounds_toArray]
    · rw [← ht]; simp [List.take_set]
end

section
variable {P : Program} {w : World}
end

section
variable {P : Program} {w : World}
end

section
variable {P : Program}
/-- 'append(s, x..)' of at least one element onto a slice that owns its row. -/
theorem wpList_app {w : World} {ops : Array Oper} {rest : List Oper} {o : Oper} {a : Act} {Q : Exit → Act → World → Prop} (s x : Operand) (t : TypeId) (e : TypeId) (z : Value) (size bytes : Nat)
    (hinfo : (P.info? e).map (fun i => (i.zero, i.size, i.bytes)) = some (some z, size, bytes)) (ht : P.underlying t = some (.slice e))
    (hzs : z.cells.size = size) (hsz : 0 < size)
    (hgd : o.guard = none) (ho : o.op = .call { callee := .builtin .append, args := #[s, x], argTypes := #[t, t] })
    (v : Value) (n : Nat) (xs : List Value) (hs : a.eval s = v) (hown : Own w e size v n xs)
    (B m c : Nat) (news : List Value) (hx : a.eval x = .slice (some ⟨B, 0, none⟩) m c) (hl : news.length = m * size) (hnews : Blk w B e news) (h1 : ∀ u ∈ news, u.oneCell' = true)
    (hm : 0 < m) (h63 : n + m ≤ maxLen) (hbytes : (n + m) * bytes ≤ 140737488355328)
    (h : ∀ g cap w', Own w' e size (.slice (some ⟨g, 0, none⟩) (n + m) cap) (n + m) (xs ++ news) → w.grownBy w' v.ownBlock → (v.ownBlock = some g ∨ g = w.heap.size) → g < w'.heap.size → wpList P ops Q rest (a.put o.dst (.slice (some ⟨g, 0, none⟩) (n + m) cap)) w') : wpList P ops Q (o :: rest) a w := by
  obtain ⟨i0, hi, hz0, hz1, hz2⟩ := info_parts hinfo
  exact wpList_append_lies w hgd s x t ho 0 e i0 z size bytes ht hi hz0 hz1 hz2 hzs hsz v n xs hs hown ⟨B, 0, none⟩ m c news hx hl
    (World.news_of_block hnews) h1 hm h63 hbytes (Nat.zero_le _) _ rfl h

/-- A list in new memory, full to its capacity. -/
def Fresh (w w' : World) (T : TypeId) (v : Value) (n : Nat) (xs : List Value) : Prop := ∃ g, v = .slice (some ⟨g, 0, none⟩) n n ∧ w.heap.size ≤ g ∧ Blk w' g T xs ∧ Keeps (fun _ => False) w w'

theorem Own.full {w : World} {T : TypeId} {sz g n : Nat} {xs : List Value} (h : Own w T sz (.slice (some ⟨g, 0, none⟩) n n) n xs) : Blk w g T xs := by
  rcases h.2 with ⟨e, _⟩ | ⟨g', cap, cur, e, _, hh, _, _, hs, ht⟩
  · cases e
  · simp only [Value.slice.injEq, Option.some.injEq, Addr.mk.injEq] at e
    obtain ⟨⟨rfl, _⟩, _, rfl⟩ := e
    unfold Blk
    rw [← ht, List.take_of_length_le (by simp; omega)]
    simpa using hh

theorem wpList_mk {w : World} {ops : Array Oper} {rest : List Oper} {o : Oper} {a : Act} {Q : Exit → Act → World → Prop} (l c : Operand) (t e : TypeId) (z : Value) (size bytes : Nat)
    (hinfo : (P.info? e).map (fun i => (i.zero, i.size, i.bytes)) = some (some z, size, bytes)) (ht : P.underlying t = some (.slice e))
    (hg : o.guard = none) (hop : o.op = Op.makeSlice t l c)
    (kl kc : IntKind) (C : Int) (n : Nat) (hl : a.eval l = .int kl 0) (hc : a.eval c = .int kc C) (hC : C = (n : Int)) (b2 : bytes * n ≤ 281474976710656) (b3 : n ≤ maxLen)
    (hK : ∀ w', Own w' e size (.slice (some ⟨w.heap.size, 0, none⟩) 0 n) 0 [] → Keeps (fun _ => False) w w' → wpList P ops Q rest (a.put o.dst (.slice (some ⟨w.heap.size, 0, none⟩) 0 n)) w') :
    wpList P ops Q (o :: rest) a w := by
  obtain ⟨i0, hi, hz0, hz1, hz2⟩ := info_parts hinfo
  subst hz2
  exact wpList_make_own w hg l c t hop 0 e i0 z size ht hi hz0 hz1 kl kc C n hl hc hC b2 b3 (Nat.zero_le _) fun w' h1 h2 => hK w' h1 ((Keeps.refl _ _).grown h2 (fun k hk => by cases hk))

/-- 'append(make([]T, 0, n), x..)' at its append: all of x, x a slice of n elements. -/
theorem wpList_app_copy {w : World} {ops : Array Oper} {rest : List Oper} {o : Oper} {a : Act} {Q : Exit → Act → World → Prop} (s x : Operand) (t e : TypeId) (z : Value) (size bytes : Nat)
    (hinfo : (P.info? e).map (fun i => (i.zero, i.size, i.bytes)) = some (some z, size, bytes)) (ht : P.underlying t = some (.slice e))
    (hgd : o.guard = none) (ho : o.op = .call { callee := .builtin .append, args := #[s, x], argTypes := #[t, t] })
    (g n : Nat) (hs : a.eval s = .slice (some ⟨g, 0, none⟩) 0 n) (hown : Own w e size (.slice (some ⟨g, 0, none⟩) 0 n) 0 [])
    (ao : Option Addr) (c : Nat) (news : List Value) (hx : a.eval x = .slice ao n c) (hl : news.length = n * size) (hnone : ao = none → n = 0 ∧ c = 0)
    (hc : ∀ ad, ao = some ad → ∀ j u, news[j]? = some u → w.cell? (ad.add j) = some u) (h1 : ∀ u ∈ news, u.oneCell' = true)
    (hK : ∀ w', Blk w' g e news → Keeps (fun b => b = g) w w' → wpList P ops Q rest (a.put o.dst (.slice (some ⟨g, 0, none⟩) n n)) w') :
    wpList P ops Q (o :: rest) a w := by
  obtain ⟨i0, hi, hz0, hz1, hz2⟩ := info_parts hinfo
  refine wpList_append_fits_any w hgd s x t ho 0 e i0 size ht hi hz1 g 0 n [] hs hown ao n c news hx hl hnone hc h1 (by omega) fun w' h2 h3 => ?_
  simp only [Nat.zero_add, List.nil_append] at h2 ⊢
  exact hK w' (Own.full h2) ((Keeps.refl _ _).grown h3 (fun k hk => by cases hk; exact .inl rfl))

theorem wpList_mkfull {w : World} {ops : Array Oper} {rest : List Oper} {o : Oper} {a : Act} {Q : Exit → Act → World → Prop} (l c : Operand) (t e : TypeId) (z : Value) (bytes : Nat)
    (hinfo : (P.info? e).map (fun i => (i.zero, i.size, i.bytes)) = some (some z, 1, bytes)) (ht : P.underlying t = some (.slice e)) (hzc : z.cells = #[z])
    (hg : o.guard = none) (hop : o.op = Op.makeSlice t l c)
    (kl kc : IntKind) (L C : Int) (n : Nat) (hl : a.eval l = .int kl L) (hc : a.eval c = .int kc C) (hL : L = (n : Int)) (hC : C = (n : Int)) (b2 : bytes * n ≤ 281474976710656) (b3 : n ≤ maxLen)
    (hK : ∀ w', Blk w' w.heap.size e (List.replicate n z) → Keeps (fun _ => False) w w' → w'.heap.size = w.heap.size + 1 → wpList P ops Q rest (a.put o.dst (.slice (some ⟨w.heap.size, 0, none⟩) n n)) w') :
    wpList P ops Q (o :: rest) a w := by
  obtain ⟨i0, hi, hz0, hz1, hz2⟩ := info_parts hinfo
  subst hz2
  refine wpList_plain hg fun K hK' => ?_
  have h63 : (n : Int) ≤ 9223372036854775807 := by unfold maxLen at b3; omega
  have hb' : (i0.bytes : Int) * (n : Int) ≤ 281474976710656 := by
    have h : ((i0.bytes * n : Nat) : Int) ≤ 281474976710656 := by omega
    rwa [Int.natCast_mul] at h
  have hr := run_make (P := P) w t e i0 z ht hi hz0 kl kc n n (by omega) (by omega) hb' h63
  simp only [Int.toNat_natCast, hz1, Nat.mul_one] at hr
  subst hL
  subst hC
  have hm : madeCells z.cells n = (List.replicate n z).toArray := by
    apply Array.ext_getElem?
    intro k
    simp [madeCells, hzc]
    by_cases hk : k < n
    · simp [hk, Nat.mod_one]
    · simp [hk]
  rw [hm] at hr
  unfold Oper.wp
  simp [execOp, hop, hl, hc, hr, Result.andThen]
  exact hK' _ _ (hK _ (Blk.new _ _ _) ((Keeps.refl _ _).alloc _) (by simp))
end
end Kw
end Go

/-
  A slice that owns its row, or that is cut to its length: it reads, is written, and grows.
-/
namespace Go
namespace Kw
open Go.RowKit

/-- The value reads xs; what lies behind its length is either its own or out of its reach. -/
def Vec (w : World) (T : TypeId) (sz : Nat) (v : Value) (n : Nat) (xs : List Value) : Prop :=
  xs.length = n * sz ∧ ((v = .slice none 0 0 ∧ n = 0) ∨ ∃ g cap cur, v = .slice (some ⟨g, 0, none⟩) n cap ∧ w.heap[g]? = some (.cells cur T (0, 0)) ∧ n ≤ cap ∧ cap ≤ maxLen ∧ (cur.size = cap * sz ∨ (cap = n ∧ n * sz ≤ cur.size)) ∧ cur.toList.take (n * sz) = xs)

section
variable {w w' : World} {T : TypeId} {sz n : Nat} {v : Value} {xs : List Value}
theorem Vec.of_own (h : Own w T sz v n xs) : Vec w T sz v n xs := by
  obtain ⟨h1, h2⟩ := h
  refine ⟨h1, ?_⟩
  rcases h2 with h2 | ⟨g, cap, cur, hv, _, hh, hn, hm, hs, ht⟩
  · exact .inl h2
  · exact .inr ⟨g, cap, cur, hv, hh, hn, hm, .inl hs, ht⟩
theorem Vec.keeps {F : Nat → Prop} (h : Vec w T sz v n xs) (hk : Keeps F w w') (hn : ∀ b, v.ownBlock = some b → ¬ F b) : Vec w' T sz v n xs := by
  obtain ⟨h1, h2⟩ := h
  refine ⟨h1, ?_⟩
  rcases h2 with h2 | ⟨g, cap, cur, rfl, hg, hr⟩
  · exact .inl h2
  · have hlt : g < w.heap.size := by
      rcases Nat.lt_or_ge g w.heap.size with h' | h'
      · exact h'
      · rw [Array.getElem?_eq_none h'] at hg; cases hg
    exact .inr ⟨g, cap, cur, rfl, (hk.block g hlt (hn g rfl)).trans hg, hr⟩
theorem Vec.far (h : Vec w T sz v n xs) {a : Addr} (hn : v.ownBlock ≠ some a.block) (u : Value) : Vec (w.setCell a u) T sz v n xs :=
  h.keeps (F := fun b => b = a.block) ((Keeps.refl (fun b => b = a.block) w).setCell (.inl rfl) _) fun b hb e => hn (by rw [hb, e])
theorem Vec.alloc (h : Vec w T sz v n xs) (o : Obj) : Vec (w.alloc o) T sz v n xs := h.keeps ((Keeps.refl (fun _ => False) w).alloc o) fun _ _ => id
theorem Vec.drew (h : Vec w T sz v n xs) : Vec w.drew T sz v n xs := h
theorem Vec.drewN (h : Vec w T sz v n xs) (k : Nat) : Vec (w.drewN k) T sz v n xs := h
theorem Vec.lt (h : Vec w T sz v n xs) : ∀ b, v.ownBlock = some b → b < w.heap.size := fun b hb => by
  rcases h.2 with ⟨rfl, _⟩ | ⟨g, cap, cur, rfl, hg, _⟩
  · cases hb
  · obtain rfl : g = b := by simpa [Value.ownBlock] using hb
    exact (Array.getElem?_eq_some_iff.1 hg).1
theorem Vec.neT (h : Vec w T sz v n xs) {b : Nat} {U : TypeId} {ys : List Value} (hb : Blk w b U ys) (hne : T ≠ U) : v.ownBlock ≠ some b := by
  rcases h.2 with ⟨rfl, _⟩ | ⟨g', cap, cur, rfl, hh, _⟩
  · intro e; cases e
  · intro e
    obtain rfl : g' = b := by simpa [Value.ownBlock] using e
    unfold Blk at hb; rw [hb] at hh
    exact hne (Obj.cells.inj (Option.some.inj hh)).2.1.symm
theorem Vec.cells' (h : Vec w T sz v n xs) {g : Nat} (hg : v.ownBlock = some g) {j : Nat} {u : Value} (hu : xs[j]? = some u) : w.cell? ⟨g, j, none⟩ = some u := by
  rcases h.2 with ⟨rfl, _⟩ | ⟨g', cap, cur, rfl, hh, _, _, _, ht⟩
  · cases hg
  · obtain rfl : g' = g := by simpa [Value.ownBlock] using hg
    rw [← ht, List.getElem?_take] at hu
    split at hu
    · simp only [World.cell?, hh]; simpa using hu
    · cases hu
theorem Vec.fz (h : Vec w T sz v n xs) {g : Nat} (hg : v.ownBlock = some g) (j : Nat) : w.frozen? ⟨g, j, none⟩ = false := by
  rcases h.2 with ⟨rfl, _⟩ | ⟨g', cap, cur, rfl, hh, _⟩
  · cases hg
  · obtain rfl : g' = g := by simpa [Value.ownBlock] using hg
    simp [World.frozen?, hh]
theorem Vec.form (h : Vec w T sz v n xs) (hn : 0 < n) : ∃ g cap, v = .slice (some ⟨g, 0, none⟩) n cap ∧ g < w.heap.size ∧ n ≤ cap := by
  rcases h.2 with ⟨_, rfl⟩ | ⟨g, cap, cur, hv, hg, hc, _⟩
  · omega
  · exact ⟨g, cap, hv, (Array.getElem?_eq_some_iff.1 hg).1, hc⟩
theorem Vec.shape (h : Vec w T sz v n xs) : ∃ a c, v = .slice a n c ∧ n ≤ c := by
  rcases h.2 with ⟨rfl, rfl⟩ | ⟨g, cap, cur, rfl, hh, hn, _⟩
  · exact ⟨none, 0, rfl, Nat.le_refl _⟩
  · exact ⟨_, cap, rfl, hn⟩
/-- The value behind 'xs[:k:k]'. -/
theorem Vec.cut3 {g cap : Nat} (h : Vec w T sz (.slice (some ⟨g, 0, none⟩) n cap) n xs) (k : Nat) (hk : k ≤ n) : Vec w T sz (.slice (some ⟨g, 0, none⟩) k k) k (xs.take (k * sz)) := by
  obtain ⟨h1, h2⟩ := h
  have hle : k * sz ≤ n * sz := Nat.mul_le_mul_right _ hk
  refine ⟨by rw [List.length_take, h1]; omega, ?_⟩
  rcases h2 with ⟨e, _⟩ | ⟨g', cap', cur, e, hg, hn, hm, hs, ht⟩
  · cases e
  · cases e
    refine .inr ⟨g, k, cur, rfl, hg, Nat.le_refl _, by omega, .inr ⟨rfl, ?_⟩, ?_⟩
    · rcases hs with hs | ⟨_, hs⟩
      · have := Nat.mul_le_mul_right sz hn; omega
      · omega
    · rw [← ht, List.take_take]; congr 1; omega
theorem Vec.setIn (h : Vec w T 1 v n xs) {g : Nat} (hg : v.ownBlock = some g) (j : Nat) (u : Value) : Vec (w.setCell ⟨g, j, none⟩ u) T 1 v n (xs.set j u) := by
  obtain ⟨h1, h2⟩ := h
  refine ⟨by simp [h1], ?_⟩
  rcases h2 with ⟨rfl, _⟩ | ⟨g', cap, cur, rfl, hh, hn, hm, hs, ht⟩
  · cases hg
  · obtain rfl : g' = g := by simpa [Value.ownBlock] using hg
    refine .inr ⟨g', cap, cur.setIfInBounds j u, rfl, ?_, hn, hm, by simpa using hs, ?_⟩
    · have hB : Blk w g' T cur.toList := by unfold Blk; simpa using hh
      have := hB.set j u
      unfold Blk at this
      rw [this]; simp [← List.setIfInBounds_toArray]
    · rw [← ht]; simp [List.take_set]
end

theorem zeros_size (z : Array Value) (n : Nat) : (Builtin.zeroCells z n).size = n * z.size := by simp [Builtin.zeroCells]

section
variable {P : Program}
end
end Kw
end Go

/-
  Chunks: parts of memory with their footprints; states that are lists of chunks, each apart from all others.
-/
namespace Go
namespace Kw

/-- A part of memory: it stands on the blocks of its footprint and on no others. -/
structure Ch where
  holds : (Nat → Prop) → World → Prop
  lt : ∀ F w, holds F w → ∀ b, F b → b < w.heap.size
  keep : ∀ F G w w', holds F w → Keeps G w w' → (∀ b, F b → ¬ G b) → holds F w'

namespace Ch
def emp : Ch := ⟨fun F _ => ∀ b, ¬ F b, fun _ _ h b hb => (h b hb).elim, fun _ _ _ _ h _ _ => h⟩
/-- A fact of no place. -/
def pr (φ : Prop) : Ch := ⟨fun F _ => φ ∧ ∀ b, ¬ F b, fun _ _ h b hb => (h.2 b hb).elim, fun _ _ _ _ h _ _ => h⟩
/-- A block, known whole. -/
def pt (p : Nat) (T : TypeId) (xs : List Value) : Ch :=
  ⟨fun F w => Blk w p T xs ∧ ∀ b, F b ↔ b = p, fun _ _ h b hb => by rw [(h.2 b).1 hb]; exact h.1.lt, fun _ _ _ _ h hk hn => ⟨hk.blk h.1 (hn p ((h.2 p).2 rfl)), h.2⟩⟩
/-- A slice that owns its row. -/
def row (T : TypeId) (sz : Nat) (v : Value) (n : Nat) (xs : List Value) : Ch :=
  ⟨fun F w => Own w T sz v n xs ∧ ∀ b, F b ↔ v.ownBlock = some b, fun _ _ h b hb => h.1.lt b ((h.2 b).1 hb), fun _ _ _ _ h hk hn => ⟨h.1.keeps hk fun b hb => hn b ((h.2 b).2 hb), h.2⟩⟩
/-- A slice that reads, owns its row or ends with its length. -/
def vec (T : TypeId) (sz : Nat) (v : Value) (n : Nat) (xs : List Value) : Ch :=
  ⟨fun F w => Vec w T sz v n xs ∧ ∀ b, F b ↔ v.ownBlock = some b, fun _ _ h b hb => h.1.lt b ((h.2 b).1 hb), fun _ _ _ _ h hk hn => ⟨h.1.keeps hk fun b hb => hn b ((h.2 b).2 hb), h.2⟩⟩
def ex {α : Type} (c : α → Ch) : Ch :=
  ⟨fun F w => ∃ x, (c x).holds F w, fun F w ⟨x, h⟩ => (c x).lt F w h, fun F G w w' ⟨x, h⟩ hk hn => ⟨x, (c x).keep F G w w' h hk hn⟩⟩
end Ch

def Sts : List Ch → (Nat → Prop) → World → Prop
  | [], F, _ => ∀ b, ¬ F b
  | c :: cs, F, w => ∃ F1 F2, c.holds F1 w ∧ Sts cs F2 w ∧ Sep F1 F2 ∧ ∀ b, F b ↔ F1 b ∨ F2 b

theorem Sts.lt : ∀ {cs : List Ch} {F : Nat → Prop} {w : World}, Sts cs F w → ∀ b, F b → b < w.heap.size
  | [], _, _, h, b, hb => (h b hb).elim
  | c :: _, _, w, ⟨F1, _, h1, h2, _, h4⟩, b, hb => ((h4 b).1 hb).elim (fun h => c.lt F1 w h1 b h) (fun h => Sts.lt h2 b h)
theorem Sts.keep : ∀ {cs : List Ch} {F G : Nat → Prop} {w w' : World}, Sts cs F w → Keeps G w w' → (∀ b, F b → ¬ G b) → Sts cs F w'
  | [], _, _, _, _, h, _, _ => h
  | c :: _, _, G, w, w', ⟨F1, F2, h1, h2, h3, h4⟩, hk, hn =>
    ⟨F1, F2, c.keep F1 G w w' h1 hk fun b hb => hn b ((h4 b).2 (.inl hb)), h2.keep hk fun b hb => hn b ((h4 b).2 (.inr hb)), h3, h4⟩
def Ch.stars (cs : List Ch) : Ch := ⟨Sts cs, fun _ _ h => h.lt, fun _ _ _ _ h hk hn => h.keep hk hn⟩

theorem Sts.nil (w : World) : Sts [] (fun _ => False) w := fun _ => id
theorem Sts.one {c : Ch} {F : Nat → Prop} {w : World} (h : c.holds F w) : Sts [c] F w := ⟨F, fun _ => False, h, Sts.nil w, fun _ _ => id, fun _ => ⟨.inl, fun h => h.elim id False.elim⟩⟩
/-- Chunks of no place. -/
theorem Sts.void {w : World} : ∀ {cs : List Ch}, (∀ c ∈ cs, c.holds (fun _ => False) w) → Sts cs (fun _ => False) w
  | [], _ => fun _ => id
  | c :: cs, h => ⟨fun _ => False, fun _ => False, h c (by simp), Sts.void fun c hc => h c (by simp [hc]), fun _ h => h.elim, fun _ => ⟨False.elim, fun h => h.elim id id⟩⟩
theorem Sts.more {w : World} {c : Ch} {cs : List Ch} {F : Nat → Prop} (h : c.holds F w) (hv : ∀ c ∈ cs, c.holds (fun _ => False) w) : Sts (c :: cs) F w :=
  ⟨F, fun _ => False, h, Sts.void hv, fun _ _ => id, fun _ => ⟨.inl, fun h => h.elim id False.elim⟩⟩
theorem Sts.of_one {c : Ch} {F : Nat → Prop} {w : World} (h : Sts [c] F w) : c.holds F w := by
  obtain ⟨F1, F2, h1, h2, h3, h4⟩ := h
  have : F = F1 := funext fun b => propext ⟨fun hb => ((h4 b).1 hb).elim id fun h => (h2 b h).elim, fun hb => (h4 b).2 (.inl hb)⟩
  rw [this]; exact h1

theorem Sts.get : ∀ (i : Nat) {cs : List Ch} {F : Nat → Prop} {w : World}, Sts cs F w →
    ∃ F1 F2, (cs.getD i .emp).holds F1 w ∧ Sts (cs.set i .emp) F2 w ∧ Sep F1 F2 ∧ ∀ b, F b ↔ F1 b ∨ F2 b
  | i, [], F, w, h => ⟨fun _ => False, F, by simp [Ch.emp], by simpa using h, fun _ h => h.elim, fun _ => ⟨.inr, fun h => h.elim False.elim id⟩⟩
  | 0, c :: cs, F, w, ⟨F1, F2, h1, h2, h3, h4⟩ =>
    ⟨F1, F2, h1, ⟨fun _ => False, F2, fun _ => id, h2, fun _ h => h.elim, fun _ => ⟨.inr, fun h => h.elim False.elim id⟩⟩, h3, h4⟩
  | i + 1, c :: cs, F, w, ⟨F1, F2, h1, h2, h3, h4⟩ => by
    obtain ⟨G1, G2, k1, k2, k3, k4⟩ := Sts.get i h2
    refine ⟨G1, fun b => F1 b ∨ G2 b, by simpa using k1, ⟨F1, G2, h1, k2, fun b hb hg => h3 b hb ((k4 b).2 (.inr hg)), fun _ => Iff.rfl⟩, fun b hb hg => ?_, fun b => ?_⟩
    · rcases hg with hg | hg
      · exact h3 b hg ((k4 b).2 (.inl hb))
      · exact k3 b hb hg
    · rw [h4 b, k4 b]
      constructor
      · rintro (h | h | h)
        · exact .inr (.inl h)
        · exact .inl h
        · exact .inr (.inr h)
      · rintro (h | h | h)
        · exact .inr (.inl h)
        · exact .inl h
        · exact .inr (.inr h)

theorem Sts.put : ∀ (i : Nat) {cs : List Ch} {F1 F2 : Nat → Prop} {w : World} {c : Ch}, Sts cs F2 w → cs.getD i .emp = .emp → c.holds F1 w → Sep F1 F2 →
    ∃ F, Sts (cs.set i c) F w ∧ ∀ b, F b → F1 b ∨ F2 b
  | i, [], F1, F2, w, c, h, _, _, _ => ⟨F2, by simpa using h, fun _ => .inr⟩
  | 0, c0 :: cs, F1, F2, w, c, ⟨G1, G2, h1, h2, h3, h4⟩, he, hc, hs => by
    simp only [List.getD_cons_zero] at he
    subst he
    exact ⟨fun b => F1 b ∨ G2 b, ⟨F1, G2, hc, h2, fun b hb hg => hs b hb ((h4 b).2 (.inr hg)), fun _ => Iff.rfl⟩, fun b hb => hb.imp id fun h => (h4 b).2 (.inr h)⟩
  | i + 1, c0 :: cs, F1, F2, w, c, ⟨G1, G2, h1, h2, h3, h4⟩, he, hc, hs => by
    simp only [List.getD_cons_succ] at he
    obtain ⟨F, k1, k2⟩ := Sts.put i h2 he hc fun b hb hg => hs b hb ((h4 b).2 (.inr hg))
    refine ⟨fun b => G1 b ∨ F b, ⟨G1, F, h1, k1, fun b hb hf => ?_, fun _ => Iff.rfl⟩, fun b hb => ?_⟩
    · rcases k2 b hf with h | h
      · exact hs b h ((h4 b).2 (.inl hb))
      · exact h3 b hb h
    · rcases hb with hb | hb
      · exact .inr ((h4 b).2 (.inl hb))
      · exact (k2 b hb).imp id fun h => (h4 b).2 (.inr h)

theorem Sts.app : ∀ {cs ds : List Ch} {F1 F2 : Nat → Prop} {w : World}, Sts cs F1 w → Sts ds F2 w → Sep F1 F2 → Sts (cs ++ ds) (fun b => F1 b ∨ F2 b) w
  | [], ds, F1, F2, w, h1, h2, _ => by
    have : (fun b => F1 b ∨ F2 b) = F2 := funext fun b => propext ⟨fun h => h.elim (fun h => (h1 b h).elim) id, .inr⟩
    rw [this]; exact h2
  | c :: cs, ds, F1, F2, w, ⟨G1, G2, h1, h2, h3, h4⟩, hd, hs =>
    ⟨G1, fun b => G2 b ∨ F2 b, h1, Sts.app h2 hd fun b hb hf => hs b ((h4 b).2 (.inr hb)) hf, fun b hb hf => hf.elim (h3 b hb) (hs b ((h4 b).2 (.inl hb))), fun b => by show (F1 b ∨ F2 b) ↔ (G1 b ∨ (G2 b ∨ F2 b)); rw [h4 b, or_assoc]⟩

def sel : List Nat → List Ch → List Ch
  | [], _ => []
  | i :: is, cs => cs.getD i .emp :: sel is (cs.set i .emp)
def blank : List Nat → List Ch → List Ch
  | [], cs => cs
  | i :: is, cs => blank is (cs.set i .emp)
def putL : List Nat → List Ch → List Ch → List Ch
  | _, cs, [] => cs
  | [], cs, c :: post => cs ++ c :: post
  | i :: is, cs, c :: post => putL is (cs.set i c) post

theorem Sts.sel : ∀ (is : List Nat) {cs : List Ch} {F : Nat → Prop} {w : World}, Sts cs F w →
    ∃ F1 F2, Sts (sel is cs) F1 w ∧ Sts (blank is cs) F2 w ∧ Sep F1 F2 ∧ ∀ b, F b ↔ F1 b ∨ F2 b
  | [], cs, F, w, h => ⟨fun _ => False, F, Sts.nil w, h, fun _ h => h.elim, fun _ => ⟨.inr, fun h => h.elim False.elim id⟩⟩
  | i :: is, cs, F, w, h => by
    obtain ⟨G1, G2, k1, k2, k3, k4⟩ := Sts.get i h
    obtain ⟨H1, H2, l1, l2, l3, l4⟩ := Sts.sel is k2
    refine ⟨fun b => G1 b ∨ H1 b, H2, ⟨G1, H1, k1, l1, fun b hb hh => k3 b hb ((l4 b).2 (.inl hh)), fun _ => Iff.rfl⟩, l2, fun b hb hh => ?_, fun b => by rw [k4 b, l4 b, or_assoc]⟩
    rcases hb with hb | hb
    · exact k3 b hb ((l4 b).2 (.inr hh))
    · exact l3 b hb hh

theorem set_getD_ne {cs : List Ch} {i j : Nat} (c : Ch) (h : i ≠ j) : (cs.set i c).getD j .emp = cs.getD j .emp := by
  simp [List.getD_eq_getElem?_getD, List.getElem?_set_ne h]
theorem set_emp_getD {cs : List Ch} {i : Nat} : (cs.set i .emp).getD i .emp = .emp := by
  simp only [List.getD_eq_getElem?_getD, List.getElem?_set]
  split
  · split <;> rfl
  · simp at *
theorem blank_emp : ∀ (is : List Nat) (cs : List Ch) (i : Nat), (i ∈ is ∨ cs.getD i .emp = .emp) → (blank is cs).getD i .emp = .emp
  | [], cs, i, h => by simpa [blank] using h
  | j :: is, cs, i, h => by
    unfold blank
    refine blank_emp is _ i ?_
    by_cases hij : j = i
    · subst hij; exact .inr set_emp_getD
    · rcases h with h | h
      · rcases List.mem_cons.1 h with h | h
        · exact absurd h.symm hij
        · exact .inl h
      · exact .inr (by rw [set_getD_ne _ hij]; exact h)

theorem Sts.putL : ∀ (is : List Nat) {cs post : List Ch} {F1 F2 : Nat → Prop} {w : World}, is.Nodup → (∀ i ∈ is, cs.getD i .emp = .emp) → Sts post F1 w → Sts cs F2 w → Sep F1 F2 →
    ∃ F, Sts (putL is cs post) F w ∧ ∀ b, F b → F1 b ∨ F2 b
  | is, cs, [], F1, F2, w, _, _, _, h, _ => ⟨F2, by cases is <;> exact h, fun _ => .inr⟩
  | [], cs, c :: post, F1, F2, w, _, _, hp, h, hs => by
    refine ⟨_, Sts.app h hp hs.symm, fun b hb => hb.symm⟩
  | i :: is, cs, c :: post, F1, F2, w, hn, he, ⟨G1, G2, h1, h2, h3, h4⟩, h, hs => by
    obtain ⟨F, k1, k2⟩ := Sts.put i h (he i (by simp)) h1 fun b hb hf => hs b ((h4 b).2 (.inl hb)) hf
    obtain ⟨hni, hn⟩ := List.nodup_cons.1 hn
    obtain ⟨F', l1, l2⟩ := Sts.putL is (cs := cs.set i c) (post := post) hn (fun j hj => by rw [set_getD_ne _ (fun e => hni (by rw [e]; exact hj))]; exact he j (by simp [hj])) h2 k1 fun b hb hf => by
      rcases k2 b hf with h | h
      · exact h3 b h hb
      · exact hs b ((h4 b).2 (.inr hb)) h
    refine ⟨F', l1, fun b hb => ?_⟩
    rcases l2 b hb with h | h
    · exact .inl ((h4 b).2 (.inr h))
    · exact (k2 b h).imp (fun h => (h4 b).2 (.inl h)) id

/-- What brings the list of a state into its form. -/
theorem red : (∀ (a b : Ch) l, (a :: l).set 0 b = b :: l) ∧ (∀ (a b : Ch) l n, (a :: l).set (n + 1) b = a :: l.set n b) ∧ (∀ (a d : Ch) l, (a :: l).getD 0 d = a) ∧ (∀ (a d : Ch) l n, (a :: l).getD (n + 1) d = l.getD n d) ∧
    (∀ (a : Ch) l k, a :: l ++ k = a :: (l ++ k)) ∧ (∀ k : List Ch, [] ++ k = k) ∧ (∀ k : List Ch, k ++ [] = k) ∧
    (∀ cs, Kw.sel [] cs = []) ∧ (∀ i is cs, Kw.sel (i :: is) cs = cs.getD i .emp :: Kw.sel is (cs.set i .emp)) ∧
    (∀ cs, blank [] cs = cs) ∧ (∀ i is cs, blank (i :: is) cs = blank is (cs.set i .emp)) ∧
    (∀ is cs, Kw.putL is cs [] = cs) ∧ (∀ cs c post, Kw.putL [] cs (c :: post) = cs ++ c :: post) ∧ (∀ i is cs c post, Kw.putL (i :: is) cs (c :: post) = Kw.putL is (cs.set i c) post) := by
  refine ⟨fun _ _ _ => rfl, fun _ _ _ _ => rfl, fun _ _ _ => rfl, fun _ _ _ _ => rfl, fun _ _ _ => rfl, fun _ => rfl, fun k => List.append_nil k, fun _ => rfl, fun _ _ _ => rfl, fun _ => rfl, fun _ _ _ => rfl, fun is _ => by cases is <;> rfl, fun _ _ _ => rfl, fun _ _ _ _ _ => rfl⟩

/-- The state: these chunks, each apart; since w0 nothing has turned outside F0 but what is new. -/
def St (F0 : Nat → Prop) (w0 : World) (cs : List Ch) (w : World) : Prop := ∃ F, Sts cs F w ∧ Moves F0 F w0 w

section
variable {F0 : Nat → Prop} {w0 w w' : World} {cs : List Ch}

theorem St.of {F : Nat → Prop} (h : Sts cs F w) : St F w cs w := ⟨F, h, Moves.refl F w⟩
theorem St.start (w : World) : St (fun _ => False) w [] w := ⟨_, Sts.nil w, Moves.refl _ w⟩
theorem St.keeps (h : St F0 w0 cs w) : Keeps F0 w0 w := by obtain ⟨_, _, h⟩ := h; exact h.1

theorem St.sel (is : List Nat) (hS : St F0 w0 cs w) (hn : is.Nodup := by decide) :
    ∃ F, Sts (sel is cs) F w ∧ (∀ b, F b → F0 b ∨ w0.heap.size ≤ b) ∧ (∀ j p T xs, (blank is cs).getD j .emp = .pt p T xs → ¬ F p) ∧ ∀ {w' post}, St F w post w' → St F0 w0 (putL is (blank is cs) post) w' := by
  obtain ⟨F, h, hM⟩ := hS
  obtain ⟨F1, F2, h1, h2, h3, h4⟩ := h.sel is
  refine ⟨F1, h1, fun b hb => hM.2 b ((h4 b).2 (.inl hb)), fun j p T xs hj hp => ?_, fun {w' post} ⟨F', k1, k2⟩ => ?_⟩
  · obtain ⟨G1, G2, g1, _, _, g4⟩ := Sts.get j h2
    rw [hj] at g1
    exact h3 p hp ((g4 p).2 (.inl ((g1.2 p).2 rfl)))
  · have hs2 : Sep F' F2 := k2.sep h3 h2.lt
    obtain ⟨F'', l1, l2⟩ := Sts.putL is hn (fun i hi => blank_emp is cs i (.inl hi)) k1 (h2.keep k2.1 fun b hb hb1 => h3 b hb1 hb) hs2
    refine ⟨F'', l1, hM.1.trans' k2.1 fun b hb => hM.2 b ((h4 b).2 (.inl hb)), fun b hb => ?_⟩
    rcases l2 b hb with hb | hb
    · rcases k2.2 b hb with hb | hb
      · exact hM.2 b ((h4 b).2 (.inl hb))
      · exact .inr (Nat.le_trans hM.1.size hb)
    · exact hM.2 b ((h4 b).2 (.inr hb))

/-- One chunk is taken, and something given back for it. -/
theorem St.at (i : Nat) {c : Ch} (hS : St F0 w0 cs w) (hi : cs.getD i .emp = c) :
    ∃ F, c.holds F w ∧ (∀ b, F b → F0 b ∨ w0.heap.size ≤ b) ∧ ∀ {w' c' post}, St F w (c' :: post) w' → St F0 w0 (cs.set i c' ++ post) w' := by
  subst hi
  obtain ⟨F, h1, h2, _, h3⟩ := hS.sel [i] (by simp)
  refine ⟨F, Sts.of_one h1, h2, fun {w' c' post} h => ?_⟩
  have := h3 h
  have e : putL [i] (blank [i] cs) (c' :: post) = cs.set i c' ++ post := by
    simp only [putL, blank, List.set_set]
    cases post <;> simp [putL]
  rw [e] at this
  exact this

theorem St.step (hS : St F0 w0 cs w) (hk : Keeps (fun _ => False) w w') : St F0 w0 cs w' := by
  obtain ⟨F, h, hM⟩ := hS
  exact ⟨F, h.keep hk fun _ _ => id, hM.new hk⟩
theorem St.drew (hS : St F0 w0 cs w) : St F0 w0 cs w.drew := hS.step (Keeps.refl _ _).drew
theorem St.drewN (hS : St F0 w0 cs w) (n : Nat) : St F0 w0 cs (w.drewN n) := hS.step ((Keeps.refl _ _).drewN n)
/-- A new chunk. -/
theorem St.add (hS : St F0 w0 cs w) {G : Nat → Prop} {c : Ch} (hk : Keeps (fun _ => False) w w') (hc : c.holds G w') (hG : ∀ b, G b → w.heap.size ≤ b) : St F0 w0 (cs ++ [c]) w' := by
  obtain ⟨F, h, hM⟩ := hS
  have hs : Sep F G := fun b hb hg => by have := h.lt b hb; have := hG b hg; omega
  refine ⟨_, (h.keep hk fun _ _ => id).app (Sts.one hc) hs, (hM.new hk).1, fun b hb => ?_⟩
  rcases hb with hb | hb
  · exact hM.2 b hb
  · exact .inr (Nat.le_trans hM.1.size (hG b hb))
theorem St.adds (hS : St F0 w0 cs w) {ds : List Ch} (h : St (fun _ => False) w ds w') : St F0 w0 (cs ++ ds) w' := by
  obtain ⟨F, h1, _, _, h3⟩ := hS.sel []
  have e : F = fun _ => False := funext fun b => propext ⟨fun hb => h1 b hb, False.elim⟩
  subst e
  have := h3 h
  cases ds <;> simpa [putL, blank] using this
theorem St.new (hS : St F0 w0 cs w) (T : TypeId) (xs : List Value) : St F0 w0 (cs ++ [.pt w.heap.size T xs]) (w.alloc (.cells xs.toArray T)) :=
  hS.add ((Keeps.refl _ _).alloc _) (G := fun b => b = w.heap.size) ⟨Blk.new w T xs, fun _ => Iff.rfl⟩ fun b hb => by rw [hb]; exact Nat.le_refl _
theorem St.turn (i : Nat) {c c' : Ch} (hS : St F0 w0 cs w) (hi : cs.getD i .emp = c) (h : ∀ F, c.holds F w → ∃ F', c'.holds F' w' ∧ Moves F F' w w') : St F0 w0 (cs.set i c') w' := by
  obtain ⟨F, h1, _, h2⟩ := hS.at i hi
  obtain ⟨F', k1, k2⟩ := h F h1
  simpa using h2 (post := []) ⟨F', Sts.one k1, k2⟩
theorem St.set (i : Nat) {p : Nat} {T : TypeId} {xs : List Value} (hS : St F0 w0 cs w) (o : Nat) (v : Value) (hi : cs.getD i .emp = .pt p T xs := by rfl) : St F0 w0 (cs.set i (.pt p T (xs.set o v))) (w.setCell ⟨p, o, none⟩ v) :=
  hS.turn i hi fun F h => ⟨F, ⟨h.1.set o v, h.2⟩, ((Keeps.refl F w).setCell (.inl ((h.2 p).2 rfl)) v), fun _ => .inl⟩
theorem St.blk (i : Nat) {p : Nat} {T : TypeId} {xs : List Value} (hS : St F0 w0 cs w) (hi : cs.getD i .emp = .pt p T xs := by rfl) : Blk w p T xs := by
  obtain ⟨F, h, _⟩ := hS.at i hi; exact h.1
theorem St.own (i : Nat) {T : TypeId} {sz n : Nat} {v : Value} {xs : List Value} (hS : St F0 w0 cs w) (hi : cs.getD i .emp = .row T sz v n xs := by rfl) : Own w T sz v n xs := by
  obtain ⟨F, h, _⟩ := hS.at i hi; exact h.1
theorem St.vec (i : Nat) {T : TypeId} {sz n : Nat} {v : Value} {xs : List Value} (hS : St F0 w0 cs w) (hi : cs.getD i .emp = .vec T sz v n xs := by rfl) : Vec w T sz v n xs := by
  obtain ⟨F, h, _⟩ := hS.at i hi; exact h.1
theorem St.pr (i : Nat) {φ : Prop} (hS : St F0 w0 cs w) (hi : cs.getD i .emp = .pr φ := by rfl) : φ := by
  obtain ⟨F, h, _⟩ := hS.at i hi; exact h.1
/-- An owned row grows, or moves. -/
theorem St.grown (i : Nat) {T U : TypeId} {sz n sz' n' : Nat} {v v' : Value} {xs xs' : List Value} (hS : St F0 w0 cs w) (hg : w.grownBy w' v.ownBlock) (ho : Own w' U sz' v' n' xs')
    (hat : ∀ b, v'.ownBlock = some b → v.ownBlock = some b ∨ w.heap.size ≤ b) (hi : cs.getD i .emp = .row T sz v n xs := by rfl) : St F0 w0 (cs.set i (.row U sz' v' n' xs')) w' :=
  hS.turn i hi fun F h => ⟨fun b => v'.ownBlock = some b, ⟨ho, fun _ => Iff.rfl⟩, (Keeps.refl F w).grown hg fun b hb => .inl ((h.2 b).2 hb), fun b hb => (hat b hb).imp (fun h' => (h.2 b).2 h') id⟩
theorem St.setRow (i : Nat) {T : TypeId} {n g : Nat} {v : Value} {xs : List Value} (hS : St F0 w0 cs w) (hg : v.ownBlock = some g) (j : Nat) (u : Value) (hi : cs.getD i .emp = .row T 1 v n xs := by rfl) : St F0 w0 (cs.set i (.row T 1 v n (xs.set j u))) (w.setCell ⟨g, j, none⟩ u) :=
  hS.turn i hi fun F h => ⟨F, ⟨h.1.setIn hg j u, h.2⟩, (Keeps.refl F w).setCell (.inl ((h.2 g).2 hg)) u, fun _ => .inl⟩
/-- A chunk is taken apart. -/
theorem St.opens (i : Nat) {α : Type} {c : Ch} (hS : St F0 w0 cs w) (D : α → List Ch) (h : ∀ F, c.holds F w → ∃ x, Sts (D x) F w) (hi : cs.getD i .emp = c := by rfl) : ∃ x, St F0 w0 (cs.set i .emp ++ D x) w := by
  obtain ⟨F, h1, _, h2⟩ := hS.at i hi
  obtain ⟨x, h⟩ := h F h1
  refine ⟨x, ?_⟩
  have : Sts (Ch.emp :: D x) F w := ⟨fun _ => False, F, fun _ => id, h, fun _ h => h.elim, fun _ => ⟨.inr, fun h => h.elim False.elim id⟩⟩
  exact h2 (St.of this)
/-- Chunks are put together. -/
theorem St.fold (is : List Nat) (c : Ch) (hS : St F0 w0 cs w) (h : ∀ F, Sts (Kw.sel is cs) F w → c.holds F w) (hn : is.Nodup := by decide) : St F0 w0 (putL is (blank is cs) [c]) w := by
  obtain ⟨F, h1, _, _, h2⟩ := hS.sel is hn
  exact h2 (St.of (Sts.one (h F h1)))
/-- Only these are kept. -/
theorem St.sub (is : List Nat) (hS : St F0 w0 cs w) : St F0 w0 (Kw.sel is cs) w := by
  obtain ⟨F, h, hM⟩ := hS
  obtain ⟨F1, F2, h1, _, _, h4⟩ := h.sel is
  exact ⟨F1, h1, hM.1, fun b hb => hM.2 b ((h4 b).2 (.inl hb))⟩
theorem St.imp (i : Nat) {c : Ch} (c' : Ch) (hS : St F0 w0 cs w) (h : ∀ F, c.holds F w → c'.holds F w) (hi : cs.getD i .emp = c := by rfl) : St F0 w0 (cs.set i c') w :=
  hS.turn i hi fun F h1 => ⟨F, h F h1, Moves.refl F w⟩
/-- What a call on some chunks left, seen from the state ahead. -/
theorem St.base (hS : St F0 w0 cs w) : ∃ F, St F w cs w ∧ ∀ {w' cs'}, St F w cs' w' → St F0 w0 cs' w' := by
  obtain ⟨F, h, hM⟩ := hS
  exact ⟨F, St.of h, fun {w' cs'} ⟨F', k1, k2⟩ => ⟨F', k1, hM.trans k2⟩⟩
end
end Kw
end Go

/-
  Operations in states of chunks: append, lists that end with their length, rows of chunks.
-/
namespace Go
namespace Kw
open Go.RowKit

/-- The number in a cell, for measures. -/
def atOf (w : World) (b o : Nat) : Nat := (intOf ((w.cell? ⟨b, o, none⟩).getD undef)).toNat

/-- A list that ends with its length; nil, where it is empty and has no block. -/
def lval (b : Option Nat) (n : Nat) : Value := .slice (b.map fun g => ⟨g, 0, none⟩) n n
def lies (w : World) (T : TypeId) (sz : Nat) (b : Option Nat) (n : Nat) (xs : List Value) : Prop := xs.length = n * sz ∧ match b with | none => n = 0 | some g => Blk w g T xs
theorem lies.keeps {w w' : World} {T : TypeId} {sz n : Nat} {b : Option Nat} {xs : List Value} {F : Nat → Prop} (h : lies w T sz b n xs) (hk : Keeps F w w') (hF : ∀ k, b = some k → ¬ F k) : lies w' T sz b n xs := by
  cases b with
  | none => exact h
  | some g => exact ⟨h.1, hk.blk h.2 (hF g rfl)⟩
theorem lies.lt {w : World} {T : TypeId} {sz n : Nat} {b : Option Nat} {xs : List Value} (h : lies w T sz b n xs) : ∀ k, b = some k → k < w.heap.size := by
  rintro k rfl; exact Blk.lt h.2
def Ch.lst (T : TypeId) (sz : Nat) (b : Option Nat) (n : Nat) (xs : List Value) : Ch :=
  ⟨fun F w => lies w T sz b n xs ∧ ∀ k, F k ↔ b = some k, fun _ _ h k hk => h.1.lt k ((h.2 k).1 hk), fun _ _ _ _ h hk hn => ⟨h.1.keeps hk fun k hb => hn k ((h.2 k).2 hb), h.2⟩⟩
/-- Where the cells of a list lie. -/
theorem lies.src {w : World} {T : TypeId} {sz n : Nat} {b : Option Nat} {xs : List Value} (h : lies w T sz b n xs) : ∀ ad, b.map (fun g => (⟨g, 0, none⟩ : Addr)) = some ad → ∀ (j : Nat) u, xs[j]? = some u → w.cell? (ad.add j) = some u := by
  intro ad had j u hu
  cases b with
  | none => cases had
  | some g => cases had; rw [add_at, Nat.zero_add]; exact h.2.at hu
theorem lies.none {w : World} {T : TypeId} {sz n : Nat} {b : Option Nat} {xs : List Value} (h : lies w T sz b n xs) : b.map (fun g => (⟨g, 0, Option.none⟩ : Addr)) = Option.none → n = 0 ∧ n = 0 := by
  intro e
  cases b with
  | none => exact ⟨h.2, h.2⟩
  | some g => cases e

section
variable {F0 : Nat → Prop} {w0 w w' : World} {cs : List Ch}
theorem St.lst (i : Nat) {T : TypeId} {sz n : Nat} {b : Option Nat} {xs : List Value} (hS : St F0 w0 cs w) (hi : cs.getD i .emp = .lst T sz b n xs := by rfl) : lies w T sz b n xs := by
  obtain ⟨F, h, _⟩ := hS.at i hi; exact h.1
theorem atOf_pt (i o : Nat) {p : Nat} {T : TypeId} {xs : List Value} {n : Int} {k : IntKind} (hS : St F0 w0 cs w) (ho : xs[o]? = some (.int k n)) (hi : cs.getD i .emp = .pt p T xs := by rfl) : atOf w p o = n.toNat := by
  unfold atOf; rw [(hS.blk i hi).at ho]; rfl
/-- One of a row of chunks, looked at. -/
theorem St.elemAt (i k : Nat) {ds : List Ch} {c : Ch} (hS : St F0 w0 cs w) (hk : ds.getD k .emp = c) (hi : cs.getD i .emp = .stars ds := by rfl) : ∃ F, c.holds F w := by
  obtain ⟨F, h, _⟩ := hS.at i hi
  obtain ⟨F1, _, h1, _⟩ := Sts.get k (cs := ds) h
  rw [hk] at h1
  exact ⟨F1, h1⟩
/-- One of a row of chunks, taken out. -/
theorem St.elem (i k : Nat) {ds : List Ch} {c : Ch} (hS : St F0 w0 cs w) (hk : ds.getD k .emp = c) (hi : cs.getD i .emp = .stars ds := by rfl) : St F0 w0 (cs.set i (.stars (ds.set k .emp)) ++ [c]) w := by
  obtain ⟨F, h, _, h2⟩ := hS.at i hi
  obtain ⟨F1, F2, k1, k2, k3, k4⟩ := Sts.get k (cs := ds) h
  rw [hk] at k1
  refine h2 (St.of ?_)
  refine ⟨F2, F1, k2, Sts.one k1, k3.symm, fun b => by rw [k4 b]; exact or_comm⟩
/-- And laid back. -/
theorem St.unelem (i j k : Nat) {ds : List Ch} {c : Ch} (hS : St F0 w0 cs w) (hij : i ≠ j) (he : ds.getD k .emp = .emp) (hi : cs.getD i .emp = .stars ds := by rfl) (hj : cs.getD j .emp = c := by rfl) : St F0 w0 ((cs.set i (.stars (ds.set k c))).set j .emp) w := by
  obtain ⟨F, h, _, _, h2⟩ := hS.sel [i, j] (by simp [hij])
  simp only [Kw.sel, hi, set_getD_ne _ hij, hj] at h
  obtain ⟨F1, F2, h1, h3, h4, h5⟩ := h
  have h3 := Sts.of_one h3
  obtain ⟨G, g1, g2⟩ := Sts.put k (cs := ds) h1 he h3 h4.symm
  have := h2 (w' := w) (post := [.stars (ds.set k c), .emp]) ⟨G, ⟨G, fun _ => False, g1, ⟨fun _ => False, fun _ => False, fun _ => id, Sts.nil w, fun _ h => h.elim, fun _ => ⟨.inl, fun h => h.elim id id⟩⟩, fun _ _ => id, fun _ => ⟨.inl, fun h => h.elim id False.elim⟩⟩, Keeps.refl _ _, fun b hb => .inl ((h5 b).2 ((g2 b hb).symm))⟩
  have e : Kw.putL [i, j] (blank [i, j] cs) [.stars (ds.set k c), .emp] = (cs.set i (.stars (ds.set k c))).set j .emp := by
    simp only [Kw.putL, blank]
    rw [List.set_comm _ _ hij, List.set_set, List.set_comm _ _ (Ne.symm hij), List.set_set]
  rw [e] at this
  exact this
/-- One more in a row of chunks. -/
theorem St.snoc (i j : Nat) {ds : List Ch} {c : Ch} (hS : St F0 w0 cs w) (hij : i ≠ j := by decide) (hi : cs.getD i .emp = .stars ds := by rfl) (hj : cs.getD j .emp = c := by rfl) : St F0 w0 ((cs.set i (.stars (ds ++ [c]))).set j .emp) w := by
  obtain ⟨F, h, _, _, h2⟩ := hS.sel [i, j] (by simp [hij])
  simp only [Kw.sel, hi, set_getD_ne _ hij, hj] at h
  obtain ⟨F1, F2, h1, h3, h4, h5⟩ := h
  have h3 := Sts.of_one h3
  have g1 : Sts (ds ++ [c]) _ w := Sts.app h1 (Sts.one h3) h4
  have := h2 (w' := w) (post := [.stars (ds ++ [c]), .emp]) ⟨_, ⟨_, fun _ => False, g1, ⟨fun _ => False, fun _ => False, fun _ => id, Sts.nil w, fun _ h => h.elim, fun _ => ⟨.inl, fun h => h.elim id id⟩⟩, fun _ _ => id, fun _ => ⟨.inl, fun h => h.elim id False.elim⟩⟩, Keeps.refl _ _, fun b hb => .inl ((h5 b).2 hb)⟩
  have e : Kw.putL [i, j] (blank [i, j] cs) [.stars (ds ++ [c]), .emp] = (cs.set i (.stars (ds ++ [c]))).set j .emp := by
    simp only [Kw.putL, blank]
    rw [List.set_comm _ _ hij, List.set_set, List.set_comm _ _ (Ne.symm hij), List.set_set]
  rw [e] at this
  exact this
end

section
variable {P : Program} {F0 : Nat → Prop} {w0 w : World} {cs : List Ch}
/-- 'append(s, x..)' of at least one element, s the slice of an owned row, x of a block. -/
theorem wpList_appS {ops : Array Oper} {rest : List Oper} {o : Oper} {a : Act} {Q : Exit → Act → World → Prop} (i j : Nat) (s x : Operand) (t : TypeId) (e : TypeId) (z : Value) (size bytes : Nat)
    (hinfo : (P.info? e).map (fun i => (i.zero, i.size, i.bytes)) = some (some z, size, bytes)) (ht : P.underlying t = some (.slice e))
    (hzs : z.cells.size = size) (hsz : 0 < size)
    (hgd : o.guard = none) (ho : o.op = .call { callee := .builtin .append, args := #[s, x], argTypes := #[t, t] })
    {v : Value} {n m B c : Nat} {xs news : List Value} (hS : St F0 w0 cs w) (hi : cs.getD i .emp = .row e size v n xs) (hj : cs.getD j .emp = .pt B e news)
    (hs : a.eval s = v) (hx : a.eval x = .slice (some ⟨B, 0, none⟩) m c) (hl : news.length = m * size) (h1 : ∀ u ∈ news, u.oneCell' = true)
    (hm : 0 < m) (h63 : n + m ≤ maxLen) (hbytes : (n + m) * bytes ≤ 140737488355328)
    (h : ∀ g cap w', St F0 w0 (cs.set i (.row e size (.slice (some ⟨g, 0, none⟩) (n + m) cap) (n + m) (xs ++ news))) w' → (v.ownBlock = some g ∨ g = w.heap.size) → wpList P ops Q rest (a.put o.dst (.slice (some ⟨g, 0, none⟩) (n + m) cap)) w') : wpList P ops Q (o :: rest) a w := by
  refine wpList_app s x t e z size bytes hinfo ht hzs hsz hgd ho v n xs hs (hS.own i hi) B m c news hx hl (hS.blk j hj) h1 hm h63 hbytes fun g cap w' k1 k2 k3 _ => ?_
  refine h g cap w' (hS.grown i k2 k1 (fun b hb => ?_) hi) k3
  cases hb
  rcases k3 with k3 | k3
  · exact .inl k3
  · exact .inr (Nat.le_of_eq k3.symm)
end

/-- 'append([]T(nil), x..)': whatever x reads. -/
theorem wpList_app_nil {P : Program} {w : World} {ops : Array Oper} {rest : List Oper} {o : Oper} {a : Act} {Q : Exit → Act → World → Prop} (s x : Operand) (t : TypeId) (e : TypeId) (z : Value) (size bytes : Nat)
    (hinfo : (P.info? e).map (fun i => (i.zero, i.size, i.bytes)) = some (some z, size, bytes)) (ht : P.underlying t = some (.slice e)) (hzs : z.cells.size = size) (hsz : 0 < size)
    (hgd : o.guard = none) (ho : o.op = .call { callee := .builtin .append, args := #[s, x], argTypes := #[t, t] }) (hs : a.eval s = .slice none 0 0)
    (ao : Option Addr) (m c : Nat) (news : List Value) (hx : a.eval x = .slice ao m c) (hl : news.length = m * size) (hnone : ao = none → m = 0 ∧ c = 0)
    (hc : ∀ ad, ao = some ad → ∀ j u, news[j]? = some u → w.cell? (ad.add j) = some u) (h1 : ∀ u ∈ news, u.oneCell' = true) (h63 : m ≤ maxLen) (hbytes : m * bytes ≤ 140737488355328)
    (hK : ∀ ra rc w', Vec w' e size (.slice ra m rc) m news → Keeps (fun _ => False) w w' → (∀ b, (Value.slice ra m rc).ownBlock = some b → w.heap.size ≤ b) → wpList P ops Q rest (a.put o.dst (.slice ra m rc)) w') :
    wpList P ops Q (o :: rest) a w := by
  obtain ⟨i0, hi, hz0, hz1, hz2⟩ := info_parts hinfo
  by_cases hm : m = 0
  · subst hm
    have hnews : news = [] := List.eq_nil_of_length_eq_zero (by simpa using hl)
    subst hnews
    have hr : (Builtin.append_ #[t, t] o.type #[.slice none 0 0, .slice ao 0 c]).run P w = .ok (.slice none 0 0) w := by
      cases ao with
      | none =>
        obtain ⟨_, rfl⟩ := hnone rfl
        exact run_append_owned_none w 0 t o.type e i0 size ht hi (.slice none 0 0) 0 [] ⟨by simp, .inl ⟨rfl, rfl⟩⟩
      | some ad => simp [Builtin.append_, run_underlying ht, sizeOf, typeInfo, hi, Builtin.lenOf, Builtin.firstCells, loadCells, loadCellsFrom]
    refine wpList_plain hgd fun K hK' => ?_
    unfold Oper.wp execOp
    simp only [ho, resolve, invoke, builtin, Sem.run_bind, Sem.run_pure, Result.andThen_ok, List.map_toArray, List.map_cons, List.map_nil, hs, hx, hr]
    exact hK' _ _ (hK none 0 w ⟨by simp, .inl ⟨rfl, rfl⟩⟩ (Keeps.refl _ _) (fun b hb => by cases hb))
  · obtain ⟨ad, rfl⟩ : ∃ ad, ao = some ad := by
      cases ao with
      | none => exact absurd (hnone rfl).1 hm
      | some ad => exact ⟨ad, rfl⟩
    refine wpList_append_lies w hgd s x t ho 0 e i0 z size bytes ht hi hz0 hz1 hz2 hzs hsz _ 0 [] hs ⟨by simp, .inl ⟨rfl, rfl⟩⟩ ad m c news hx hl (hc ad rfl) h1 (by omega) (by omega) (by rw [Nat.zero_add]; exact hbytes) (Nat.zero_le _) _ rfl fun g' cap w' h2 h3 h4 _ => ?_
    simp only [Nat.zero_add, List.nil_append] at h2 ⊢
    refine hK _ cap w' (Vec.of_own h2) ((Keeps.refl _ _).grown h3 (fun k hk => by cases hk)) (fun b hb => ?_)
    cases hb
    rcases h4 with h4 | h4
    · cases h4
    · rw [h4]; exact Nat.le_refl _

section
variable {P : Program} {F0 : Nat → Prop} {w0 w : World} {cs : List Ch}
/-- 'var x T' of a type of many cells. -/
theorem wpList_allocS {ops : Array Oper} {rest : List Oper} {o : Oper} {a : Act} {Q : Exit → Act → World → Prop} (T : TypeId) (z : Value) (zs : List Value) (hgd : o.guard = none) (ho : o.op = .alloc T)
    (hi : (P.info? T).map (fun i => i.zero) = some (some z)) (hz : z.cells = zs.toArray) (hS : St F0 w0 cs w)
    (h : ∀ g w', St F0 w0 (cs ++ [.pt g T zs]) w' → wpList P ops Q rest (a.put o.dst (.pointer (some ⟨g, 0, none⟩))) w') : wpList P ops Q (o :: rest) a w := by
  refine wpList_plain hgd fun K hK => ?_
  unfold Oper.wp execOp
  cases hq : P.info? T with
  | none => simp [hq] at hi
  | some i =>
    simp only [hq, Option.map_some, Option.some.injEq] at hi
    have := h w.heap.size _ (hS.new T zs)
    simp [ho, Instr.alloc, zeroValue, typeInfo, hq, hi, newVar, newRow, hz, Result.andThen]
    exact hK _ _ this
/-- A whole variable of many cells is written. -/
theorem wpList_storeS {ops : Array Oper} {rest : List Oper} {o : Oper} {a : Act} {Q : Exit → Act → World → Prop} (i : Nat) (ty : TypeId) (x v : Operand) (hgd : o.guard = none) (ho : o.op = .store ty x v)
    {g : Nat} {T : TypeId} {old : List Value} (new : List Value) (hS : St F0 w0 cs w) (hc : cs.getD i .emp = .pt g T old) (hx : a.eval x = .pointer (some ⟨g, 0, none⟩)) (hv : a.eval v = .agg new.toArray)
    (hi : (P.info? ty).map (·.size) = some new.length) (hl : old.length = new.length) (h1 : ∀ u ∈ new, u.oneCell' = true)
    (h : ∀ w', St F0 w0 (cs.set i (.pt g T new)) w' → wpList P ops Q rest (a.put o.dst undef) w') : wpList P ops Q (o :: rest) a w := by
  refine wpList_plain hgd fun K hK => ?_
  have hb := hS.blk i hc
  have hr := run_storeVar_row (P := P) w g T ty old.toArray new.toArray hb (by simpa using hi) (by simpa using hl) (by simpa using h1)
  have hS' : St F0 w0 (cs.set i (.pt g T new)) (w.setRow g new.toArray) := hS.turn i hc fun F h => ⟨F, ⟨h.1.row new, h.2⟩, (Keeps.refl F w).setRow (.inl ((h.2 g).2 rfl)) _, fun _ => .inl⟩
  unfold Oper.wp execOp
  simp only [ho, hx, hv, Instr.storeAt, Instr.sureAddr, Sem.run_bind, Sem.run_pure, Result.andThen_ok, hr]
  exact hK _ _ (h _ hS')
/-- A whole variable of many cells is read. -/
theorem wpList_loadS {ops : Array Oper} {rest : List Oper} {o : Oper} {a : Act} {Q : Exit → Act → World → Prop} (i : Nat) (ty : TypeId) (x : Operand) (d : TypeDesc) (hgd : o.guard = none) (ho : o.op = .load ty x)
    {g : Nat} {T : TypeId} {xs : List Value} (hS : St F0 w0 cs w) (hc : cs.getD i .emp = .pt g T xs) (hx : a.eval x = .pointer (some ⟨g, 0, none⟩))
    (hu : P.underlying ty = some d) (hd : (match d with | .struct _ | .array _ _ => true | _ => false) = true) (hi : (P.info? ty).map (·.size) = some xs.length)
    (h : wpList P ops Q rest (a.put o.dst (.agg xs.toArray)) w) : wpList P ops Q (o :: rest) a w :=
  wpList_load_row hgd ty x ho g hx T xs.toArray (0, 0) d (hS.blk i hc) hu hd (by simpa using hi) h
end
end Kw
end Go
