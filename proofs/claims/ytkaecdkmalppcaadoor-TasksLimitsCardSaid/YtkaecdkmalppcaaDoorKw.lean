/-
  Words on worlds: a block known whole; what a step keeps outside a set of blocks; append and make in these words.
-/
import Derived.WalkKit
import Derived.Deep.AppendLies
import Derived.Deep.Quiet
namespace Go
namespace Kw
open Go.RowKit

theorem ret_int {k : IntKind} {a b : Int} (h : a = b) : Ending.returned (.int k a) = .returned (.int k b) := by rw [h]
theorem ret_bool {a b : Bool} (h : a = b) : Ending.returned (.bool a) = .returned (.bool b) := by rw [h]
theorem dn2 (w : World) (a b : Nat) : ∃ n, (w.drewN a).drewN b = w.drewN n := ⟨a + b, World.drewN_drewN ..⟩
theorem dn3 (w : World) (a b c : Nat) : ∃ n, ((w.drewN a).drewN b).drewN c = w.drewN n := ⟨a + (b + c), by rw [World.drewN_drewN, World.drewN_drewN]⟩
theorem hid {p : Prop} (h : p) : Hid p := h

/-- Block b is a row of just these cells. -/
def Blk (w : World) (b : Nat) (T : TypeId) (xs : List Value) : Prop := w.heap[b]? = some (.cells xs.toArray T (0, 0))

section
variable {w w' : World} {b : Nat} {T : TypeId} {xs : List Value}

theorem Blk.cell (h : Blk w b T xs) (o : Nat) : w.cell? ⟨b, o, none⟩ = xs[o]? := by
  unfold Blk at h; simp [World.cell?, h]
theorem Blk.at (h : Blk w b T xs) {o : Nat} {v : Value} (hx : xs[o]? = some v) : w.cell? ⟨b, o, none⟩ = some v := by rw [h.cell, hx]
theorem Blk.fz (h : Blk w b T xs) (o : Nat) : w.frozen? ⟨b, o, none⟩ = false := by
  unfold Blk at h; simp [World.frozen?, h]
theorem Blk.lt (h : Blk w b T xs) : b < w.heap.size := by
  unfold Blk at h
  rcases Nat.lt_or_ge b w.heap.size with h' | h'
  · exact h'
  · rw [Array.getElem?_eq_none h'] at h; cases h
theorem Blk.same (h : Blk w b T xs) (hs : w'.heap[b]? = w.heap[b]?) : Blk w' b T xs := hs.trans h
theorem Blk.inj {ys : List Value} {U : TypeId} (h : Blk w b T xs) (h' : Blk w b U ys) : xs = ys := by
  unfold Blk at h h'; rw [h] at h'; simpa using (Obj.cells.inj (Option.some.inj h')).1
theorem Blk.ne {ys : List Value} {U : TypeId} {c : Nat} (h : Blk w b T xs) (h' : Blk w c U ys) (hl : xs.length ≠ ys.length) : b ≠ c := by
  intro e; subst e; exact hl (by rw [h.inj h'])
theorem Blk.neT {ys : List Value} {U : TypeId} {c : Nat} (h : Blk w b T xs) (h' : Blk w c U ys) (hl : T ≠ U) : b ≠ c := by
  intro e; subst e
  unfold Blk at h h'; rw [h] at h'
  exact hl (Obj.cells.inj (Option.some.inj h')).2.1
theorem Blk.drew (h : Blk w b T xs) : Blk w.drew b T xs := h
theorem Blk.drewN (h : Blk w b T xs) (n : Nat) : Blk (w.drewN n) b T xs := h
theorem Blk.alloc (h : Blk w b T xs) (o : Obj) : Blk (w.alloc o) b T xs := (Below.heap_alloc w o b h.lt).trans h
theorem Blk.new (w : World) (T : TypeId) (xs : List Value) : Blk (w.alloc (.cells xs.toArray T)) w.heap.size T xs :=
  heap_alloc_new w _
theorem Blk.set (h : Blk w b T xs) (o : Nat) (v : Value) : Blk (w.setCell ⟨b, o, none⟩ v) b T (xs.set o v) := by
  unfold Blk at *
  simp [World.setCell, Array.getElem?_modify, h]
theorem Blk.far (h : Blk w b T xs) {a : Addr} (hn : a.block ≠ b) (v : Value) : Blk (w.setCell a v) b T xs :=
  (Below.heap_setCell w a v b (fun e => hn e.symm)).trans h
theorem Blk.row (h : Blk w b T xs) (ys : List Value) : Blk (w.setRow b ys.toArray) b T ys := by
  unfold Blk at *
  exact setRow_heap w b xs.toArray ys.toArray T (0, 0) h
theorem Blk.rowFar (h : Blk w b T xs) {g : Nat} (hn : g ≠ b) (cs : Array Value) : Blk (w.setRow g cs) b T xs :=
  (setRow_other w g b cs (fun e => hn e.symm)).trans h
end

theorem cells2 {w : World} {p : Nat} {T : TypeId} {a b : Value} (h : Blk w p T [a, b]) : w.cell? ⟨p, 0, none⟩ = some a ∧ w.cell? ⟨p, 1, none⟩ = some b ∧ (∀ o, w.frozen? ⟨p, o, none⟩ = false) := ⟨h.cell 0, h.cell 1, h.fz⟩
theorem cells3 {w : World} {p : Nat} {T : TypeId} {a b c : Value} (h : Blk w p T [a, b, c]) : w.cell? ⟨p, 0, none⟩ = some a ∧ w.cell? ⟨p, 1, none⟩ = some b ∧ w.cell? ⟨p, 2, none⟩ = some c ∧ (∀ o, w.frozen? ⟨p, o, none⟩ = false) := ⟨h.cell 0, h.cell 1, h.cell 2, h.fz⟩
theorem cells4 {w : World} {p : Nat} {T : TypeId} {a b c d : Value} (h : Blk w p T [a, b, c, d]) : w.cell? ⟨p, 0, none⟩ = some a ∧ w.cell? ⟨p, 1, none⟩ = some b ∧ w.cell? ⟨p, 2, none⟩ = some c ∧ w.cell? ⟨p, 3, none⟩ = some d ∧ (∀ o, w.frozen? ⟨p, o, none⟩ = false) := ⟨h.cell 0, h.cell 1, h.cell 2, h.cell 3, h.fz⟩

/-- Outside F nothing that was there has turned. -/
structure Keeps (F : Nat → Prop) (w w' : World) : Prop where
  os : w'.os = w.os
  tape : w'.tape = w.tape
  output : w'.output = w.output
  size : w.heap.size ≤ w'.heap.size
  block : ∀ k, k < w.heap.size → ¬ F k → w'.heap[k]? = w.heap[k]?

section
variable {F G : Nat → Prop} {w w1 w2 : World}

theorem Keeps.refl (F : Nat → Prop) (w : World) : Keeps F w w := ⟨rfl, rfl, rfl, Nat.le_refl _, fun _ _ _ => rfl⟩
theorem Keeps.trans' (h : Keeps F w w1) (k : Keeps G w1 w2) (hG : ∀ b, G b → F b ∨ w.heap.size ≤ b) : Keeps F w w2 :=
  ⟨k.os.trans h.os, k.tape.trans h.tape, k.output.trans h.output, Nat.le_trans h.size k.size, fun i hi hn =>
    (k.block i (Nat.lt_of_lt_of_le hi h.size) (fun g => by rcases hG i g with h1 | h1; exact hn h1; omega)).trans (h.block i hi hn)⟩
theorem Keeps.trans (h : Keeps F w w1) (k : Keeps F w1 w2) : Keeps F w w2 := h.trans' k fun _ h => .inl h
theorem Keeps.mono (h : Keeps F w w1) (hF : ∀ b, F b → G b) : Keeps G w w1 := ⟨h.os, h.tape, h.output, h.size, fun k hk hn => h.block k hk fun hf => hn (hF k hf)⟩
/-- It is enough that F's blocks that were there are in G. -/
theorem Keeps.mono' (h : Keeps F w w1) (hF : ∀ b, b < w.heap.size → F b → G b) : Keeps G w w1 := ⟨h.os, h.tape, h.output, h.size, fun k hk hn => h.block k hk fun hf => hn (hF k hk hf)⟩
theorem Keeps.drew (h : Keeps F w w1) : Keeps F w w1.drew := ⟨h.os, h.tape, h.output, h.size, h.block⟩
theorem Keeps.drewN (h : Keeps F w w1) (n : Nat) : Keeps F w (w1.drewN n) := ⟨h.os, h.tape, h.output, h.size, h.block⟩
theorem Keeps.of_drewN (n : Nat) (h : Keeps F (w.drewN n) w1) : Keeps F w w1 := ⟨h.os, h.tape, h.output, h.size, h.block⟩
theorem Keeps.alloc (h : Keeps F w w1) (o : Obj) : Keeps F w (w1.alloc o) :=
  h.trans' (G := fun _ => False) ⟨rfl, rfl, rfl, by simp, fun k hk _ => Below.heap_alloc _ _ _ hk⟩ fun _ h => h.elim
theorem Keeps.setCell (h : Keeps F w w1) {a : Addr} (ha : F a.block ∨ w.heap.size ≤ a.block) (v : Value) : Keeps F w (w1.setCell a v) :=
  h.trans' (G := fun b => b = a.block) ⟨rfl, rfl, rfl, by simp, fun k _ hk => Below.heap_setCell _ _ _ _ hk⟩ fun b h => by subst h; exact ha
theorem Keeps.setRow (h : Keeps F w w1) {g : Nat} (ha : F g ∨ w.heap.size ≤ g) (cs : Array Value) : Keeps F w (w1.setRow g cs) :=
  h.trans' (G := fun b => b = g) ⟨rfl, rfl, rfl, by simp, fun k _ hk => setRow_other _ _ _ _ hk⟩ fun b h => by subst h; exact ha
theorem Keeps.grown {row : Option Nat} (h : Keeps F w w1) (hg : w1.grownBy w2 row) (hr : ∀ k, row = some k → F k ∨ w.heap.size ≤ k) : Keeps F w w2 :=
  h.trans' (G := fun b => row = some b) ⟨hg.os, hg.tape, hg.output, hg.size, fun k hk hn => hg.block k hk (fun e => hn e.symm)⟩ fun b hb => hr b hb
theorem Keeps.below (h : Keeps (fun _ => False) w w1) : Below w.heap.size w w1 := ⟨h.os, h.tape, h.output, h.size, fun k hk => h.block k hk id⟩
theorem Keeps.of_below (h : Below w.heap.size w w1) : Keeps F w w1 := ⟨h.os, h.tape, h.output, h.size, fun k hk _ => h.block k hk⟩
theorem Keeps.blk (h : Keeps F w w1) {b : Nat} {T : TypeId} {xs : List Value} (hb : Blk w b T xs) (hn : ¬ F b) : Blk w1 b T xs := (h.block b hb.lt hn).trans hb
end

/-- Outside F nothing has turned, and F' is of F's blocks and of new ones. -/
def Moves (F F' : Nat → Prop) (w w' : World) : Prop := Keeps F w w' ∧ ∀ b, F' b → F b ∨ w.heap.size ≤ b
theorem Moves.trans {F F' F'' : Nat → Prop} {w w1 w2 : World} (h : Moves F F' w w1) (k : Moves F' F'' w1 w2) : Moves F F'' w w2 :=
  ⟨h.1.trans' k.1 h.2, fun b hb => by
    rcases k.2 b hb with h1 | h1
    · exact h.2 b h1
    · exact .inr (Nat.le_trans h.1.size h1)⟩
theorem Moves.refl (F : Nat → Prop) (w : World) : Moves F F w w := ⟨Keeps.refl _ _, fun _ h => .inl h⟩
theorem Moves.keep {F : Nat → Prop} {w w' : World} (h : Keeps F w w') : Moves F F w w' := ⟨h, fun _ h => .inl h⟩
theorem Moves.new {F F' : Nat → Prop} {w w1 w2 : World} (h : Moves F F' w w1) (k : Keeps (fun _ => False) w1 w2) : Moves F F' w w2 :=
  h.trans ⟨k.mono fun _ h => h.elim, fun _ h => .inl h⟩
/-- Two sets of blocks have none in common. -/
def Sep (F G : Nat → Prop) : Prop := ∀ b, F b → ¬ G b
theorem Sep.symm {F G : Nat → Prop} (h : Sep F G) : Sep G F := fun b hb hf => h b hf hb
theorem Moves.sep {F F' G : Nat → Prop} {w w' : World} (h : Moves F F' w w') (hs : Sep F G) (hG : ∀ b, G b → b < w.heap.size) : Sep F' G := fun b hb hg => by
  rcases h.2 b hb with h1 | h1
  · exact hs b h1 hg
  · have := hG b hg; omega

theorem grown_blk {w w' : World} {row : Option Nat} (hg : w.grownBy w' row) {b : Nat} {T : TypeId} {xs : List Value} (hb : Blk w b T xs) (hn : some b ≠ row) : Blk w' b T xs := (hg.block b hb.lt hn).trans hb

/-- A slice value that owns its row. -/
abbrev Own (w : World) (T : TypeId) (sz : Nat) (v : Value) (n : Nat) (xs : List Value) : Prop := w.ownsRow 0 T sz v n xs

section
variable {w w' : World} {T : TypeId} {sz n : Nat} {v : Value} {xs : List Value}
theorem Own.keeps {F : Nat → Prop} (h : Own w T sz v n xs) (hk : Keeps F w w') (hn : ∀ b, v.ownBlock = some b → ¬ F b) : Own w' T sz v n xs := by
  obtain ⟨h1, h2⟩ := h
  refine ⟨h1, ?_⟩
  rcases h2 with h2 | ⟨g, cap, cur, rfl, hb, hg, hr⟩
  · exact .inl h2
  · have hlt : g < w.heap.size := by
      rcases Nat.lt_or_ge g w.heap.size with h' | h'
      · exact h'
      · rw [Array.getElem?_eq_none h'] at hg; cases hg
    exact .inr ⟨g, cap, cur, rfl, hb, (hk.block g hlt (hn g rfl)).trans hg, hr⟩
theorem Own.far (h : Own w T sz v n xs) {a : Addr} (hn : v.ownBlock ≠ some a.block) (u : Value) : Own (w.setCell a u) T sz v n xs :=
  h.keeps (F := fun b => b = a.block) ((Keeps.refl (fun b => b = a.block) w).setCell (.inl rfl) _) fun b hb e => hn (by rw [hb, e])
theorem Own.rowFar (h : Own w T sz v n xs) {g : Nat} (hn : v.ownBlock ≠ some g) (cs : Array Value) : Own (w.setRow g cs) T sz v n xs :=
  h.keeps (F := fun b => b = g) ((Keeps.refl (fun b => b = g) w).setRow (.inl rfl) _) fun b hb e => hn (by rw [hb, e])
theorem Own.alloc (h : Own w T sz v n xs) (o : Obj) : Own (w.alloc o) T sz v n xs := World.ownsRow.alloc h o
theorem Own.drew (h : Own w T sz v n xs) : Own w.drew T sz v n xs := h
theorem Own.drewN (h : Own w T sz v n xs) (k : Nat) : Own (w.drewN k) T sz v n xs := h
theorem Own.lt (h : Own w T sz v n xs) : ∀ b, v.ownBlock = some b → b < w.heap.size := fun b hb => (World.ownsRow.lt h b hb).2
/-- The value behind 'xs[:k]' (capacity kept). -/
def cut (v : Value) (k : Nat) : Value := match v with | .slice a _ c => .slice a k c | v => v
theorem Own.shorter (h : Own w T sz v n xs) (k : Nat) (hk : k ≤ n) : Own w T sz (cut v k) k (xs.take (k * sz)) := by
  obtain ⟨h1, h2⟩ := h
  have hle : k * sz ≤ n * sz := Nat.mul_le_mul_right _ hk
  refine ⟨by rw [List.length_take, h1]; omega, ?_⟩
  rcases h2 with ⟨rfl, rfl⟩ | ⟨g, cap, cur, rfl, hb, hg, hn, hm, hs, ht⟩
  · obtain rfl : k = 0 := by omega
    exact .inl ⟨rfl, rfl⟩
  · refine .inr ⟨g, cap, cur, rfl, hb, hg, by omega, hm, hs, ?_⟩
    rw [← ht, List.take_take]; congr 1; omega
theorem Own.cells' (h : Own w T sz v n xs) {g : Nat} (hg : v.ownBlock = some g) {j : Nat} {u : Value} (hu : xs[j]? = some u) : w.cell? ⟨g, j, none⟩ = some u := by
  have := World.ownsRow.cells h hg j u hu
  have hadd : (⟨g, 0, none⟩ : Addr).add j = ⟨g, j, none⟩ := by unfold Addr.add; split <;> simp_all
  rwa [hadd] at this
theorem Own.fz (h : Own w T sz v n xs) {g : Nat} (hg : v.ownBlock = some g) (j : Nat) : w.frozen? ⟨g, j, none⟩ = false := by
  rcases h.2 with ⟨rfl, _⟩ | ⟨g', cap, cur, rfl, hb, hh, _⟩
  · cases hg
  · obtain rfl : g' = g := by simpa [Value.ownBlock] using hg
    simp [World.frozen?, hh]
theorem Own.form (h : Own w T sz v n xs) (hn : 0 < n) : ∃ g cap, v = .slice (some ⟨g, 0, none⟩) n cap ∧ g < w.heap.size := by
  obtain ⟨g, cap, h1, _, h2⟩ := World.ownsRow.form h hn
  exact ⟨g, cap, h1, h2⟩
theorem Own.neT (h : Own w T sz v n xs) {b : Nat} {U : TypeId} {ys : List Value} (hb : Blk w b U ys) (hne : T ≠ U) : v.ownBlock ≠ some b := by
  rcases h.2 with ⟨rfl, _⟩ | ⟨g', cap, cur, rfl, _, hh, _⟩
  · intro e; cases e
  · intro e
    obtain rfl : g' = b := by simpa [Value.ownBlock] using e
    unfold Blk at hb; rw [hb] at hh
    exact hne (Obj.cells.inj (Option.some.inj hh)).2.1.symm
/-- What the value looks like, nil or not. -/
theorem Own.shape (h : Own w T sz v n xs) : ∃ a c, v = .slice a n c ∧ n ≤ c := by
  rcases h.2 with ⟨rfl, rfl⟩ | ⟨g, cap, cur, rfl, hb, hh, hn, _⟩
  · exact ⟨none, 0, rfl, Nat.le_refl _⟩
  · exact ⟨_, cap, rfl, hn⟩
end

theorem add_at (b o n : Nat) : (⟨b, o, none⟩ : Addr).add n = ⟨b, o + n, none⟩ := by
  unfold Addr.add; split
  · rename_i h; subst h; rfl
  · rfl

theorem setCell_row {w : World} {b : Nat} {T : TypeId} {xs : List Value} (h : Blk w b T xs) (o : Nat) (v : Value) : w.setCell ⟨b, o, none⟩ v = w.setRow b (xs.set o v).toArray := by
  have := setCell_eq_setRow w b o xs.toArray T (0, 0) v h
  rw [this]; congr 1; simp

section
variable {w : World} {T : TypeId} {n : Nat} {v : Value} {xs : List Value}
/-- An element of a row of one-cell elements is written. -/
theorem Own.setIn (h : Own w T 1 v n xs) {g : Nat} (hg : v.ownBlock = some g) (j : Nat) (u : Value) : Own (w.setCell ⟨g, j, none⟩ u) T 1 v n (xs.set j u) := by
  obtain ⟨h1, h2⟩ := h
  refine ⟨by simp [h1], ?_⟩
  rcases h2 with ⟨rfl, _⟩ | ⟨g', cap, cur, rfl, hb, hh, hn, hm, hs, ht⟩
  · cases hg
  · obtain rfl : g' = g := by simpa [Value.ownBlock] using hg
    refine .inr ⟨g', cap, cur.setIfInBounds j u, rfl, hb, ?_, hn, hm, by simp [hs], ?_⟩
    · have hB : Blk w g' T cur.toList := by unfold Blk; simpa using hh
      have := hB.set j u
      unfold Blk at this
      rw [this]; simp [← List.setIfInBounds_toArray]
    · rw [← ht]; simp [List.take_set]
end

section
variable {P : Program} {w : World}
/-- 'append(s, v)' of one one-cell element within the capacity, s in the middle of a block. -/
theorem run_append_mid (t ty e : TypeId) (z : Value) (bytes : Nat) (hinfo : (P.info? e).map (fun i => (i.zero, i.size, i.bytes)) = some (some z, 1, bytes)) (ht : P.underlying t = some (.slice e))
    {b : Nat} {xs : List Value} (hb : Blk w b e xs) (o n cap B c : Nat) (v : Value) (hB : Blk w B e [v]) (h1 : v.oneCell' = true) (hroom : n + 1 ≤ cap) (hfit : o + n < xs.length) :
    (Builtin.append_ #[t, t] ty #[.slice (some ⟨b, o, none⟩) n cap, .slice (some ⟨B, 0, none⟩) 1 c]).run P w = .ok (.slice (some ⟨b, o, none⟩) (n + 1) cap) (w.setCell ⟨b, o + n, none⟩ v) := by
  obtain ⟨i, hi, hz0, hz1, hz2⟩ := info_parts hinfo
  have hf := run_firstCells_some (P := P) w i.size 1 ⟨B, 0, none⟩ 1 c [v] (by simp [hz1]) (World.news_of_block hB)
  have hst := run_storeCells_at P b (o + n) e [v] 0 xs.toArray w hb (by simp; omega) (by simpa using h1)
  simp only [Nat.add_zero] at hst
  have hrow := setCell_row hb (o + n) v
  have hset : xs.set (o + n) v = List.take (o + n) xs ++ [v] ++ List.drop (o + n + [v].length) xs := by
    rw [List.set_eq_take_append_cons_drop, if_pos hfit]; simp
  rw [hz1] at hf
  simp [Builtin.append_, run_underlying ht, sizeOf, typeInfo, hi, Builtin.lenOf, hroom, add_at, hz1, hf, hst, hrow, hset]

/-- 'clear(s)'. -/
theorem run_clear (t ty e : TypeId) (z : Value) (bytes : Nat) (hinfo : (P.info? e).map (fun i => (i.zero, i.size, i.bytes)) = some (some z, 1, bytes)) (hz : z.cells = #[z]) (h1 : z.oneCell' = true) (ht : P.underlying t = some (.slice e))
    {b : Nat} {xs : List Value} (hb : Blk w b e xs) (o n c : Nat) (hn : 0 < n) (hfit : o + n ≤ xs.length) :
    (Builtin.clear_ #[t] ty #[.slice (some ⟨b, o, none⟩) n c]).run P w = .ok (.tuple #[]) (w.setRow b (xs.take o ++ List.replicate n z ++ xs.drop (o + n)).toArray) := by
  obtain ⟨i, hi, hz0, hz1, hz2⟩ := info_parts hinfo
  have hzc : (Builtin.zeroCells z.cells n).toList = List.replicate n z := by
    apply List.ext_getElem?
    intro k
    simp [Builtin.zeroCells, hz, List.getElem?_replicate]
    by_cases hk : k < n
    · simp [hk, Nat.mod_one]
    · simp [hk]
  have hst := run_storeCells_at P b o e (List.replicate n z) 0 xs.toArray w hb (by simp; omega) (by intro v hv; rw [List.mem_replicate] at hv; rw [hv.2]; exact h1)
  simp only [Nat.add_zero] at hst
  cases n with
  | zero => omega
  | succ n => simp [Builtin.clear_, run_underlying ht, zeroValue, typeInfo, hi, hz0, hzc, hst]
theorem run_clear_none (t ty e : TypeId) (ht : P.underlying t = some (.slice e)) (a : Option Addr) (c : Nat) :
    (Builtin.clear_ #[t] ty #[.slice a 0 c]).run P w = .ok (.tuple #[]) w := by
  cases a <;> simp [Builtin.clear_, run_underlying ht]
end

section
variable {P : Program} {w : World}
theorem wpList_app_mid {ops : Array Oper} {rest : List Oper} {o : Oper} {a : Act} {Q : Exit → Act → World → Prop} (s x : Operand) (t e : TypeId) (z : Value) (bytes : Nat)
    (hinfo : (P.info? e).map (fun i => (i.zero, i.size, i.bytes)) = some (some z, 1, bytes)) (ht : P.underlying t = some (.slice e))
    (hgd : o.guard = none) (ho : o.op = .call { callee := .builtin .append, args := #[s, x], argTypes := #[t, t] })
    {b : Nat} {xs : List Value} (hb : Blk w b e xs) (off n cap B c : Nat) (v : Value) (hs : a.eval s = .slice (some ⟨b, off, none⟩) n cap) (hx : a.eval x = .slice (some ⟨B, 0, none⟩) 1 c)
    (hB : Blk w B e [v]) (h1 : v.oneCell' = true) (hroom : n + 1 ≤ cap) (hfit : off + n < xs.length)
    (h : wpList P ops Q rest (a.put o.dst (.slice (some ⟨b, off, none⟩) (n + 1) cap)) (w.setCell ⟨b, off + n, none⟩ v)) : wpList P ops Q (o :: rest) a w := by
  refine wpList_plain hgd fun K hK => ?_
  have hr := run_append_mid (P := P) t o.type e z bytes hinfo ht hb off n cap B c v hB h1 hroom hfit
  unfold Oper.wp execOp
  simp only [ho, resolve, invoke, builtin, Sem.run_bind, Sem.run_pure, Result.andThen_ok, List.map_toArray, List.map_cons, List.map_nil, hs, hx, hr]
  exact hK _ _ h

theorem wpList_clear {ops : Array Oper} {rest : List Oper} {o : Oper} {a : Act} {Q : Exit → Act → World → Prop} (s : Operand) (t e : TypeId) (z : Value) (bytes : Nat)
    (hinfo : (P.info? e).map (fun i => (i.zero, i.size, i.bytes)) = some (some z, 1, bytes)) (hz : z.cells = #[z]) (h1 : z.oneCell' = true) (ht : P.underlying t = some (.slice e))
    (hgd : o.guard = none) (ho : o.op = .call { callee := .builtin .clear, args := #[s], argTypes := #[t] })
    {b : Nat} {xs : List Value} (hb : Blk w b e xs) (off n c : Nat) (ao : Option Addr) (hs : a.eval s = .slice ao n c) (hao : 0 < n → ao = some ⟨b, off, none⟩) (hfit : off + n ≤ xs.length)
    (h : ∀ w1, Blk w1 b e (xs.take off ++ List.replicate n z ++ xs.drop (off + n)) → Keeps (fun k => k = b) w w1 → wpList P ops Q rest (a.put o.dst (.tuple #[])) w1) : wpList P ops Q (o :: rest) a w := by
  refine wpList_plain hgd fun K hK => ?_
  by_cases hn : 0 < n
  · have hr := run_clear (P := P) t o.type e z bytes hinfo hz h1 ht hb off n c hn hfit
    unfold Oper.wp execOp
    simp only [ho, resolve, invoke, builtin, Sem.run_bind, Sem.run_pure, Result.andThen_ok, List.map_toArray, List.map_cons, List.map_nil, hs, hao hn, hr]
    exact hK _ _ (h _ (hb.row _) ((Keeps.refl (fun k => k = b) w).setRow (.inl rfl) _))
  · obtain rfl : n = 0 := by omega
    have hr := run_clear_none (P := P) (w := w) t o.type e ht ao c
    unfold Oper.wp execOp
    simp only [ho, resolve, invoke, builtin, Sem.run_bind, Sem.run_pure, Result.andThen_ok, List.map_toArray, List.map_cons, List.map_nil, hs, hr]
    exact hK _ _ (h _ (by simpa using hb) (Keeps.refl _ _))
end

section
variable {P : Program}
/-- 'append(s, x..)' of at least one element onto a slice that owns its row. -/
theorem wpList_app {w : World} {ops : Array Oper} {rest : List Oper} {o : Oper} {a : Act} {Q : Exit → Act → World → Prop} (s x : Operand) (t : TypeId) (e : TypeId) (z : Value) (size bytes : Nat)
    (hinfo : (P.info? e).map (fun i => (i.zero, i.size, i.bytes)) = some (some z, size, bytes)) (ht : P.underlying t = some (.slice e))
    (hzs : z.cells.size = size) (hsz : 0 < size)
    (hgd : o.guard = none) (ho : o.op = .call { callee := .builtin .append, args := #[s, x], argTypes := #[t, t] })
    (v : Value) (n : Nat) (xs : List Value) (hs : a.eval s = v) (hown : Own w e size v n xs)
    (B m c : Nat) (news : List Value) (hx : a.eval x = .slice (some ⟨B, 0, none⟩) m c) (hl : news.length = m * size) (hnews : Blk w B e news) (h1 : ∀ u ∈ news, u.oneCell' = true)
    (hm : 0 < m) (h63 : n + m ≤ maxLen) (hbytes : (n + m) * bytes ≤ 140737488355328)
    (h : ∀ g cap w', Own w' e size (.slice (some ⟨g, 0, none⟩) (n + m) cap) (n + m) (xs ++ news) → w.grownBy w' v.ownBlock → (v.ownBlock = some g ∨ g = w.heap.size) → g < w'.heap.size → wpList P ops Q rest (a.put o.dst (.slice (some ⟨g, 0, none⟩) (n + m) cap)) w') : wpList P ops Q (o :: rest) a w := by
  obtain ⟨i0, hi, hz0, hz1, hz2⟩ := info_parts hinfo
  exact wpList_append_lies w hgd s x t ho 0 e i0 z size bytes ht hi hz0 hz1 hz2 hzs hsz v n xs hs hown ⟨B, 0, none⟩ m c news hx hl
    (World.news_of_block hnews) h1 hm h63 hbytes (Nat.zero_le _) _ rfl h

/-- A list in new memory, full to its capacity. -/
def Fresh (w w' : World) (T : TypeId) (v : Value) (n : Nat) (xs : List Value) : Prop := ∃ g, v = .slice (some ⟨g, 0, none⟩) n n ∧ w.heap.size ≤ g ∧ Blk w' g T xs ∧ Keeps (fun _ => False) w w'

theorem Own.full {w : World} {T : TypeId} {sz g n : Nat} {xs : List Value} (h : Own w T sz (.slice (some ⟨g, 0, none⟩) n n) n xs) : Blk w g T xs := by
  rcases h.2 with ⟨e, _⟩ | ⟨g', cap, cur, e, _, hh, _, _, hs, ht⟩
  · cases e
  · simp only [Value.slice.injEq, Option.some.injEq, Addr.mk.injEq] at e
    obtain ⟨⟨rfl, _⟩, _, rfl⟩ := e
    unfold Blk
    rw [← ht, List.take_of_length_le (by simp; omega)]
    simpa using hh

theorem wpList_mk {w : World} {ops : Array Oper} {rest : List Oper} {o : Oper} {a : Act} {Q : Exit → Act → World → Prop} (l c : Operand) (t e : TypeId) (z : Value) (size bytes : Nat)
    (hinfo : (P.info? e).map (fun i => (i.zero, i.size, i.bytes)) = some (some z, size, bytes)) (ht : P.underlying t = some (.slice e))
    (hg : o.guard = none) (hop : o.op = Op.makeSlice t l c)
    (kl kc : IntKind) (C : Int) (n : Nat) (hl : a.eval l = .int kl 0) (hc : a.eval c = .int kc C) (hC : C = (n : Int)) (b2 : bytes * n ≤ 281474976710656) (b3 : n ≤ maxLen)
    (hK : ∀ w', Own w' e size (.slice (some ⟨w.heap.size, 0, none⟩) 0 n) 0 [] → Keeps (fun _ => False) w w' → wpList P ops Q rest (a.put o.dst (.slice (some ⟨w.heap.size, 0, none⟩) 0 n)) w') :
    wpList P ops Q (o :: rest) a w := by
  obtain ⟨i0, hi, hz0, hz1, hz2⟩ := info_parts hinfo
  subst hz2
  exact wpList_make_own w hg l c t hop 0 e i0 z size ht hi hz0 hz1 kl kc C n hl hc hC b2 b3 (Nat.zero_le _) fun w' h1 h2 => hK w' h1 ((Keeps.refl _ _).grown h2 (fun k hk => by cases hk))

/-- 'append(make([]T, 0, n), x..)' at its append: all of x, x a slice of n elements. -/
theorem wpList_app_copy {w : World} {ops : Array Oper} {rest : List Oper} {o : Oper} {a : Act} {Q : Exit → Act → World → Prop} (s x : Operand) (t e : TypeId) (z : Value) (size bytes : Nat)
    (hinfo : (P.info? e).map (fun i => (i.zero, i.size, i.bytes)) = some (some z, size, bytes)) (ht : P.underlying t = some (.slice e))
    (hgd : o.guard = none) (ho : o.op = .call { callee := .builtin .append, args := #[s, x], argTypes := #[t, t] })
    (g n : Nat) (hs : a.eval s = .slice (some ⟨g, 0, none⟩) 0 n) (hown : Own w e size (.slice (some ⟨g, 0, none⟩) 0 n) 0 [])
    (ao : Option Addr) (c : Nat) (news : List Value) (hx : a.eval x = .slice ao n c) (hl : news.length = n * size) (hnone : ao = none → n = 0 ∧ c = 0)
    (hc : ∀ ad, ao = some ad → ∀ j u, news[j]? = some u → w.cell? (ad.add j) = some u) (h1 : ∀ u ∈ news, u.oneCell' = true)
    (hK : ∀ w', Blk w' g e news → Keeps (fun b => b = g) w w' → wpList P ops Q rest (a.put o.dst (.slice (some ⟨g, 0, none⟩) n n)) w') :
    wpList P ops Q (o :: rest) a w := by
  obtain ⟨i0, hi, hz0, hz1, hz2⟩ := info_parts hinfo
  refine wpList_append_fits_any w hgd s x t ho 0 e i0 size ht hi hz1 g 0 n [] hs hown ao n c news hx hl hnone hc h1 (by omega) fun w' h2 h3 => ?_
  simp only [Nat.zero_add, List.nil_append] at h2 ⊢
  exact hK w' (Own.full h2) ((Keeps.refl _ _).grown h3 (fun k hk => by cases hk; exact .inl rfl))

theorem wpList_mkfull {w : World} {ops : Array Oper} {rest : List Oper} {o : Oper} {a : Act} {Q : Exit → Act → World → Prop} (l c : Operand) (t e : TypeId) (z : Value) (bytes : Nat)
    (hinfo : (P.info? e).map (fun i => (i.zero, i.size, i.bytes)) = some (some z, 1, bytes)) (ht : P.underlying t = some (.slice e)) (hzc : z.cells = #[z])
    (hg : o.guard = none) (hop : o.op = Op.makeSlice t l c)
    (kl kc : IntKind) (L C : Int) (n : Nat) (hl : a.eval l = .int kl L) (hc : a.eval c = .int kc C) (hL : L = (n : Int)) (hC : C = (n : Int)) (b2 : bytes * n ≤ 281474976710656) (b3 : n ≤ maxLen)
    (hK : ∀ w', Blk w' w.heap.size e (List.replicate n z) → Keeps (fun _ => False) w w' → w'.heap.size = w.heap.size + 1 → wpList P ops Q rest (a.put o.dst (.slice (some ⟨w.heap.size, 0, none⟩) n n)) w') :
    wpList P ops Q (o :: rest) a w := by
  obtain ⟨i0, hi, hz0, hz1, hz2⟩ := info_parts hinfo
  subst hz2
  refine wpList_plain hg fun K hK' => ?_
  have h63 : (n : Int) ≤ 9223372036854775807 := by unfold maxLen at b3; omega
  have hb' : (i0.bytes : Int) * (n : Int) ≤ 281474976710656 := by
    have h : ((i0.bytes * n : Nat) : Int) ≤ 281474976710656 := by omega
    rwa [Int.natCast_mul] at h
  have hr := run_make (P := P) w t e i0 z ht hi hz0 kl kc n n (by omega) (by omega) hb' h63
  simp only [Int.toNat_natCast, hz1, Nat.mul_one] at hr
  subst hL
  subst hC
  have hm : madeCells z.cells n = (List.replicate n z).toArray := by
    apply Array.ext_getElem?
    intro k
    simp [madeCells, hzc]
    by_cases hk : k < n
    · simp [hk, Nat.mod_one]
    · simp [hk]
  rw [hm] at hr
  unfold Oper.wp
  simp [execOp, hop, hl, hc, hr, Result.andThen]
  exact hK' _ _ (hK _ (Blk.new _ _ _) ((Keeps.refl _ _).alloc _) (by simp))
end
end Kw
end Go
