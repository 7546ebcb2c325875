/-
  A slice that owns its row, or that is cut to its length: it reads, is written, and grows.
-/
import Derived.Test.YtkaecdkmalppcaaDoorKw
namespace Go
namespace Kw
open Go.RowKit

/-- The value reads xs; what lies behind its length is either its own or out of its reach. -/
def Vec (w : World) (T : TypeId) (sz : Nat) (v : Value) (n : Nat) (xs : List Value) : Prop :=
  xs.length = n * sz ∧ ((v = .slice none 0 0 ∧ n = 0) ∨ ∃ g cap cur, v = .slice (some ⟨g, 0, none⟩) n cap ∧ w.heap[g]? = some (.cells cur T (0, 0)) ∧ n ≤ cap ∧ cap ≤ maxLen ∧ (cur.size = cap * sz ∨ (cap = n ∧ n * sz ≤ cur.size)) ∧ cur.toList.take (n * sz) = xs)

section
variable {w w' : World} {T : TypeId} {sz n : Nat} {v : Value} {xs : List Value}
theorem Vec.of_own (h : Own w T sz v n xs) : Vec w T sz v n xs := by
  obtain ⟨h1, h2⟩ := h
  refine ⟨h1, ?_⟩
  rcases h2 with h2 | ⟨g, cap, cur, hv, _, hh, hn, hm, hs, ht⟩
  · exact .inl h2
  · exact .inr ⟨g, cap, cur, hv, hh, hn, hm, .inl hs, ht⟩
theorem Vec.keeps {F : Nat → Prop} (h : Vec w T sz v n xs) (hk : Keeps F w w') (hn : ∀ b, v.ownBlock = some b → ¬ F b) : Vec w' T sz v n xs := by
  obtain ⟨h1, h2⟩ := h
  refine ⟨h1, ?_⟩
  rcases h2 with h2 | ⟨g, cap, cur, rfl, hg, hr⟩
  · exact .inl h2
  · have hlt : g < w.heap.size := by
      rcases Nat.lt_or_ge g w.heap.size with h' | h'
      · exact h'
      · rw [Array.getElem?_eq_none h'] at hg; cases hg
    exact .inr ⟨g, cap, cur, rfl, (hk.block g hlt (hn g rfl)).trans hg, hr⟩
theorem Vec.far (h : Vec w T sz v n xs) {a : Addr} (hn : v.ownBlock ≠ some a.block) (u : Value) : Vec (w.setCell a u) T sz v n xs :=
  h.keeps (F := fun b => b = a.block) ((Keeps.refl (fun b => b = a.block) w).setCell (.inl rfl) _) fun b hb e => hn (by rw [hb, e])
theorem Vec.alloc (h : Vec w T sz v n xs) (o : Obj) : Vec (w.alloc o) T sz v n xs := h.keeps ((Keeps.refl (fun _ => False) w).alloc o) fun _ _ => id
theorem Vec.drew (h : Vec w T sz v n xs) : Vec w.drew T sz v n xs := h
theorem Vec.drewN (h : Vec w T sz v n xs) (k : Nat) : Vec (w.drewN k) T sz v n xs := h
theorem Vec.lt (h : Vec w T sz v n xs) : ∀ b, v.ownBlock = some b → b < w.heap.size := fun b hb => by
  rcases h.2 with ⟨rfl, _⟩ | ⟨g, cap, cur, rfl, hg, _⟩
  · cases hb
  · obtain rfl : g = b := by simpa [Value.ownBlock] using hb
    exact (Array.getElem?_eq_some_iff.1 hg).1
theorem Vec.neT (h : Vec w T sz v n xs) {b : Nat} {U : TypeId} {ys : List Value} (hb : Blk w b U ys) (hne : T ≠ U) : v.ownBlock ≠ some b := by
  rcases h.2 with ⟨rfl, _⟩ | ⟨g', cap, cur, rfl, hh, _⟩
  · intro e; cases e
  · intro e
    obtain rfl : g' = b := by simpa [Value.ownBlock] using e
    unfold Blk at hb; rw [hb] at hh
    exact hne (Obj.cells.inj (Option.some.inj hh)).2.1.symm
theorem Vec.neV {U : TypeId} {sz' n' : Nat} {u : Value} {ys : List Value} (h : Vec w T sz v n xs) (h' : Vec w U sz' u n' ys) (hne : T ≠ U) : ∀ b, v.ownBlock = some b → u.ownBlock ≠ some b := by
  intro b hb hb'
  rcases h.2 with ⟨rfl, _⟩ | ⟨g, cap, cur, rfl, hh, _⟩
  · cases hb
  · rcases h'.2 with ⟨rfl, _⟩ | ⟨g', cap', cur', rfl, hh', _⟩
    · cases hb'
    · obtain rfl : g = b := by simpa [Value.ownBlock] using hb
      obtain rfl : g' = g := by simpa [Value.ownBlock] using hb'
      rw [hh] at hh'
      exact hne (Obj.cells.inj (Option.some.inj hh')).2.1
theorem Vec.cells' (h : Vec w T sz v n xs) {g : Nat} (hg : v.ownBlock = some g) {j : Nat} {u : Value} (hu : xs[j]? = some u) : w.cell? ⟨g, j, none⟩ = some u := by
  rcases h.2 with ⟨rfl, _⟩ | ⟨g', cap, cur, rfl, hh, _, _, _, ht⟩
  · cases hg
  · obtain rfl : g' = g := by simpa [Value.ownBlock] using hg
    rw [← ht, List.getElem?_take] at hu
    split at hu
    · simp only [World.cell?, hh]; simpa using hu
    · cases hu
theorem Vec.fz (h : Vec w T sz v n xs) {g : Nat} (hg : v.ownBlock = some g) (j : Nat) : w.frozen? ⟨g, j, none⟩ = false := by
  rcases h.2 with ⟨rfl, _⟩ | ⟨g', cap, cur, rfl, hh, _⟩
  · cases hg
  · obtain rfl : g' = g := by simpa [Value.ownBlock] using hg
    simp [World.frozen?, hh]
theorem Vec.form (h : Vec w T sz v n xs) (hn : 0 < n) : ∃ g cap, v = .slice (some ⟨g, 0, none⟩) n cap ∧ g < w.heap.size ∧ n ≤ cap := by
  rcases h.2 with ⟨_, rfl⟩ | ⟨g, cap, cur, hv, hg, hc, _⟩
  · omega
  · exact ⟨g, cap, hv, (Array.getElem?_eq_some_iff.1 hg).1, hc⟩
theorem Vec.shape (h : Vec w T sz v n xs) : ∃ a c, v = .slice a n c ∧ n ≤ c := by
  rcases h.2 with ⟨rfl, rfl⟩ | ⟨g, cap, cur, rfl, hh, hn, _⟩
  · exact ⟨none, 0, rfl, Nat.le_refl _⟩
  · exact ⟨_, cap, rfl, hn⟩
/-- The value behind 'xs[:k:k]'. -/
theorem Vec.cut3 {g cap : Nat} (h : Vec w T sz (.slice (some ⟨g, 0, none⟩) n cap) n xs) (k : Nat) (hk : k ≤ n) : Vec w T sz (.slice (some ⟨g, 0, none⟩) k k) k (xs.take (k * sz)) := by
  obtain ⟨h1, h2⟩ := h
  have hle : k * sz ≤ n * sz := Nat.mul_le_mul_right _ hk
  refine ⟨by rw [List.length_take, h1]; omega, ?_⟩
  rcases h2 with ⟨e, _⟩ | ⟨g', cap', cur, e, hg, hn, hm, hs, ht⟩
  · cases e
  · cases e
    refine .inr ⟨g, k, cur, rfl, hg, Nat.le_refl _, by omega, .inr ⟨rfl, ?_⟩, ?_⟩
    · rcases hs with hs | ⟨_, hs⟩
      · have := Nat.mul_le_mul_right sz hn; omega
      · omega
    · rw [← ht, List.take_take]; congr 1; omega
theorem Vec.setIn (h : Vec w T 1 v n xs) {g : Nat} (hg : v.ownBlock = some g) (j : Nat) (u : Value) : Vec (w.setCell ⟨g, j, none⟩ u) T 1 v n (xs.set j u) := by
  obtain ⟨h1, h2⟩ := h
  refine ⟨by simp [h1], ?_⟩
  rcases h2 with ⟨rfl, _⟩ | ⟨g', cap, cur, rfl, hh, hn, hm, hs, ht⟩
  · cases hg
  · obtain rfl : g' = g := by simpa [Value.ownBlock] using hg
    refine .inr ⟨g', cap, cur.setIfInBounds j u, rfl, ?_, hn, hm, by simpa using hs, ?_⟩
    · have hB : Blk w g' T cur.toList := by unfold Blk; simpa using hh
      have := hB.set j u
      unfold Blk at this
      rw [this]; simp [← List.setIfInBounds_toArray]
    · rw [← ht]; simp [List.take_set]
end

theorem zeros_size (z : Array Value) (n : Nat) : (Builtin.zeroCells z n).size = n * z.size := by simp [Builtin.zeroCells]

section
variable {P : Program}
/-- 'append' of at least one element onto such a slice. -/
theorem wpList_vec {w : World} {ops : Array Oper} {rest : List Oper} {o : Oper} {a : Act} {Q : Exit → Act → World → Prop} (s x : Operand) (t : TypeId) (e : TypeId) (z : Value) (size bytes : Nat)
    (hinfo : (P.info? e).map (fun i => (i.zero, i.size, i.bytes)) = some (some z, size, bytes)) (ht : P.underlying t = some (.slice e))
    (hzs : z.cells.size = size) (hsz : 0 < size)
    (hgd : o.guard = none) (ho : o.op = .call { callee := .builtin .append, args := #[s, x], argTypes := #[t, t] })
    (v : Value) (n : Nat) (xs : List Value) (hs : a.eval s = v) (hv : Vec w e size v n xs)
    (B m c : Nat) (news : List Value) (hx : a.eval x = .slice (some ⟨B, 0, none⟩) m c) (hl : news.length = m * size) (hnews : Blk w B e news) (h1 : ∀ u ∈ news, u.oneCell' = true)
    (hm : 0 < m) (h63 : n + m ≤ maxLen) (hbytes : (n + m) * bytes ≤ 140737488355328)
    (h : ∀ g cap w', Own w' e size (.slice (some ⟨g, 0, none⟩) (n + m) cap) (n + m) (xs ++ news) → Keeps (fun b => v.ownBlock = some b) w w' → (v.ownBlock = some g ∨ g = w.heap.size) → g < w'.heap.size → wpList P ops Q rest (a.put o.dst (.slice (some ⟨g, 0, none⟩) (n + m) cap)) w') : wpList P ops Q (o :: rest) a w := by
  have hcase : Own w e size v n xs ∨ ∃ g cur, v = .slice (some ⟨g, 0, none⟩) n n ∧ w.heap[g]? = some (.cells cur e (0, 0)) ∧ n * size ≤ cur.size ∧ cur.toList.take (n * size) = xs := by
    obtain ⟨h1, h2⟩ := hv
    rcases h2 with h2 | ⟨g, cap, cur, rfl, hg, hn, hm, hs | ⟨rfl, hs⟩, ht⟩
    · exact .inl ⟨h1, .inl h2⟩
    · exact .inl ⟨h1, .inr ⟨g, cap, cur, rfl, Nat.zero_le _, hg, hn, hm, hs, ht⟩⟩
    · exact .inr ⟨g, cur, rfl, hg, hs, ht⟩
  rcases hcase with hown | ⟨g, cur, rfl, hg, hcs, hct⟩
  · refine wpList_app s x t e z size bytes hinfo ht hzs hsz hgd ho v n xs hs hown B m c news hx hl hnews h1 hm h63 hbytes fun g cap w' h2 h3 h4 h5 => ?_
    exact h g cap w' h2 ((Keeps.refl _ _).grown h3 fun k hk => .inl hk) h4 h5
  · obtain ⟨i, hi, hz0, hz1, hz2⟩ := info_parts hinfo
    have hxl : xs.length = n * size := hv.1
    have holds : ∀ j u, xs[j]? = some u → w.cell? ((⟨g, 0, none⟩ : Addr).add j) = some u := fun j u hu => by
      rw [add_at, Nat.zero_add]; exact hv.cells' (g := g) rfl hu
    have h63' : n + m ≤ 9223372036854775807 := by simp only [maxLen] at h63; omega
    have hr := run_append_grow (P := P) w t o.type e i z ht hi hz0 ⟨g, 0, none⟩ n n xs (by rw [hz1]; exact hxl) holds ⟨B, 0, none⟩ m c news (by rw [hz1]; exact hl) (World.news_of_block hnews) (by omega) (by omega) (growslice_fits (by omega) (by rw [hz2]; exact hbytes))
    refine wpList_plain hgd fun K hK => ?_
    unfold Oper.wp execOp
    simp only [ho, resolve, invoke, builtin, Sem.run_bind, Sem.run_pure, Result.andThen_ok, List.map_toArray, List.map_cons, List.map_nil, hs, hx, hr]
    refine hK _ _ (h w.heap.size _ _ ?_ ?_ (.inr rfl) (by simp))
    · have hge := grownCap_ge w (n + m) n e
      have hcm : grownCap w (n + m) n e ≤ maxLen := grownCap_le_maxLen w (n + m) n e h63
      refine ⟨by rw [List.length_append, hxl, hl, ← Nat.add_mul], .inr ⟨w.heap.size, _, _, rfl, Nat.zero_le _, heap_alloc_new w.drew _, hge, hcm, ?_, ?_⟩⟩
      · simp only [Array.size_append, List.size_toArray, zeros_size, hzs, hxl, hl, ← Nat.add_mul]
        congr 1; omega
      · simp only [Array.toList_append, List.append_assoc]
        rw [← List.append_assoc, show (n + m) * size = (xs ++ news).length by rw [List.length_append, hxl, hl, ← Nat.add_mul]]
        exact List.take_left
    · exact (Keeps.refl _ w).drew.alloc _
end
end Kw
end Go
