/-
  Operations in states of chunks: append, lists that end with their length, rows of chunks.
-/
import Derived.Test.YtkaecdkmalppcaaDoorSl
namespace Go
namespace Kw
open Go.RowKit

/-- The number in a cell, for measures. -/
def atOf (w : World) (b o : Nat) : Nat := (intOf ((w.cell? ⟨b, o, none⟩).getD undef)).toNat

/-- A list that ends with its length; nil, where it is empty and has no block. -/
def lval (b : Option Nat) (n : Nat) : Value := .slice (b.map fun g => ⟨g, 0, none⟩) n n
def lies (w : World) (T : TypeId) (sz : Nat) (b : Option Nat) (n : Nat) (xs : List Value) : Prop := xs.length = n * sz ∧ match b with | none => n = 0 | some g => Blk w g T xs
theorem lies.keeps {w w' : World} {T : TypeId} {sz n : Nat} {b : Option Nat} {xs : List Value} {F : Nat → Prop} (h : lies w T sz b n xs) (hk : Keeps F w w') (hF : ∀ k, b = some k → ¬ F k) : lies w' T sz b n xs := by
  cases b with
  | none => exact h
  | some g => exact ⟨h.1, hk.blk h.2 (hF g rfl)⟩
theorem lies.lt {w : World} {T : TypeId} {sz n : Nat} {b : Option Nat} {xs : List Value} (h : lies w T sz b n xs) : ∀ k, b = some k → k < w.heap.size := by
  rintro k rfl; exact Blk.lt h.2
def Ch.lst (T : TypeId) (sz : Nat) (b : Option Nat) (n : Nat) (xs : List Value) : Ch :=
  ⟨fun F w => lies w T sz b n xs ∧ ∀ k, F k ↔ b = some k, fun _ _ h k hk => h.1.lt k ((h.2 k).1 hk), fun _ _ _ _ h hk hn => ⟨h.1.keeps hk fun k hb => hn k ((h.2 k).2 hb), h.2⟩⟩
/-- Where the cells of a list lie. -/
theorem lies.src {w : World} {T : TypeId} {sz n : Nat} {b : Option Nat} {xs : List Value} (h : lies w T sz b n xs) : ∀ ad, b.map (fun g => (⟨g, 0, none⟩ : Addr)) = some ad → ∀ (j : Nat) u, xs[j]? = some u → w.cell? (ad.add j) = some u := by
  intro ad had j u hu
  cases b with
  | none => cases had
  | some g => cases had; rw [add_at, Nat.zero_add]; exact h.2.at hu
theorem lies.none {w : World} {T : TypeId} {sz n : Nat} {b : Option Nat} {xs : List Value} (h : lies w T sz b n xs) : b.map (fun g => (⟨g, 0, Option.none⟩ : Addr)) = Option.none → n = 0 ∧ n = 0 := by
  intro e
  cases b with
  | none => exact ⟨h.2, h.2⟩
  | some g => cases e

section
variable {F0 : Nat → Prop} {w0 w w' : World} {cs : List Ch}
theorem St.lst (i : Nat) {T : TypeId} {sz n : Nat} {b : Option Nat} {xs : List Value} (hS : St F0 w0 cs w) (hi : cs.getD i .emp = .lst T sz b n xs := by rfl) : lies w T sz b n xs := by
  obtain ⟨F, h, _⟩ := hS.at i hi; exact h.1
theorem St.setLst (i : Nat) {T : TypeId} {n g : Nat} {xs : List Value} (hS : St F0 w0 cs w) (j : Nat) (u : Value) (hi : cs.getD i .emp = .lst T 1 (some g) n xs := by rfl) : St F0 w0 (cs.set i (.lst T 1 (some g) n (xs.set j u))) (w.setCell ⟨g, j, none⟩ u) :=
  hS.turn i hi fun F h => ⟨F, ⟨⟨by simpa using h.1.1, h.1.2.set j u⟩, h.2⟩, (Keeps.refl F w).setCell (.inl ((h.2 g).2 rfl)) u, fun _ => .inl⟩

theorem atOf_pt (i o : Nat) {p : Nat} {T : TypeId} {xs : List Value} {n : Int} {k : IntKind} (hS : St F0 w0 cs w) (ho : xs[o]? = some (.int k n)) (hi : cs.getD i .emp = .pt p T xs := by rfl) : atOf w p o = n.toNat := by
  unfold atOf; rw [(hS.blk i hi).at ho]; rfl
/-- One of a row of chunks, looked at. -/
theorem St.elemAt (i k : Nat) {ds : List Ch} {c : Ch} (hS : St F0 w0 cs w) (hk : ds.getD k .emp = c) (hi : cs.getD i .emp = .stars ds := by rfl) : ∃ F, c.holds F w := by
  obtain ⟨F, h, _⟩ := hS.at i hi
  obtain ⟨F1, _, h1, _⟩ := Sts.get k (cs := ds) h
  rw [hk] at h1
  exact ⟨F1, h1⟩
/-- One of a row of chunks, taken out. -/
theorem St.elem (i k : Nat) {ds : List Ch} {c : Ch} (hS : St F0 w0 cs w) (hk : ds.getD k .emp = c) (hi : cs.getD i .emp = .stars ds := by rfl) : St F0 w0 (cs.set i (.stars (ds.set k .emp)) ++ [c]) w := by
  obtain ⟨F, h, _, h2⟩ := hS.at i hi
  obtain ⟨F1, F2, k1, k2, k3, k4⟩ := Sts.get k (cs := ds) h
  rw [hk] at k1
  refine h2 (St.of ?_)
  refine ⟨F2, F1, k2, Sts.one k1, k3.symm, fun b => by rw [k4 b]; exact or_comm⟩
/-- And laid back. -/
theorem St.unelem (i j k : Nat) {ds : List Ch} {c : Ch} (hS : St F0 w0 cs w) (hij : i ≠ j) (he : ds.getD k .emp = .emp) (hi : cs.getD i .emp = .stars ds := by rfl) (hj : cs.getD j .emp = c := by rfl) : St F0 w0 ((cs.set i (.stars (ds.set k c))).set j .emp) w := by
  obtain ⟨F, h, _, _, h2⟩ := hS.sel [i, j] (by simp [hij])
  simp only [Kw.sel, hi, set_getD_ne _ hij, hj] at h
  obtain ⟨F1, F2, h1, h3, h4, h5⟩ := h
  have h3 := Sts.of_one h3
  obtain ⟨G, g1, g2⟩ := Sts.put k (cs := ds) h1 he h3 h4.symm
  have := h2 (w' := w) (post := [.stars (ds.set k c), .emp]) ⟨G, ⟨G, fun _ => False, g1, ⟨fun _ => False, fun _ => False, fun _ => id, Sts.nil w, fun _ h => h.elim, fun _ => ⟨.inl, fun h => h.elim id id⟩⟩, fun _ _ => id, fun _ => ⟨.inl, fun h => h.elim id False.elim⟩⟩, Keeps.refl _ _, fun b hb => .inl ((h5 b).2 ((g2 b hb).symm))⟩
  have e : Kw.putL [i, j] (blank [i, j] cs) [.stars (ds.set k c), .emp] = (cs.set i (.stars (ds.set k c))).set j .emp := by
    simp only [Kw.putL, blank]
    rw [List.set_comm _ _ hij, List.set_set, List.set_comm _ _ (Ne.symm hij), List.set_set]
  rw [e] at this
  exact this
/-- One more in a row of chunks. -/
theorem St.snoc (i j : Nat) {ds : List Ch} {c : Ch} (hS : St F0 w0 cs w) (hij : i ≠ j := by decide) (hi : cs.getD i .emp = .stars ds := by rfl) (hj : cs.getD j .emp = c := by rfl) : St F0 w0 ((cs.set i (.stars (ds ++ [c]))).set j .emp) w := by
  obtain ⟨F, h, _, _, h2⟩ := hS.sel [i, j] (by simp [hij])
  simp only [Kw.sel, hi, set_getD_ne _ hij, hj] at h
  obtain ⟨F1, F2, h1, h3, h4, h5⟩ := h
  have h3 := Sts.of_one h3
  have g1 : Sts (ds ++ [c]) _ w := Sts.app h1 (Sts.one h3) h4
  have := h2 (w' := w) (post := [.stars (ds ++ [c]), .emp]) ⟨_, ⟨_, fun _ => False, g1, ⟨fun _ => False, fun _ => False, fun _ => id, Sts.nil w, fun _ h => h.elim, fun _ => ⟨.inl, fun h => h.elim id id⟩⟩, fun _ _ => id, fun _ => ⟨.inl, fun h => h.elim id False.elim⟩⟩, Keeps.refl _ _, fun b hb => .inl ((h5 b).2 hb)⟩
  have e : Kw.putL [i, j] (blank [i, j] cs) [.stars (ds ++ [c]), .emp] = (cs.set i (.stars (ds ++ [c]))).set j .emp := by
    simp only [Kw.putL, blank]
    rw [List.set_comm _ _ hij, List.set_set, List.set_comm _ _ (Ne.symm hij), List.set_set]
  rw [e] at this
  exact this
end

section
variable {P : Program} {F0 : Nat → Prop} {w0 w : World} {cs : List Ch}
/-- 'append(s, x..)' of at least one element, s the slice of an owned row, x of a block. -/
theorem wpList_appS {ops : Array Oper} {rest : List Oper} {o : Oper} {a : Act} {Q : Exit → Act → World → Prop} (i j : Nat) (s x : Operand) (t : TypeId) (e : TypeId) (z : Value) (size bytes : Nat)
    (hinfo : (P.info? e).map (fun i => (i.zero, i.size, i.bytes)) = some (some z, size, bytes)) (ht : P.underlying t = some (.slice e))
    (hzs : z.cells.size = size) (hsz : 0 < size)
    (hgd : o.guard = none) (ho : o.op = .call { callee := .builtin .append, args := #[s, x], argTypes := #[t, t] })
    {v : Value} {n m B c : Nat} {xs news : List Value} (hS : St F0 w0 cs w) (hi : cs.getD i .emp = .row e size v n xs) (hj : cs.getD j .emp = .pt B e news)
    (hs : a.eval s = v) (hx : a.eval x = .slice (some ⟨B, 0, none⟩) m c) (hl : news.length = m * size) (h1 : ∀ u ∈ news, u.oneCell' = true)
    (hm : 0 < m) (h63 : n + m ≤ maxLen) (hbytes : (n + m) * bytes ≤ 140737488355328)
    (h : ∀ g cap w', St F0 w0 (cs.set i (.row e size (.slice (some ⟨g, 0, none⟩) (n + m) cap) (n + m) (xs ++ news))) w' → (v.ownBlock = some g ∨ g = w.heap.size) → wpList P ops Q rest (a.put o.dst (.slice (some ⟨g, 0, none⟩) (n + m) cap)) w') : wpList P ops Q (o :: rest) a w := by
  refine wpList_app s x t e z size bytes hinfo ht hzs hsz hgd ho v n xs hs (hS.own i hi) B m c news hx hl (hS.blk j hj) h1 hm h63 hbytes fun g cap w' k1 k2 k3 _ => ?_
  refine h g cap w' (hS.grown i k2 k1 (fun b hb => ?_) hi) k3
  cases hb
  rcases k3 with k3 | k3
  · exact .inl k3
  · exact .inr (Nat.le_of_eq k3.symm)
end

/-- 'append([]T(nil), x..)': whatever x reads. -/
theorem wpList_app_nil {P : Program} {w : World} {ops : Array Oper} {rest : List Oper} {o : Oper} {a : Act} {Q : Exit → Act → World → Prop} (s x : Operand) (t : TypeId) (e : TypeId) (z : Value) (size bytes : Nat)
    (hinfo : (P.info? e).map (fun i => (i.zero, i.size, i.bytes)) = some (some z, size, bytes)) (ht : P.underlying t = some (.slice e)) (hzs : z.cells.size = size) (hsz : 0 < size)
    (hgd : o.guard = none) (ho : o.op = .call { callee := .builtin .append, args := #[s, x], argTypes := #[t, t] }) (hs : a.eval s = .slice none 0 0)
    (ao : Option Addr) (m c : Nat) (news : List Value) (hx : a.eval x = .slice ao m c) (hl : news.length = m * size) (hnone : ao = none → m = 0 ∧ c = 0)
    (hc : ∀ ad, ao = some ad → ∀ j u, news[j]? = some u → w.cell? (ad.add j) = some u) (h1 : ∀ u ∈ news, u.oneCell' = true) (h63 : m ≤ maxLen) (hbytes : m * bytes ≤ 140737488355328)
    (hK : ∀ ra rc w', Vec w' e size (.slice ra m rc) m news → Keeps (fun _ => False) w w' → (∀ b, (Value.slice ra m rc).ownBlock = some b → w.heap.size ≤ b) → wpList P ops Q rest (a.put o.dst (.slice ra m rc)) w') :
    wpList P ops Q (o :: rest) a w := by
  obtain ⟨i0, hi, hz0, hz1, hz2⟩ := info_parts hinfo
  by_cases hm : m = 0
  · subst hm
    have hnews : news = [] := List.eq_nil_of_length_eq_zero (by simpa using hl)
    subst hnews
    have hr : (Builtin.append_ #[t, t] o.type #[.slice none 0 0, .slice ao 0 c]).run P w = .ok (.slice none 0 0) w := by
      cases ao with
      | none =>
        obtain ⟨_, rfl⟩ := hnone rfl
        exact run_append_owned_none w 0 t o.type e i0 size ht hi (.slice none 0 0) 0 [] ⟨by simp, .inl ⟨rfl, rfl⟩⟩
      | some ad => simp [Builtin.append_, run_underlying ht, sizeOf, typeInfo, hi, Builtin.lenOf, Builtin.firstCells, loadCells, loadCellsFrom]
    refine wpList_plain hgd fun K hK' => ?_
    unfold Oper.wp execOp
    simp only [ho, resolve, invoke, builtin, Sem.run_bind, Sem.run_pure, Result.andThen_ok, List.map_toArray, List.map_cons, List.map_nil, hs, hx, hr]
    exact hK' _ _ (hK none 0 w ⟨by simp, .inl ⟨rfl, rfl⟩⟩ (Keeps.refl _ _) (fun b hb => by cases hb))
  · obtain ⟨ad, rfl⟩ : ∃ ad, ao = some ad := by
      cases ao with
      | none => exact absurd (hnone rfl).1 hm
      | some ad => exact ⟨ad, rfl⟩
    refine wpList_append_lies w hgd s x t ho 0 e i0 z size bytes ht hi hz0 hz1 hz2 hzs hsz _ 0 [] hs ⟨by simp, .inl ⟨rfl, rfl⟩⟩ ad m c news hx hl (hc ad rfl) h1 (by omega) (by omega) (by rw [Nat.zero_add]; exact hbytes) (Nat.zero_le _) _ rfl fun g' cap w' h2 h3 h4 _ => ?_
    simp only [Nat.zero_add, List.nil_append] at h2 ⊢
    refine hK _ cap w' (Vec.of_own h2) ((Keeps.refl _ _).grown h3 (fun k hk => by cases hk)) (fun b hb => ?_)
    cases hb
    rcases h4 with h4 | h4
    · cases h4
    · rw [h4]; exact Nat.le_refl _

section
variable {P : Program} {F0 : Nat → Prop} {w0 w : World} {cs : List Ch}
/-- 'var x T' of a type of many cells. -/
theorem wpList_allocS {ops : Array Oper} {rest : List Oper} {o : Oper} {a : Act} {Q : Exit → Act → World → Prop} (T : TypeId) (z : Value) (zs : List Value) (hgd : o.guard = none) (ho : o.op = .alloc T)
    (hi : (P.info? T).map (fun i => i.zero) = some (some z)) (hz : z.cells = zs.toArray) (hS : St F0 w0 cs w)
    (h : ∀ g w', St F0 w0 (cs ++ [.pt g T zs]) w' → wpList P ops Q rest (a.put o.dst (.pointer (some ⟨g, 0, none⟩))) w') : wpList P ops Q (o :: rest) a w := by
  refine wpList_plain hgd fun K hK => ?_
  unfold Oper.wp execOp
  cases hq : P.info? T with
  | none => simp [hq] at hi
  | some i =>
    simp only [hq, Option.map_some, Option.some.injEq] at hi
    have := h w.heap.size _ (hS.new T zs)
    simp [ho, Instr.alloc, zeroValue, typeInfo, hq, hi, newVar, newRow, hz, Result.andThen]
    exact hK _ _ this
/-- A whole variable of many cells is written. -/
theorem wpList_storeS {ops : Array Oper} {rest : List Oper} {o : Oper} {a : Act} {Q : Exit → Act → World → Prop} (i : Nat) (ty : TypeId) (x v : Operand) (hgd : o.guard = none) (ho : o.op = .store ty x v)
    {g : Nat} {T : TypeId} {old : List Value} (new : List Value) (hS : St F0 w0 cs w) (hc : cs.getD i .emp = .pt g T old) (hx : a.eval x = .pointer (some ⟨g, 0, none⟩)) (hv : a.eval v = .agg new.toArray)
    (hi : (P.info? ty).map (·.size) = some new.length) (hl : old.length = new.length) (h1 : ∀ u ∈ new, u.oneCell' = true)
    (h : ∀ w', St F0 w0 (cs.set i (.pt g T new)) w' → wpList P ops Q rest (a.put o.dst undef) w') : wpList P ops Q (o :: rest) a w := by
  refine wpList_plain hgd fun K hK => ?_
  have hb := hS.blk i hc
  have hr := run_storeVar_row (P := P) w g T ty old.toArray new.toArray hb (by simpa using hi) (by simpa using hl) (by simpa using h1)
  have hS' : St F0 w0 (cs.set i (.pt g T new)) (w.setRow g new.toArray) := hS.turn i hc fun F h => ⟨F, ⟨h.1.row new, h.2⟩, (Keeps.refl F w).setRow (.inl ((h.2 g).2 rfl)) _, fun _ => .inl⟩
  unfold Oper.wp execOp
  simp only [ho, hx, hv, Instr.storeAt, Instr.sureAddr, Sem.run_bind, Sem.run_pure, Result.andThen_ok, hr]
  exact hK _ _ (h _ hS')
/-- A whole variable of many cells is read. -/
theorem wpList_loadS {ops : Array Oper} {rest : List Oper} {o : Oper} {a : Act} {Q : Exit → Act → World → Prop} (i : Nat) (ty : TypeId) (x : Operand) (d : TypeDesc) (hgd : o.guard = none) (ho : o.op = .load ty x)
    {g : Nat} {T : TypeId} {xs : List Value} (hS : St F0 w0 cs w) (hc : cs.getD i .emp = .pt g T xs) (hx : a.eval x = .pointer (some ⟨g, 0, none⟩))
    (hu : P.underlying ty = some d) (hd : (match d with | .struct _ | .array _ _ => true | _ => false) = true) (hi : (P.info? ty).map (·.size) = some xs.length)
    (h : wpList P ops Q rest (a.put o.dst (.agg xs.toArray)) w) : wpList P ops Q (o :: rest) a w :=
  wpList_load_row hgd ty x ho g hx T xs.toArray (0, 0) d (hS.blk i hc) hu hd (by simpa using hi) h
end
end Kw
end Go
