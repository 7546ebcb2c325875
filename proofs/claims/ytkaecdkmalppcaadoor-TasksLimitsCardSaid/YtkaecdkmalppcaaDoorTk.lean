/-
  Package tasks, walked: the table in memory, and what only reads it.
-/
import Derived.Test.YtkaecdkmalppcaaDoorTt
namespace Go.Proofs.YtkaecdkmalppcaaDoor
open Go.RowKit Go.Kw Go.Kreg Go.Tm

abbrev TTb : Nat := 66
abbrev TTk : Nat := 30
abbrev TNd : Nat := 32
abbrev TNds : Nat := 28
abbrev TI' : Nat := 3
theorem infoNd : (Tryd.prog.info? TNd).map (fun i => (i.zero, i.size, i.bytes)) = some (some (.agg #[.int .i64 0, .int .i64 0]), 2, 16) := by kernel_rfl
def intsC (l : List Int) : List Value := l.map fun n => .int .i64 n
theorem intsC_len (l : List Int) : (intsC l).length = l.length := by simp [intsC]
theorem intsC_at {l : List Int} {i : Nat} {n : Int} (h : l[i]? = some n) : (intsC l)[i]? = some (.int .i64 n) := by simp [intsC, h]
theorem intsC_one (l : List Int) : ∀ u ∈ intsC l, u.oneCell' = true := by
  intro u hu; simp only [intsC, List.mem_map] at hu; obtain ⟨_, _, rfl⟩ := hu; rfl
def needsC (l : List Need) : List Value := l.flatMap fun n => [.int .i64 n.res, .int .i64 n.units]
theorem needsC_len (l : List Need) : (needsC l).length = l.length * 2 := by
  induction l with
  | nil => rfl
  | cons n l ih => simp only [needsC, List.flatMap_cons, List.length_append, List.length_cons, List.length_nil] at *; omega
theorem needsC_app (l r : List Need) : needsC (l ++ r) = needsC l ++ needsC r := by simp [needsC]
theorem needsC_one (l : List Need) : ∀ u ∈ needsC l, u.oneCell' = true := by
  intro u hu
  simp only [needsC, List.mem_flatMap, List.mem_cons, List.not_mem_nil, or_false] at hu
  obtain ⟨r, _, rfl | rfl⟩ := hu <;> rfl
theorem needsC_at {l : List Need} {i : Nat} {n : Need} (h : l[i]? = some n) : (needsC l)[i * 2]? = some (.int .i64 n.res) ∧ (needsC l)[i * 2 + 1]? = some (.int .i64 n.units) := by
  have hs : l = l.take i ++ (n :: l.drop (i + 1)) := by
    have := (List.getElem?_eq_some_iff.1 h)
    rw [← this.2, List.getElem_cons_drop, List.take_append_drop]
  have hl : (needsC (l.take i)).length = i * 2 := by
    rw [needsC_len, List.length_take]; have := (List.getElem?_eq_some_iff.1 h).1; omega
  have e : needsC l = needsC (l.take i) ++ ([.int .i64 n.res, .int .i64 n.units] ++ needsC (l.drop (i + 1))) := by
    conv => lhs; rw [hs]
    simp [needsC]
  rw [e]
  constructor
  all_goals
    rw [List.getElem?_append_right (by omega), hl]
    simp

def taskV (t : Task) (nd : Value) : Value := .agg #[.string t.name, .int .i64 t.level, .int .i64 t.frame, nd, .string t.code, .int .i64 t.period, .int .i64 t.first, .int .i64 t.gap]
def rowC (t : Task) (x : Value × Value) : List Value := [.string t.name, .int .i64 t.level, .int .i64 t.frame, x.1, .string t.code, .int .i64 t.period, .int .i64 t.first, .int .i64 t.gap, x.2]
def rowsC : List Task → List (Value × Value) → List Value
  | t :: ts, x :: xs => rowC t x ++ rowsC ts xs
  | _, _ => []
theorem rowsC_len : ∀ {ts : List Task} {xs : List (Value × Value)}, xs.length = ts.length → (rowsC ts xs).length = ts.length * 9
  | [], [], _ => rfl
  | t :: ts, x :: xs, h => by
    simp only [rowsC, List.length_append, rowC, List.length_cons, List.length_nil] at *
    rw [rowsC_len (by omega)]; omega
theorem rowsC_app : ∀ {ts : List Task} {xs : List (Value × Value)} (t : Task) (x : Value × Value), xs.length = ts.length → rowsC (ts ++ [t]) (xs ++ [x]) = rowsC ts xs ++ rowC t x
  | [], [], t, x, _ => by simp [rowsC]
  | u :: ts, y :: xs, t, x, h => by
    simp only [List.cons_append, rowsC, List.append_assoc]
    rw [rowsC_app t x (by simpa using h)]
theorem rowsC_at : ∀ {ts : List Task} {xs : List (Value × Value)} {i : Nat} {t : Task} {x : Value × Value}, ts[i]? = some t → xs[i]? = some x → ∀ j, j < 9 → (rowsC ts xs)[i * 9 + j]? = (rowC t x)[j]?
  | u :: ts, y :: xs, 0, t, x, h, k, j, hj => by
    obtain rfl : u = t := by simpa using h
    obtain rfl : y = x := by simpa using k
    simp only [rowsC, Nat.zero_mul, Nat.zero_add]
    rw [List.getElem?_append_left (by simp [rowC]; omega)]
  | u :: ts, y :: xs, i + 1, t, x, h, k, j, hj => by
    simp only [rowsC]
    rw [List.getElem?_append_right (by simp [rowC]; omega), ← rowsC_at (ts := ts) (xs := xs) (by simpa using h) (by simpa using k) j hj]
    congr 1; simp [rowC]; omega
  | [], _, i, t, x, h, _, _, _ => by simp at h
  | _ :: _, [], i, t, x, _, k, _, _ => by simp at k

def taskCh (t : Task) (x : Value × Value) : Ch := .stars [.row TNd 2 x.1 t.needs.length (needsC t.needs), .row TOp 4 x.2 (prog t).1.length (opsC (prog t).1)]
def tasksCh : List Task → List (Value × Value) → List Ch
  | t :: ts, x :: xs => taskCh t x :: tasksCh ts xs
  | _, _ => []
theorem tasksCh_app : ∀ {ts : List Task} {xs : List (Value × Value)} (t : Task) (x : Value × Value), xs.length = ts.length → tasksCh (ts ++ [t]) (xs ++ [x]) = tasksCh ts xs ++ [taskCh t x]
  | [], [], t, x, _ => by simp [tasksCh]
  | u :: ts, y :: xs, t, x, h => by
    simp only [List.cons_append, tasksCh]
    rw [tasksCh_app t x (by simpa using h)]
theorem tasksCh_at : ∀ {ts : List Task} {xs : List (Value × Value)} {i : Nat} {t : Task} {x : Value × Value}, ts[i]? = some t → xs[i]? = some x → (tasksCh ts xs).getD i .emp = taskCh t x
  | u :: ts, y :: xs, 0, t, x, h, k => by
    obtain rfl : u = t := by simpa using h
    obtain rfl : y = x := by simpa using k
    rfl
  | u :: ts, y :: xs, i + 1, t, x, h, k => by
    simp only [tasksCh, List.getD_cons_succ]
    exact tasksCh_at (by simpa using h) (by simpa using k)
  | [], _, i, t, x, h, _ => by simp at h
  | _ :: _, [], i, t, x, _, k => by simp at k

/-- What stands in the table's cells. -/
structure TabX where
  uv : Value
  rv : Value
  nv : Value
  xs : List (Value × Value)
  ns : List Tn.Row
structure TabOk (m : TM) (x : TabX) : Prop where
  ok : m.Ok
  len : x.xs.length = m.ts.length
  names : Tn.Rows (find m.ts) x.ns
  nlen : x.ns.length = m.ts.length
def tabCs (p : Nat) (m : TM) (x : TabX) : List Ch :=
  [.pt p TTb [.int .i64 m.words, x.uv, x.rv, x.nv], .row TI' 1 x.uv m.units.length (intsC m.units), .row TR 9 x.rv m.ts.length (rowsC m.ts x.xs), .row TN 2 x.nv x.ns.length (namesC x.ns), .stars (tasksCh m.ts x.xs), .pr (TabOk m x)]
def tabC (p : Nat) (m : TM) : Ch := .ex fun x : TabX => .stars (tabCs p m x)

/-- The table, for readers. -/
structure TabAt (w : World) (p : Nat) (m : TM) (x : TabX) : Prop where
  blk : Blk w p TTb [.int .i64 m.words, x.uv, x.rv, x.nv]
  units : Own w TI' 1 x.uv m.units.length (intsC m.units)
  rows : Own w TR 9 x.rv m.ts.length (rowsC m.ts x.xs)
  names : Own w TN 2 x.nv x.ns.length (namesC x.ns)
  each : ∀ (i : Nat) t, m.ts[i]? = some t → ∃ nd st, x.xs[i]? = some (nd, st) ∧ Own w TNd 2 nd t.needs.length (needsC t.needs) ∧ Own w TOp 4 st (prog t).1.length (opsC (prog t).1)
  tok : TabOk m x
theorem TabAt.keeps {w w' : World} {p : Nat} {m : TM} {x : TabX} (h : TabAt w p m x) (hk : Keeps (fun _ => False) w w') : TabAt w' p m x :=
  ⟨hk.blk h.blk id, h.units.keeps hk fun _ _ => id, h.rows.keeps hk fun _ _ => id, h.names.keeps hk fun _ _ => id, fun i t ht => by
    obtain ⟨nd, st, h1, h2, h3⟩ := h.each i t ht
    exact ⟨nd, st, h1, h2.keeps hk fun _ _ => id, h3.keeps hk fun _ _ => id⟩, h.tok⟩
theorem tab_at {w : World} {F0 : Nat → Prop} {w0 : World} {cs : List Ch} (i : Nat) {p : Nat} {m : TM} (hS : St F0 w0 cs w) (hi : cs.getD i .emp = tabC p m := by rfl) : ∃ x, TabAt w p m x := by
  obtain ⟨G, h, _⟩ := hS.at i hi
  obtain ⟨x, h⟩ := h
  have hS := St.of (cs := tabCs p m x) h
  have tok : TabOk m x := hS.pr 5
  refine ⟨x, hS.blk 0, hS.own 1, hS.own 2, hS.own 3, fun j t ht => ?_, tok⟩
  have hlt := (List.getElem?_eq_some_iff.1 ht).1
  have hx : x.xs[j]? = some (x.xs[j]'(by rw [tok.len]; exact hlt)) := List.getElem?_eq_getElem _
  generalize x.xs[j]'(by rw [tok.len]; exact hlt) = y at hx
  obtain ⟨nd, st⟩ := y
  obtain ⟨G2, h2⟩ := hS.elemAt 4 j (tasksCh_at ht hx)
  have hS2 := St.of (cs := [.row TNd 2 nd t.needs.length (needsC t.needs), .row TOp 4 st (prog t).1.length (opsC (prog t).1)]) h2
  exact ⟨nd, st, hx, hS2.own 0, hS2.own 1⟩

section
variable {w : World} {p : Nat} {m : TM} {x : TabX}
theorem TabAt.cells (h : TabAt w p m x) : w.cell? ⟨p, 0, none⟩ = some (.int .i64 m.words) ∧ w.cell? ⟨p, 1, none⟩ = some x.uv ∧ w.cell? ⟨p, 2, none⟩ = some x.rv ∧ w.cell? ⟨p, 3, none⟩ = some x.nv ∧ (∀ o, w.frozen? ⟨p, o, none⟩ = false) := cells4 h.blk
theorem TabAt.few (h : TabAt w p m x) : m.ts.length ≤ 64 := h.tok.ok.few

theorem row_out (h : TabAt w p m x) (i : Int) (hi : i < 0 ∨ (m.ts.length : Int) ≤ i) :
    Calls Tryd.prog 31 #[.pointer (some ⟨p, 2, none⟩), .int .i64 i] w fun e w' => e = .returned (.tuple #[.agg zrow.toArray, .bool false]) ∧ Keeps (fun _ => False) w w' :=
  stackAt_out h.cells.2.2.1 h.rows i hi
theorem row_in (h : TabAt w p m x) {i : Nat} {t : Task} (ht : m.ts[i]? = some t) : ∃ na nc sa sc, Own w TNd 2 (.slice na t.needs.length nc) t.needs.length (needsC t.needs) ∧ Own w TOp 4 (.slice sa (prog t).1.length sc) (prog t).1.length (opsC (prog t).1) ∧
    Calls Tryd.prog 31 #[.pointer (some ⟨p, 2, none⟩), .int .i64 i] w fun e w' => e = .returned (.tuple #[.agg (rowC t (.slice na t.needs.length nc, .slice sa (prog t).1.length sc)).toArray, .bool true]) ∧ Keeps (fun _ => False) w w' := by
  obtain ⟨nd, st, hx, h1, h2⟩ := h.each i t ht
  have hr := rowsC_at ht hx
  obtain ⟨na, nc, rfl, _⟩ := h1.shape
  obtain ⟨sa, sc, rfl, _⟩ := h2.shape
  refine ⟨na, nc, sa, sc, h1, h2, ?_⟩
  exact stackAt_in h.cells.2.2.1 h.rows i (List.getElem?_eq_some_iff.1 ht).1 ⟨hr 0 (by omega), hr 1 (by omega), hr 2 (by omega), hr 3 (by omega), hr 4 (by omega), hr 5 (by omega), hr 6 (by omega), hr 7 (by omega), hr 8 (by omega)⟩
    (by intro u hu; simp only [List.mem_cons, List.not_mem_nil, or_false] at hu; rcases hu with rfl | rfl | rfl | rfl | rfl | rfl | rfl | rfl | rfl <;> rfl)

set_option maxRecDepth 100000 in
theorem tlen_any (h : TabAt w p m x) : Calls Tryd.prog 13 #[.pointer (some ⟨p, 0, none⟩)] w fun e w' => e = .returned (.int .i64 m.ts.length) ∧ w = w' := by
  have hl := stackLen_any h.cells.2.2.1 h.rows
  clear h
  go_enter Tryd.func13, Tryd.ntmps13
  go_wp2_with fail
  refine hl.mono ?_; rintro e w1 ⟨rfl, rfl⟩
  go_wp2_with fail
  go_ret
  exact ⟨rfl, rfl⟩
end
end Go.Proofs.YtkaecdkmalppcaaDoor
