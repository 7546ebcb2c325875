/-
  Texts Rt Rtr in one.
-/
import Derived.Test.YtnkjjhenfhnajaaDoorG13
import Derived.Test.YtnkjjhenfhnajaaDoorG05
import Derived.Test.YtnkjjhenfhnajaaDoorG04
/-
  The reference's table of tasks in memory, and how its readers see it.
-/
namespace Go.Proofs.YtnkjjhenfhnajaaDoor
open Go.RowKit Go.Kw Go.Kreg Go.Tm

structure RefX where
  uv : Value
  tv : Value
  nds : List Value
structure RefOk (m : TM) (y : RefX) : Prop where
  ok : m.Ok
  len : y.nds.length = m.ts.length
def needsCh : List Task → List Value → List Ch
  | t :: ts, nd :: nds => .row TNd 2 nd t.needs.length (needsC t.needs) :: needsCh ts nds
  | _, _ => []
theorem needsCh_app : ∀ {ts : List Task} {nds : List Value} (t : Task) (nd : Value), nds.length = ts.length → needsCh (ts ++ [t]) (nds ++ [nd]) = needsCh ts nds ++ [.row TNd 2 nd t.needs.length (needsC t.needs)]
  | [], [], t, nd, _ => by simp [needsCh]
  | u :: ts, y :: nds, t, nd, h => by
    simp only [List.cons_append, needsCh]
    rw [needsCh_app t nd (by simpa using h)]
theorem needsCh_at : ∀ {ts : List Task} {nds : List Value} {i : Nat} {t : Task} {nd : Value}, ts[i]? = some t → nds[i]? = some nd → (needsCh ts nds).getD i .emp = .row TNd 2 nd t.needs.length (needsC t.needs)
  | u :: ts, y :: nds, 0, t, nd, h, k => by
    obtain rfl : u = t := by simpa using h
    obtain rfl : y = nd := by simpa using k
    rfl
  | u :: ts, y :: nds, i + 1, t, nd, h, k => by
    simp only [needsCh, List.getD_cons_succ]
    exact needsCh_at (by simpa using h) (by simpa using k)
  | [], _, i, t, nd, h, _ => by simp at h
  | _ :: _, [], i, t, nd, _, k => by simp at k
theorem tasksV_app : ∀ {l : List Task} {nds : List Value} (x : Task) (nd : Value), nds.length = l.length → tasksV (l ++ [x]) (nds ++ [nd]) = tasksV l nds ++ [.string x.name, .int .i64 x.level, .int .i64 x.frame, nd, .string x.code, .int .i64 x.period, .int .i64 x.first, .int .i64 x.gap]
  | [], [], x, nd, _ => by simp [tasksV]
  | y :: l, md :: nds, x, nd, h => by
    simp only [List.cons_append, tasksV]
    rw [tasksV_app x nd (by simpa using h)]
    simp
theorem tasksV_len : ∀ {l : List Task} {nds : List Value}, nds.length = l.length → (tasksV l nds).length = l.length * 8
  | [], [], _ => rfl
  | x :: l, nd :: nds, h => by
    simp only [tasksV, List.length_append, List.length_cons, List.length_nil] at *
    rw [tasksV_len (by omega)]; omega
theorem task8_one (x : Task) (nd : Value) (hnd : nd.oneCell' = true) : ∀ u ∈ [.string x.name, .int .i64 x.level, .int .i64 x.frame, nd, .string x.code, .int .i64 x.period, .int .i64 x.first, .int .i64 x.gap], Value.oneCell' u = true := by
  intro u hu; simp only [List.mem_cons, List.not_mem_nil, or_false] at hu; rcases hu with rfl | rfl | rfl | rfl | rfl | rfl | rfl | rfl <;> first | rfl | exact hnd
section
variable {w : World} {p : Nat} {m : TM} {y : RefX}
/-- A task's cells in an owned row. -/
theorem task_cells {ts : List Task} {nds : List Value} {g cap : Nat} (ho : Own w TTk 8 (.slice (some ⟨g, 0, none⟩) ts.length cap) ts.length (tasksV ts nds)) {k : Nat} {x : Task} {nd : Value} (hx : ts[k]? = some x) (hn : nds[k]? = some nd) : TkAt w g (k * 8) nd x := by
  have ha := tasksV_at hx hn
  have key : ∀ (j : Nat) u, j < 8 → [.string x.name, .int .i64 x.level, .int .i64 x.frame, nd, .string x.code, .int .i64 x.period, .int .i64 x.first, .int .i64 x.gap][j]? = some u → w.cell? ⟨g, k * 8 + j, none⟩ = some u := fun j u hj hu => ho.cells' (g := g) rfl ((ha j hj).trans hu)
  exact ⟨key 0 _ (by omega) rfl, key 1 _ (by omega) rfl, key 2 _ (by omega) rfl, key 3 _ (by omega) rfl, key 4 _ (by omega) rfl, key 5 _ (by omega) rfl, key 6 _ (by omega) rfl, key 7 _ (by omega) rfl⟩
end
end Go.Proofs.YtnkjjhenfhnajaaDoor

/-
  The reference's table of tasks: its readers, walked.
-/
namespace Go.Proofs.YtnkjjhenfhnajaaDoor
open Go.RowKit Go.Kw Go.Kreg Go.Tm

theorem largest_zero {ts : List Task} (hf : ∀ t ∈ ts, Fit t) : largest ts 0 = 0 := by
  have key : ∀ (ts : List Task) (n : Int), (∀ t ∈ ts, Fit t) → largestFrom 0 ts n = n := by
    intro ts
    induction ts with
    | nil => intro n _; rfl
    | cons t ts ih =>
      intro n hf
      unfold largestFrom
      have := (hf t (by simp)).lev
      rw [if_neg (by omega)]
      exact ih n fun t ht => hf t (by simp [ht])
  exact key ts 0 hf
theorem findFrom_drop {name : ByteArray} {ts : List Task} {k : Nat} (hk : k < ts.length) : findFrom name (ts.drop k) k = if ts[k].name = name then some k else findFrom name (ts.drop (k + 1)) (k + 1) := by
  rw [List.drop_eq_getElem_cons hk]
  rfl
theorem needOf_drop {l : List Need} {k : Nat} (hk : k < l.length) (res : Int) : needOf (l.drop k) res = if l[k].res = res then l[k].units else needOf (l.drop (k + 1)) res := by
  rw [List.drop_eq_getElem_cons hk]
  rfl

section
variable {w : World} {p : Nat} {m : TM} {y : RefX}
end
end Go.Proofs.YtnkjjhenfhnajaaDoor
