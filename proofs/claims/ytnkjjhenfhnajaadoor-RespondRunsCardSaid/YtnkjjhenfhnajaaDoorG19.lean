/-
  Texts Rv Rw in one.
-/
import Derived.Test.YtnkjjhenfhnajaaDoorG03
import Derived.Test.YtnkjjhenfhnajaaDoorG08
import Derived.Test.YtnkjjhenfhnajaaDoorG01
/-
  keelref3's run: a step, walked.
-/
namespace Go.Proofs.YtnkjjhenfhnajaaDoor
open Go.RowKit Go.Kw Go.Kreg Go.Cm

def isDone : Stt → Bool
  | .done => true
  | _ => false
def isLong : Stt → Bool
  | .long => true
  | _ => false
theorem opC_one (o : Cm.Op) : ∀ u ∈ opC o, u.oneCell' = true := by
  intro u hu; simp only [opC, List.mem_cons, List.not_mem_nil, or_false] at hu; rcases hu with rfl | rfl | rfl | rfl <;> rfl

section
variable {w : World} {F : Nat → Prop}
end
end Go.Proofs.YtnkjjhenfhnajaaDoor

/-
  keelref3's run: a piece of a program, walked.
-/
namespace Go.Proofs.YtnkjjhenfhnajaaDoor
open Go.RowKit Go.Kw Go.Kreg Go.Cm

theorem shut_seg {q : List Cm.Op} {i to : Nat} {o : Cm.Op} (ht : to ≤ q.length) (ho : q[i]? = some o) (hi : i < to) (h10 : o.kind = 10) (hb : bal (seg q i to) 0 = true) : i + shut (seg q i to) 0 = endE q i := by
  unfold endE
  rw [drop_seg q (Nat.le_of_lt hi) ht]
  rw [seg_cons ho hi] at hb ⊢
  rw [bal_10 _ _ h10] at hb
  obtain ⟨b, e, r, hp, he, hs, hb1, hr1⟩ := bal_shut _ 1 (by omega) hb
  rw [hp, List.cons_append, shut_10 _ 0 h10, shut_10 _ 0 h10, List.append_assoc, List.cons_append, hs, hs]
/-- The cells of an operation in a row, seen from a place of it. -/
theorem op_cells {w : World} {g cap a i : Nat} {q : List Cm.Op} {o : Cm.Op} (h : Own w TOp 4 (.slice (some ⟨g, 0, none⟩) q.length cap) q.length (opsC q)) (hx : q[a + i]? = some o) :
    w.cell? ⟨g, a * 4 + i * 4, none⟩ = some (.int .i64 o.kind) ∧ w.cell? ⟨g, a * 4 + i * 4 + 1, none⟩ = some (.int .i64 o.res) ∧ w.cell? ⟨g, a * 4 + i * 4 + 2, none⟩ = some (.int .i64 o.n) ∧ w.cell? ⟨g, a * 4 + i * 4 + 3, none⟩ = some (.int .i64 o.v) := by
  obtain ⟨x0, x1, x2, x3⟩ := opsC_at hx
  rw [Nat.add_mul] at x0 x1 x2 x3
  exact ⟨h.cells' (g := g) rfl x0, h.cells' (g := g) rfl x1, h.cells' (g := g) rfl x2, h.cells' (g := g) rfl x3⟩
def OpsRd (w : World) (ao : Option Addr) (l : List Cm.Op) : Prop := ∀ (j : Nat) o, l[j]? = some o → ∃ b k, ao = some ⟨b, k, none⟩ ∧ w.cell? ⟨b, k + j * 4, none⟩ = some (.int .i64 o.kind) ∧ w.cell? ⟨b, k + j * 4 + 1, none⟩ = some (.int .i64 o.res) ∧ w.cell? ⟨b, k + j * 4 + 2, none⟩ = some (.int .i64 o.n) ∧ w.cell? ⟨b, k + j * 4 + 3, none⟩ = some (.int .i64 o.v)
theorem seg_at {q : List Cm.Op} {a n j : Nat} (hj : j < n) : (seg q a (a + n))[j]? = q[a + j]? := by
  unfold seg
  rw [List.getElem?_drop, List.getElem?_take_of_lt (by omega)]
theorem OpsRd.seg {w : World} {g cap a n : Nat} {q : List Cm.Op} (h : Own w TOp 4 (.slice (some ⟨g, 0, none⟩) q.length cap) q.length (opsC q)) (hn : a + n ≤ q.length) : OpsRd w (some ⟨g, a * 4, none⟩) (Cm.seg q a (a + n)) := by
  intro j o hj
  have hl := (List.getElem?_eq_some_iff.1 hj).1
  rw [seg_len q hn] at hl
  rw [seg_at (by omega)] at hj
  exact ⟨g, a * 4, rfl, op_cells h hj⟩
theorem shut_step (o : Cm.Op) (p : List Cm.Op) (d m : Nat) (h : (if o.kind = 10 then d + 1 else if o.kind = 11 then d - 1 else d) = m) : shut (o :: p) d = if m = 0 then 0 else shut p m + 1 := by
  conv => lhs; unfold shut
  simp only [h]
section
variable {w : World} {l : List Cm.Op}
end
end Go.Proofs.YtnkjjhenfhnajaaDoor
