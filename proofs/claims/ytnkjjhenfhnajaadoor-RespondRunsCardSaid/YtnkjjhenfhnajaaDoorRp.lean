/-
  keelref3.Words, walked.
-/
import Derived.Test.YtnkjjhenfhnajaaDoorG05
import Derived.Test.YtnkjjhenfhnajaaDoorG17
namespace Go.Proofs.YtnkjjhenfhnajaaDoor
open Go.RowKit Go.Kw Go.Kreg Go.Cm

def wordsV (l : List Tok) : List Value := l.flatMap fun t => [.int .i64 t.1, .string ⟨t.2.toArray⟩]
theorem wordsV_len (l : List Tok) : (wordsV l).length = l.length * 2 := by
  induction l with
  | nil => rfl
  | cons n l ih => simp only [wordsV, List.flatMap_cons, List.length_append, List.length_cons, List.length_nil] at *; omega
theorem wordsV_at {l : List Tok} {i : Nat} {n : Tok} (h : l[i]? = some n) : (wordsV l)[i * 2]? = some (.int .i64 n.1) ∧ (wordsV l)[i * 2 + 1]? = some (.string ⟨n.2.toArray⟩) := by
  have hs : l = l.take i ++ (n :: l.drop (i + 1)) := by
    have := (List.getElem?_eq_some_iff.1 h)
    rw [← this.2, List.getElem_cons_drop, List.take_append_drop]
  have hl : (wordsV (l.take i)).length = i * 2 := by
    rw [wordsV_len, List.length_take]; have := (List.getElem?_eq_some_iff.1 h).1; omega
  have e : wordsV l = wordsV (l.take i) ++ ([.int .i64 n.1, .string ⟨n.2.toArray⟩] ++ wordsV (l.drop (i + 1))) := by
    conv => lhs; rw [hs]
    simp [wordsV]
  rw [e]
  constructor
  all_goals
    rw [List.getElem?_append_right (by omega), hl]
    simp
theorem ext_piece (s : ByteArray) (a b : Nat) : s.extract a b = ⟨(piece s.data.toList a b).toArray⟩ := by
  refine ByteArray.ext ?_
  rw [← ba_extract]
def frm : Option Nat → Int
  | none => -1
  | some f => f
theorem blank_is {c : UInt8} (h : blankB c = true) : ((c.toNat : Int) == 9) = true ∨ (((c.toNat : Int) == 9) = false ∧ ((c.toNat : Int) == 10) = true) ∨ (((c.toNat : Int) == 9) = false ∧ ((c.toNat : Int) == 10) = false ∧ ((c.toNat : Int) == 13) = true) ∨
    (((c.toNat : Int) == 9) = false ∧ ((c.toNat : Int) == 10) = false ∧ ((c.toNat : Int) == 13) = false ∧ ((c.toNat : Int) == 32) = true) ∨ (((c.toNat : Int) == 9) = false ∧ ((c.toNat : Int) == 10) = false ∧ ((c.toNat : Int) == 13) = false ∧ ((c.toNat : Int) == 32) = false ∧ ((c.toNat : Int) == 59) = true) := by
  unfold blankB at h
  simp only [Bool.or_eq_true, beq_iff_eq, ← UInt8.toNat_inj] at h
  simp only [beq_iff_eq, beq_eq_false_iff_ne, ne_eq]
  have h9 : (9 : UInt8).toNat = 9 := rfl
  have h10 : (10 : UInt8).toNat = 10 := rfl
  have h13 : (13 : UInt8).toNat = 13 := rfl
  have h32 : (32 : UInt8).toNat = 32 := rfl
  have h59 : (59 : UInt8).toNat = 59 := rfl
  omega
theorem blank_no {c : UInt8} (h : blankB c = false) : ((c.toNat : Int) == 9) = false ∧ ((c.toNat : Int) == 10) = false ∧ ((c.toNat : Int) == 13) = false ∧ ((c.toNat : Int) == 32) = false ∧ ((c.toNat : Int) == 59) = false := by
  unfold blankB at h
  simp only [Bool.or_eq_false_iff, beq_eq_false_iff_ne, ne_eq, ← UInt8.toNat_inj] at h
  simp only [beq_eq_false_iff_ne, ne_eq]
  have h9 : (9 : UInt8).toNat = 9 := rfl
  have h10 : (10 : UInt8).toNat = 10 := rfl
  have h13 : (13 : UInt8).toNat = 13 := rfl
  have h32 : (32 : UInt8).toNat = 32 := rfl
  have h59 : (59 : UInt8).toNat = 59 := rfl
  omega
end Go.Proofs.YtnkjjhenfhnajaaDoor
