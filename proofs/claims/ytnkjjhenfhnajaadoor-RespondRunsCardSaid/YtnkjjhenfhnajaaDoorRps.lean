/-
  keelref3.Parse, walked.
-/
import Derived.Test.YtnkjjhenfhnajaaDoorRp
import Derived.Test.YtnkjjhenfhnajaaDoorRo
import Derived.Test.YtnkjjhenfhnajaaDoorG05
import Derived.Test.YtnkjjhenfhnajaaDoorG08
import Derived.Test.YtnkjjhenfhnajaaDoorRfi
import Derived.Deep.Cut
import Derived.Deep.DeepCutAuto
namespace Go.Proofs.YtnkjjhenfhnajaaDoor
open Go.RowKit Go.Kw Go.Kreg Go.Cm
set_option linter.unusedSimpArgs false
set_option linter.unusedVariables false

def plc (c : UInt8) : Cm.Place := if c = 82 then .r else if c = 78 then .u else if c = 83 then .s else .v
/-- The fields behind a word, letter by letter. -/
def readL (len : Int) : List UInt8 → Cm.Op → List Tok → Res (Cm.Op × List Tok)
  | [], o, ts => .ok (o, ts)
  | _ :: _, _, [] => .err len 31
  | c :: cs, o, (i, w) :: ts => if c = 66 then (if w = [123] then readL len cs o ts else .err i 30) else
    match number w with
    | some n => if okP (plc c) n then readL len cs (put (plc c) o n) ts else .err i 30
    | none => .err i 30
theorem readL_one (len : Int) (K : Nat) (hK : K ≤ 11) (ts : List Tok) : readL len (formS K) ⟨K, 0, 0, 0⟩ ts = one len K ts := by
  obtain rfl | rfl | rfl | rfl | rfl | rfl | rfl | rfl | rfl | rfl | rfl | rfl : K = 0 ∨ K = 1 ∨ K = 2 ∨ K = 3 ∨ K = 4 ∨ K = 5 ∨ K = 6 ∨ K = 7 ∨ K = 8 ∨ K = 9 ∨ K = 10 ∨ K = 11 := by omega
  all_goals
    rcases ts with _ | ⟨⟨i, w⟩, _ | ⟨⟨j, u⟩, ts⟩⟩
    all_goals
      simp [readL, one, readF, formS, places, placesH, rowH, plc, brace]
      try (cases number w with
        | none => simp
        | some n =>
          simp
          try (split <;> simp)
          try (cases number u with
            | none => simp
            | some m => simp; try (split <;> simp))
          try (split <;> simp))
      try (cases number w with
        | none => rfl
        | some n =>
          simp only []
          by_cases h1 : okP .r n = true
          · simp only [h1, if_true]
            cases number u with
            | none => rfl
            | some m =>
              simp only []
              by_cases h2 : okP .u m = true <;> simp [h2]
          · simp [h1])
def contR (len : Int) (f : Nat) (ops : List Cm.Op) (nopn : Int) : Res (Cm.Op × List Tok) → Res (List Cm.Op)
  | .err i e => .err i e
  | .ok (o, ts) => parseT len f ts (ops ++ [o]) nopn
theorem parseT_contR (len : Int) (f i : Nat) (w : List UInt8) (ts : List Tok) (ops : List Cm.Op) (opn : Int) : parseT len (f + 1) ((i, w) :: ts) ops opn =
    if begins (kindOf w) ops.length opn ≠ 0 then .err i (begins (kindOf w) ops.length opn)
    else contR len f ops (nextOpen (kindOf w) opn) (one len (kindOf w) ts) := by
  rw [parseT_cons]
  split
  · rfl
  · unfold contR
    cases one len (kindOf w) ts with
    | err i e => rfl
    | ok r => rfl
theorem wordsC_at {k : Nat} (h : k < 12) : wordsC[k]? = some (.string ⟨(rowW k).toArray⟩) := by
  unfold wordsC; rw [List.getElem?_map, List.getElem?_range h]; rfl
theorem str_eq (a b : List UInt8) : ((⟨a.toArray⟩ : ByteArray).toList == (⟨b.toArray⟩ : ByteArray).toList) = decide (a = b) := by
  rw [ByteArray.toList_eq, ByteArray.toList_eq]
  by_cases h : a = b
  · subst h; simp
  · rw [decide_eq_false h]; simpa using h
theorem toks_few (l : List UInt8) : (toksAt l 0).length ≤ l.length + 1 := by
  have key : ∀ (f i : Nat), (toks l f i).length ≤ f := by
    intro f
    induction f with
    | zero => intro i; simp [toks]
    | succ f ih =>
      intro i
      unfold toks
      split
      · simp
      · simp only [List.length_cons]; have := ih (wordAt l i).2.2; omega
  have := key (l.length + 1 - 0) 0
  unfold toksAt
  omega
theorem toks_word (l : List UInt8) : ∀ (f i : Nat), ∀ t ∈ toks l f i, t.2.length ≤ l.length := by
  intro f
  induction f with
  | zero => intro i t ht; simp [toks] at ht
  | succ f ih =>
    intro i t ht
    unfold toks at ht
    split at ht
    · simp at ht
    · rcases List.mem_cons.1 ht with rfl | ht
      · simp only [wordAt, piece, List.length_take, List.length_drop]; omega
      · exact ih _ t ht
section
end
end Go.Proofs.YtnkjjhenfhnajaaDoor
