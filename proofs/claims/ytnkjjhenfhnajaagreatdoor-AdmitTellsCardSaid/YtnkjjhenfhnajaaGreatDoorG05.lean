/-
  Texts Rn Rwd Rk Rm Uc in one.
-/
import Derived.Test.YtnkjjhenfhnajaaGreatDoorG03
import Derived.Test.YtnkjjhenfhnajaaGreatDoorG04
import Derived.WalkKit
/-
  A number in its one form, read digit by digit: what the reference reads is what package code reads. No program.
-/
namespace Go
namespace Cm
open Lib

def digB (c : UInt8) : Bool := decide (48 ≤ c.toNat ∧ c.toNat ≤ 57)
def valD (acc : Nat) (l : List UInt8) : Nat := l.foldl (fun a c => a * 10 + (c.toNat - 48)) acc
/-- What stands behind the sign, as the reference reads it. -/
def magR (neg : Bool) (d : List UInt8) : Option Nat :=
  if d = [] ∨ 19 < d.length ∨ (d.head? = some 48 ∧ (1 < d.length ∨ neg = true)) then none else if d.all digB then some (valD 0 d) else none
def numR (w : List UInt8) : Option Int :=
  if w.head? = some 45 then (match magR true w.tail with | none => none | some u => if 9223372036854775808 < u then none else some (-(u : Int)))
  else match magR false w with | none => none | some u => if 9223372036854775808 ≤ u then none else some (u : Int)

theorem valD_snoc (acc : Nat) (l : List UInt8) (c : UInt8) : valD acc (l ++ [c]) = valD acc l * 10 + (c.toNat - 48) := by simp [valD]
theorem valD_ge {l : List UInt8} {acc : Nat} : acc ≤ valD acc l := by
  induction l generalizing acc with
  | nil => exact Nat.le_refl _
  | cons c l ih =>
    have := ih (acc := acc * 10 + (c.toNat - 48))
    show acc ≤ valD (acc * 10 + (c.toNat - 48)) l
    omega
theorem valD_pos {c : UInt8} {l : List UInt8} (h : 49 ≤ c.toNat) : 1 ≤ valD 0 (c :: l) := by
  have : 0 * 10 + (c.toNat - 48) ≤ valD (0 * 10 + (c.toNat - 48)) l := valD_ge
  show 1 ≤ valD (0 * 10 + (c.toNat - 48)) l
  omega
theorem byte_back {c : UInt8} (h : 48 ≤ c.toNat) : UInt8.ofNat (48 + (c.toNat - 48)) = c := by
  rw [show 48 + (c.toNat - 48) = c.toNat by omega]; simp
theorem dec_val : ∀ (k : Nat) (d : List UInt8), d.length = k → d ≠ [] → (∀ c ∈ d, 48 ≤ c.toNat ∧ c.toNat ≤ 57) → (d.head? = some 48 → d.length = 1) → decDigits (valD 0 d) = d := by
  intro k
  induction k with
  | zero => intro d h hne; exact absurd (List.length_eq_zero_iff.1 h) hne
  | succ k ih =>
    intro d h hne hd hh
    obtain ⟨d', c, rfl⟩ : ∃ d' c, d = d' ++ [c] := ⟨d.dropLast, d.getLast hne, (List.dropLast_concat_getLast hne).symm⟩
    have hc := hd c (by simp)
    rw [valD_snoc]
    cases d' with
    | nil =>
      rw [show valD 0 [] * 10 + (c.toNat - 48) = c.toNat - 48 by simp [valD], decDigits_one (by omega), byte_back hc.1]; rfl
    | cons a d'' =>
      have ha := hd a (by simp)
      have hne48 : a ≠ 48 := by
        intro e
        have := hh (by simp [e])
        simp at this
      have ha9 : 49 ≤ a.toNat := by
        have : a.toNat ≠ 48 := fun e => hne48 (UInt8.toNat_inj.1 (by rw [e]; rfl))
        omega
      have hp := valD_pos (l := d'') ha9
      rw [decDigits, dif_neg (by omega), show (valD 0 (a :: d'') * 10 + (c.toNat - 48)) / 10 = valD 0 (a :: d'') by omega, show (valD 0 (a :: d'') * 10 + (c.toNat - 48)) % 10 = c.toNat - 48 by omega, byte_back hc.1]
      rw [ih (a :: d'') (by simp at h ⊢; omega) (by simp) (fun x hx => hd x (List.mem_append_left _ hx)) (fun e => absurd (by simpa using e) hne48)]
theorem uint_of {l : List UInt8} : ∀ {acc : Nat}, (∀ c ∈ l, 48 ≤ c.toNat ∧ c.toNat ≤ 57) → valD acc l < 18446744073709551616 → parseUint10 acc l = .ok (valD acc l) := by
  induction l with
  | nil => intro acc _ _; rfl
  | cons c l ih =>
    intro acc hd hv
    have hc := hd c (by simp)
    have hge : acc * 10 + (c.toNat - 48) ≤ valD (acc * 10 + (c.toNat - 48)) l := valD_ge
    have hv' : valD (acc * 10 + (c.toNat - 48)) l < 18446744073709551616 := hv
    unfold parseUint10
    rw [if_pos hc, if_neg (by omega), if_neg (by omega)]
    exact ih (fun x hx => hd x (by simp [hx])) hv'
theorem dec_facts (u : Nat) : (∀ c ∈ decDigits u, 48 ≤ c.toNat ∧ c.toNat ≤ 57) ∧ decDigits u ≠ [] ∧ valD 0 (decDigits u) = u ∧ ((decDigits u).head? = some 48 → u = 0) := by
  induction u using Nat.strongRecOn with
  | _ u ih =>
    by_cases h : u < 10
    · have h1 : (UInt8.ofNat (48 + u)).toNat = 48 + u := by simp; omega
      rw [decDigits_one h]
      refine ⟨fun c hc => ?_, by simp, ?_, fun e => ?_⟩
      · obtain rfl : c = UInt8.ofNat (48 + u) := by simpa using hc
        omega
      · simp only [valD, List.foldl_cons, List.foldl_nil, h1]; omega
      · have : UInt8.ofNat (48 + u) = 48 := by simpa using e
        have := congrArg UInt8.toNat this
        rw [h1] at this
        have h48 : (48 : UInt8).toNat = 48 := rfl
        omega
    · obtain ⟨i1, i2, i3, i4⟩ := ih (u / 10) (by omega)
      have h1 : (UInt8.ofNat (48 + u % 10)).toNat = 48 + u % 10 := by simp; omega
      rw [decDigits, dif_neg h]
      refine ⟨fun c hc => ?_, by simp, ?_, fun e => ?_⟩
      · rcases List.mem_append.1 hc with hc | hc
        · exact i1 c hc
        · obtain rfl : c = UInt8.ofNat (48 + u % 10) := by simpa using hc
          omega
      · rw [valD_snoc, i3, h1]; omega
      · obtain ⟨c, l, hcl⟩ := List.exists_cons_of_ne_nil i2
        rw [hcl] at e i4
        have := i4 (by simpa using e)
        omega
theorem nDigits_le : ∀ (k u : Nat), u < 10 ^ (k + 1) → nDigits u ≤ k + 1
  | 0, u, h => by rw [nDigits_small (by simpa using h)]; omega
  | k + 1, u, h => by
    by_cases hs : u < 10
    · rw [nDigits_small hs]; omega
    · rw [nDigits_big hs]
      rw [Nat.pow_succ] at h
      have := nDigits_le k (u / 10) (by omega)
      omega
theorem dec_len {u : Nat} (h : u ≤ 9223372036854775808) : (decDigits u).length ≤ 19 := by
  rw [decDigits_length]; exact nDigits_le 18 u (by omega)
theorem dec_mag {u : Nat} (h : u ≤ 9223372036854775808) (neg : Bool) (h1 : neg = true → 1 ≤ u) : magR neg (decDigits u) = some u := by
  obtain ⟨f1, f2, f3, f4⟩ := dec_facts u
  have hl := dec_len h
  unfold magR
  rw [if_neg, if_pos (List.all_eq_true.2 fun c hc => by simpa [digB] using f1 c hc), f3]
  rintro (e | e | ⟨e, e2⟩)
  · exact f2 e
  · omega
  · have hu := f4 e
    subst hu
    rcases e2 with e2 | e2
    · rw [decDigits_length, nDigits_small (by decide)] at e2; omega
    · have := h1 e2; omega
theorem head_digit {u : Nat} : (decDigits u).head? ≠ some 45 := by
  obtain ⟨f1, f2, _⟩ := dec_facts u
  intro e
  cases hd : decDigits u with
  | nil => exact f2 hd
  | cons c l =>
    rw [hd] at e f1
    have : c = 45 := by simpa using e
    subst this
    have := f1 45 (by simp)
    have h45 : (45 : UInt8).toNat = 45 := rfl
    omega
theorem numR_itoa {n : Int} (h0 : -9223372036854775808 ≤ n) (h1 : n < 9223372036854775808) : numR (itoa n) = some n := by
  unfold itoa
  by_cases hn : n < 0
  · rw [if_pos hn]
    unfold numR
    rw [if_pos (by rfl), List.tail_cons, dec_mag (by omega) true (fun _ => by omega)]
    show (if 9223372036854775808 < n.natAbs then none else some (-(n.natAbs : Int))) = some n
    rw [if_neg (by omega)]; congr 1; omega
  · rw [if_neg hn]
    unfold numR
    rw [if_neg head_digit, dec_mag (by omega) false (fun e => by cases e)]
    show (if 9223372036854775808 ≤ n.toNat then none else some (n.toNat : Int)) = some n
    rw [if_neg (by omega)]; congr 1; omega
theorem atoi_bounds {w : List UInt8} {n : Int} (h : atoiAll w = .ok n) : -9223372036854775808 ≤ n ∧ n < 9223372036854775808 := by
  unfold atoiAll at h
  split at h
  · cases h
  · simp only at h
    split at h
    · cases h
    · cases h
    · split at h
      · cases h
      · split at h
        · cases h
        · injection h with h
          split at h <;> omega
theorem mag_of {neg : Bool} {d : List UInt8} {u : Nat} (h : magR neg d = some u) : d ≠ [] ∧ (∀ c ∈ d, 48 ≤ c.toNat ∧ c.toNat ≤ 57) ∧ (d.head? = some 48 → d.length = 1 ∧ neg = false) ∧ u = valD 0 d := by
  unfold magR at h
  split at h
  · cases h
  · rename_i hc
    split at h
    · rename_i ha
      have hne : d ≠ [] := fun e => hc (.inl e)
      refine ⟨hne, fun c hc => by simpa [digB] using List.all_eq_true.1 ha c hc, fun e => ?_, (Option.some.inj h).symm⟩
      have h1 : ¬ (1 < d.length ∨ neg = true) := fun hh => hc (.inr (.inr ⟨e, hh⟩))
      have h2 := List.length_pos_iff.2 hne
      constructor
      · have : ¬ 1 < d.length := fun hh => h1 (.inl hh)
        omega
      · cases neg
        · rfl
        · exact absurd (.inr rfl) h1
    · cases h
theorem number_of {w : List UInt8} {n : Int} (h : numR w = some n) : number w = some n := by
  have fin : atoiAll w = .ok n → itoa n = w → number w = some n := fun h1 h2 => by
    unfold number; rw [h1]; show (if itoa n = w then some n else none) = some n; rw [if_pos h2]
  unfold numR at h
  split at h
  · rename_i hh
    obtain ⟨d, rfl⟩ : ∃ d, w = 45 :: d := by
      cases w with
      | nil => cases hh
      | cons c d => exact ⟨d, by have : c = 45 := by simpa using hh
                                 rw [this]⟩
    rw [List.tail_cons] at h
    cases hm : magR true d with
    | none => rw [hm] at h; cases h
    | some u =>
      rw [hm] at h
      obtain ⟨f1, f2, f3, rfl⟩ := mag_of hm
      have h' : (if 9223372036854775808 < valD 0 d then none else some (-(valD 0 d : Int))) = some n := h
      split at h'
      · cases h'
      · rename_i hb
        obtain rfl := Option.some.inj h'
        have hdd := dec_val d.length d rfl f1 f2 (fun e => (f3 e).1)
        have hpos : 1 ≤ valD 0 d := by
          cases d with
          | nil => exact absurd rfl f1
          | cons c l =>
            have hc := f2 c (by simp)
            refine valD_pos ?_
            have : c.toNat ≠ 48 := fun e => by
              have hc48 : c = 48 := UInt8.toNat_inj.1 (by rw [e]; rfl)
              have := (f3 (by simp [hc48])).2
              cases this
            omega
        refine fin ?_ ?_
        · unfold atoiAll
          show (match parseMag (if (45 : UInt8).toNat = 43 ∨ (45 : UInt8).toNat = 45 then d else 45 :: d) with
            | .syntax => NumEnd.syntax
            | .range => .range
            | .ok u => if ¬ (45 : UInt8).toNat = 45 ∧ 9223372036854775808 ≤ u then .range else if (45 : UInt8).toNat = 45 ∧ 9223372036854775808 < u then .range else .ok (if (45 : UInt8).toNat = 45 then -(u : Int) else u)) = _
          rw [if_pos (.inr rfl)]
          unfold parseMag
          rw [if_neg f1, uint_of f2 (by omega)]
          show (if ¬ (45 : UInt8).toNat = 45 ∧ 9223372036854775808 ≤ valD 0 d then NumEnd.range else if (45 : UInt8).toNat = 45 ∧ 9223372036854775808 < valD 0 d then .range else .ok (if (45 : UInt8).toNat = 45 then -(valD 0 d : Int) else valD 0 d)) = _
          rw [if_neg (fun e => e.1 rfl), if_neg (fun e => by omega), if_pos (show (45 : UInt8).toNat = 45 from rfl)]
        · unfold itoa
          rw [if_pos (by omega), show (-(valD 0 d : Int)).natAbs = valD 0 d by omega, hdd]
  · rename_i hh
    cases hm : magR false w with
    | none => rw [hm] at h; cases h
    | some u =>
      rw [hm] at h
      obtain ⟨f1, f2, f3, rfl⟩ := mag_of hm
      have h' : (if 9223372036854775808 ≤ valD 0 w then none else some (valD 0 w : Int)) = some n := h
      split at h'
      · cases h'
      · rename_i hb
        obtain rfl := Option.some.inj h'
        have hdd := dec_val w.length w rfl f1 f2 (fun e => (f3 e).1)
        refine fin ?_ ?_
        · cases w with
          | nil => exact absurd rfl f1
          | cons c l =>
            have hc := f2 c (by simp)
            unfold atoiAll
            show (match parseMag (if c.toNat = 43 ∨ c.toNat = 45 then l else c :: l) with
              | .syntax => NumEnd.syntax
              | .range => .range
              | .ok u => if ¬ c.toNat = 45 ∧ 9223372036854775808 ≤ u then .range else if c.toNat = 45 ∧ 9223372036854775808 < u then .range else .ok (if c.toNat = 45 then -(u : Int) else u)) = _
            rw [if_neg (by omega)]
            unfold parseMag
            rw [if_neg f1, uint_of f2 (by omega)]
            show (if ¬ c.toNat = 45 ∧ 9223372036854775808 ≤ valD 0 (c :: l) then NumEnd.range else if c.toNat = 45 ∧ 9223372036854775808 < valD 0 (c :: l) then .range else .ok (if c.toNat = 45 then -(valD 0 (c :: l) : Int) else valD 0 (c :: l))) = _
            rw [if_neg (fun e => hb e.2), if_neg (fun e => by omega), if_neg (by omega)]
        · unfold itoa
          rw [if_neg (by omega), Int.toNat_natCast, hdd]
/-- The two readings are one. -/
theorem number_numR (w : List UInt8) : number w = numR w := by
  cases h : numR w with
  | some n => exact number_of h
  | none =>
    cases hn : number w with
    | none => rfl
    | some n =>
      exfalso
      unfold number at hn
      split at hn
      · rename_i m ha
        split at hn
        · rename_i hi
          obtain rfl := Option.some.inj hn
          have hb := atoi_bounds ha
          have := numR_itoa hb.1 hb.2
          rw [hi, h] at this
          cases this
        · cases hn
      · cases hn
end Cm
end Go

/-
  The reference goes through a text byte for byte: what is still to come of the words, at each place. No program.
-/
namespace Go
namespace Cm

/-- The words that are still to come at the place i, where a word may be open since f. -/
def restW (l : List UInt8) (i : Nat) : Option Nat → List Tok
  | none => toksAt l i
  | some f => (f, piece l f (endOf l i)) :: toksAt l (endOf l i)

theorem toksAt_eq {l : List UInt8} {i j : Nat} (hi : i ≤ l.length) (hj : j ≤ l.length) (h : skipTo l i = skipTo l j) : toksAt l i = toksAt l j := by
  have hw : wordAt l i = wordAt l j := by unfold wordAt; rw [h]
  by_cases hn : (wordAt l i).1 = []
  · rw [toksAt_nil hi hn, toksAt_nil hj (hw ▸ hn)]
  · rw [toksAt_cons hi hn, toksAt_cons hj (hw ▸ hn), hw]
theorem toksAt_end (l : List UInt8) : toksAt l l.length = [] := by
  refine toksAt_nil (Nat.le_refl _) ?_
  unfold wordAt
  rw [skip_end (Nat.le_refl _), end_end (Nat.le_refl _)]
  simp [piece]
/-- A blank outside a word. -/
theorem rest_skip {l : List UInt8} {i : Nat} (hi : i < l.length) (h : blankB l[i] = true) : restW l i none = restW l (i + 1) none :=
  toksAt_eq (by omega) (by omega) (skip_yes hi h)
/-- A word begins. -/
theorem rest_open {l : List UInt8} {i : Nat} (hi : i < l.length) (h : blankB l[i] = false) : restW l i none = restW l (i + 1) (some i) := by
  have hs := skip_no hi h
  have he := end_yes hi h
  have hg := end_ge l (i + 1)
  have hw : wordAt l i = (piece l i (endOf l (i + 1)), i, endOf l (i + 1)) := by unfold wordAt; rw [hs, he]
  have hn : (wordAt l i).1 ≠ [] := by
    intro e
    have h2 := word_len (l := l) (i := i) (by omega)
    rw [e, hw] at h2
    simp only [List.length_nil] at h2
    omega
  show toksAt l i = _
  rw [toksAt_cons (by omega) hn, hw]
  rfl
/-- A word goes on. -/
theorem rest_in {l : List UInt8} {i f : Nat} (hi : i < l.length) (h : blankB l[i] = false) : restW l i (some f) = restW l (i + 1) (some f) := by
  unfold restW; rw [end_yes hi h]
/-- A word ends at a blank. -/
theorem rest_shut {l : List UInt8} {i f : Nat} (hi : i < l.length) (h : blankB l[i] = true) : restW l i (some f) = (f, piece l f i) :: restW l (i + 1) none := by
  show (f, piece l f (endOf l i)) :: toksAt l (endOf l i) = _
  rw [end_no hi h]
  exact congrArg _ (rest_skip hi h)
/-- The end of the text. -/
theorem rest_last (l : List UInt8) (f : Nat) : restW l l.length (some f) = [(f, piece l f l.length)] := by
  show (f, piece l f (endOf l l.length)) :: toksAt l (endOf l l.length) = _
  rw [end_end (Nat.le_refl _), toksAt_end]
theorem rest_none (l : List UInt8) : restW l l.length none = [] := toksAt_end l
end Cm
end Go

/-
  What the reference tells of kinds, names, sums: the same as the models. No program.
-/
namespace Go
namespace Cm

/-- The last kind below k, from 1 on, that has this word. -/
def kindTo (w : List UInt8) : Nat → Nat
  | 0 => 0
  | k + 1 => if 1 ≤ k ∧ rowW k = w then k else kindTo w k
theorem kindTo_rows : ∀ j : Fin 12, 1 ≤ j.1 → kindTo (rowW j.1) 12 = j.1 ∧ kindOf (rowW j.1) = j.1 := by decide +kernel
theorem kindTo_none {w : List UInt8} : ∀ {k : Nat}, k ≤ 12 → (∀ j, 1 ≤ j → j ≤ 11 → rowW j ≠ w) → kindTo w k = 0
  | 0, _, _ => rfl
  | k + 1, hk, h => by
    unfold kindTo
    rw [if_neg (fun e => h k e.1 (by omega) e.2)]
    exact kindTo_none (by omega) h
theorem kindFrom_none {w : List UInt8} : ∀ {f k : Nat}, 1 ≤ k → k + f ≤ 12 → (∀ j, 1 ≤ j → j ≤ 11 → rowW j ≠ w) → kindFrom w f k = 0
  | 0, _, _, _, _ => rfl
  | f + 1, k, h1, h2, h => by
    unfold kindFrom
    rw [if_neg (h k h1 (by omega))]
    exact kindFrom_none (by omega) (by omega) h
theorem kindTo_eq (w : List UInt8) : kindTo w 12 = kindOf w := by
  by_cases h : ∃ j, 1 ≤ j ∧ j ≤ 11 ∧ rowW j = w
  · obtain ⟨j, h1, h2, rfl⟩ := h
    have := kindTo_rows ⟨j, by omega⟩ h1
    rw [this.1, this.2]
  · have hn : ∀ j, 1 ≤ j → j ≤ 11 → rowW j ≠ w := fun j h1 h2 e => h ⟨j, h1, h2, e⟩
    rw [kindTo_none (Nat.le_refl _) hn]
    exact (kindFrom_none (by omega) (by omega) hn).symm
/-- May this byte stand at the place i of a name? -/
def nameB (c : UInt8) (i : Nat) : Bool := (97 ≤ c && c ≤ 122) || (decide (0 < i) && (c == 45 || (48 ≤ c && c ≤ 57)))
theorem legal_yes {l : List UInt8} (h : legalFrom (l.drop 0) 0 = true) : legal l = (decide (1 ≤ l.length) && decide (l.length ≤ 32)) := by
  unfold legal
  rw [List.drop_zero] at h
  rw [h]
  split <;> simp <;> omega
theorem legal_no {l : List UInt8} (h : legalFrom (l.drop 0) 0 = false) : legal l = false := by
  unfold legal
  rw [List.drop_zero] at h
  rw [h]
  split <;> rfl
end Cm
namespace Tm
theorem with_le (ts : List Task) (level frame : Int) (h : bad level frame ∨ frame ≤ largest ts level) : withOne ts level frame = bound ts := by
  unfold withOne
  split
  · rfl
  · rename_i hb
    have : frame ≤ largest ts level := h.resolve_left hb
    omega
theorem with_gt (ts : List Task) (level frame : Int) (h : ¬ bad level frame) (h2 : largest ts level < frame) : withOne ts level frame = bound ts - largest ts level + frame := by
  unfold withOne
  rw [if_neg h]; omega
end Tm
end Go

/-
  keelref3.Number: plain laws for its walk. No program.
-/
namespace Go
namespace Cm

/-- What the reference answers once the digits are known. -/
def finR (neg : Bool) (u : Nat) : Option Int := if neg then (if 9223372036854775808 < u then none else some (-(u : Int))) else if 9223372036854775808 ≤ u then none else some (u : Int)
/-- The reference at the digit k, where u is what the digits before it tell. -/
def atR (neg : Bool) (d : List UInt8) (k : Nat) : Option Int := if (d.drop k).all digB then finR neg (valD 0 d) else none
theorem numR_neg {d : List UInt8} : numR (45 :: d) = (magR true d).bind (finR true) := by
  unfold numR
  rw [if_pos (by rfl), List.tail_cons]
  cases magR true d <;> rfl
theorem numR_pos {w : List UInt8} (h : w.head? ≠ some 45) : numR w = (magR false w).bind (finR false) := by
  unfold numR
  rw [if_neg h]
  cases magR false w <;> rfl
theorem mag_none {neg : Bool} {d : List UInt8} (h : d = [] ∨ 19 < d.length ∨ (d.head? = some 48 ∧ (1 < d.length ∨ neg = true))) : (magR neg d).bind (finR neg) = none := by
  unfold magR; rw [if_pos h]; rfl
theorem mag_at {neg : Bool} {d : List UInt8} (h : ¬ (d = [] ∨ 19 < d.length ∨ (d.head? = some 48 ∧ (1 < d.length ∨ neg = true)))) : (magR neg d).bind (finR neg) = atR neg d 0 := by
  unfold magR atR; rw [if_neg h, List.drop_zero]
  cases d.all digB <;> rfl
theorem atR_yes {neg : Bool} {d : List UInt8} {k : Nat} (hk : k < d.length) (h : 48 ≤ d[k].toNat ∧ d[k].toNat ≤ 57) : atR neg d k = atR neg d (k + 1) := by
  unfold atR
  rw [List.drop_eq_getElem_cons hk, List.all_cons, show digB d[k] = true by simpa [digB] using h]
  rfl
theorem atR_no {neg : Bool} {d : List UInt8} {k : Nat} (hk : k < d.length) (h : ¬ (48 ≤ d[k].toNat ∧ d[k].toNat ≤ 57)) : atR neg d k = none := by
  unfold atR
  rw [List.drop_eq_getElem_cons hk, List.all_cons, show digB d[k] = false by simpa [digB] using h]
  rfl
theorem atR_end {neg : Bool} {d : List UInt8} : atR neg d d.length = finR neg (valD 0 d) := by
  unfold atR
  rw [List.drop_eq_nil_of_le (Nat.le_refl _)]
  rfl
theorem valD_take {d : List UInt8} {k : Nat} (hk : k < d.length) : valD 0 (d.take (k + 1)) = valD 0 (d.take k) * 10 + (d[k].toNat - 48) := by
  rw [List.take_succ_eq_append_getElem hk, valD_snoc]
end Cm
end Go

/-
  Ceilings as plain data. No program.
-/
namespace Go
namespace Tm

/-- The greatest level of a task that needs more of this resource than so many units. -/
def ceilFrom (res free : Int) : List Task → Int → Int
  | [], b => b
  | t :: ts, b => ceilFrom res free ts (if free < needOf t.needs res then max b t.level else b)
def ceil0 (ts : List Task) (res free : Int) : Int := ceilFrom res free ts 0
theorem ceilFrom_app {res free : Int} {x : Task} : ∀ {ts : List Task} {b : Int}, ceilFrom res free (ts ++ [x]) b = if free < needOf x.needs res then max (ceilFrom res free ts b) x.level else ceilFrom res free ts b
  | [], _ => rfl
  | t :: ts, b => by simp only [List.cons_append, ceilFrom]; exact ceilFrom_app
theorem ceil0_app (ts : List Task) (x : Task) (res free : Int) : ceil0 (ts ++ [x]) res free = if free < needOf x.needs res then max (ceil0 ts res free) x.level else ceil0 ts res free := ceilFrom_app
theorem ceil0_take {ts : List Task} {k : Nat} {x : Task} (h : ts[k]? = some x) (res free : Int) : ceil0 (ts.take (k + 1)) res free = if free < needOf x.needs res then max (ceil0 (ts.take k) res free) x.level else ceil0 (ts.take k) res free := by
  obtain ⟨hk, rfl⟩ := List.getElem?_eq_some_iff.1 h
  rw [List.take_succ_eq_append_getElem hk, ceil0_app]
theorem ceilFrom_is {res free : Int} : ∀ {ts : List Task} {b : Int}, ceilFrom res free ts b = b ∨ ∃ t ∈ ts, free < needOf t.needs res ∧ ceilFrom res free ts b = t.level
  | [], b => .inl rfl
  | t :: ts, b => by
    unfold ceilFrom
    rcases ceilFrom_is (res := res) (free := free) (ts := ts) (b := if free < needOf t.needs res then max b t.level else b) with h | ⟨u, h1, h2, h3⟩
    · rw [h]
      split
      · rename_i hf
        by_cases hl : b ≤ t.level
        · exact .inr ⟨t, by simp, hf, by omega⟩
        · exact .inl (by omega)
      · exact .inl rfl
    · exact .inr ⟨u, by simp [h1], h2, h3⟩
theorem ceil0_is (ts : List Task) (res free : Int) : ceil0 ts res free = 0 ∨ ∃ t ∈ ts, free < needOf t.needs res ∧ ceil0 ts res free = t.level := ceilFrom_is
theorem ceil0_none {ts : List Task} {res f : Int} (h : ∀ t ∈ ts, needOf t.needs res ≤ f) : ceil0 ts res f = 0 := by
  rcases ceil0_is ts res f with e | ⟨t, h1, h2, _⟩
  · exact e
  · have := h t h1; omega
/-- A sound list of needs: what it tells of a resource. -/
theorem needsFrom_of {us : List Int} : ∀ {l : List Need} {pre : Option Need} {res : Int}, needsFrom us pre l = 0 → needOf l res = 0 ∨ (0 ≤ res ∧ res < us.length ∧ 1 ≤ needOf l res ∧ needOf l res ≤ us.getD res.toNat 0)
  | [], _, _, _ => .inl rfl
  | n :: l, pre, res, h => by
    unfold needsFrom at h
    by_cases hr : n.res < 0 ∨ (us.length : Int) ≤ n.res ∨ n.units < 1 ∨ us.getD n.res.toNat 0 < n.units
    · rw [if_pos hr] at h; omega
    · rw [if_neg hr] at h
      have h' : needsFrom us (some n) l = 0 := by
        cases pre with
        | none => simpa using h
        | some p =>
          simp only at h
          split at h
          · omega
          · exact h
      unfold needOf
      by_cases he : n.res = res
      · rw [if_pos he]; subst he; right; omega
      · rw [if_neg he]; exact needsFrom_of h'
theorem needs_of {us : List Int} {l : List Need} (h : needsErr us l = 0) (res : Int) : needOf l res = 0 ∨ (0 ≤ res ∧ res < us.length ∧ 1 ≤ needOf l res ∧ needOf l res ≤ us.getD res.toNat 0) := needsFrom_of h
theorem begins_units {words : Int} {us : List Int} (h : begins words us = 0) : us.length ≤ 16 ∧ ∀ (i : Nat) n, us[i]? = some n → 1 ≤ n ∧ n ≤ 255 := by
  unfold begins at h
  split at h
  · omega
  · split at h
    · omega
    · split at h
      · rename_i h1 h2 h3
        refine ⟨by omega, fun i n hn => ?_⟩
        have := List.all_eq_true.1 h3 n (List.mem_of_getElem? hn)
        simpa using this
      · omega
theorem units_bd {words : Int} {us : List Int} (h : begins words us = 0) (res : Nat) (hr : res < us.length) : 1 ≤ us.getD res 0 ∧ us.getD res 0 ≤ 255 := by
  have := (begins_units h).2 res us[res] (List.getElem?_eq_getElem hr)
  rw [List.getD_eq_getElem?_getD, List.getElem?_eq_getElem hr]
  exact this
theorem need_bd {m : TM} (hm : m.Ok) {t : Task} (ht : t ∈ m.ts) (res : Int) : 0 ≤ needOf t.needs res ∧ needOf t.needs res ≤ 255 ∧ needOf t.needs res ≤ m.units.getD res.toNat 0 ∨ needOf t.needs res = 0 := by
  rcases needs_of (hm.needs t ht) res with h | ⟨h1, h2, h3, h4⟩
  · exact .inr h
  · have := units_bd hm.begins res.toNat (by omega)
    left; omega
theorem need_255 {m : TM} (hm : m.Ok) {t : Task} (ht : t ∈ m.ts) (res : Int) : 0 ≤ needOf t.needs res ∧ needOf t.needs res ≤ 255 := by
  have := need_bd hm ht res; omega

def TM.has (m : TM) (res : Int) : Prop := 0 ≤ res ∧ res < m.units.length
instance (m : TM) (res : Int) : Decidable (m.has res) := by unfold TM.has; infer_instance
def TM.unitsOf (m : TM) (res : Int) : Int := m.units.getD res.toNat 0
/-- A resource's ceiling at so many free units. -/
def TM.ceilAt (m : TM) (res free : Int) : Int := if m.has res ∧ free ≤ m.unitsOf res then ceil0 m.ts res (max free 0) else 0
def TM.ceilRow (m : TM) (res : Int) : List Int := if m.has res then (List.range ((m.unitsOf res).toNat + 1)).map fun f => ceil0 m.ts res (f : Nat) else []
theorem unitsOf_bd {m : TM} (hm : m.Ok) {res : Int} (h : m.has res) : 1 ≤ m.unitsOf res ∧ m.unitsOf res ≤ 255 := by
  unfold TM.has at h
  exact units_bd hm.begins res.toNat (by omega)
/-- From all units on there is no ceiling. -/
theorem ceil_all {m : TM} (hm : m.Ok) {res free : Int} (h : m.unitsOf res ≤ free) (h0 : 0 ≤ free) : ceil0 m.ts res free = 0 := by
  refine ceil0_none fun t ht => ?_
  rcases needs_of (hm.needs t ht) res with h1 | ⟨h1, h2, h3, h4⟩
  · omega
  · unfold TM.unitsOf at h; omega
theorem ceil_hasnt {m : TM} (hm : m.Ok) {res free : Int} (h : ¬ m.has res) (h0 : 0 ≤ free) : ceil0 m.ts res free = 0 := by
  refine ceil0_none fun t ht => ?_
  rcases needs_of (hm.needs t ht) res with h1 | ⟨h1, h2, h3, h4⟩
  · omega
  · exact absurd ⟨h1, h2⟩ h
/-- A ceiling is what the tasks tell, in every case. -/
theorem ceilAt_eq {m : TM} (hm : m.Ok) (res free : Int) : m.ceilAt res free = ceil0 m.ts res (max free 0) := by
  unfold TM.ceilAt
  split
  · rfl
  · rename_i h
    by_cases hh : m.has res
    · have : m.unitsOf res < free := by
        have : ¬ free ≤ m.unitsOf res := fun hf => h ⟨hh, hf⟩
        omega
      have hb := unitsOf_bd hm hh
      exact (ceil_all hm (by omega) (by omega)).symm
    · exact (ceil_hasnt hm hh (by omega)).symm

/-- What rowOf tells. -/
def TM.rowF (m : TM) (res : Int) : Nat → Int := if m.has res then (fun (f : Nat) => ceil0 m.ts res (f : Int)) else fun _ => 0
def TM.rowN (m : TM) (res : Int) : Int := if m.has res then m.unitsOf res else -1
/-- The cells of a row of ceilings, 256 of them. -/
def cellsF (g : Nat → Int) : List Value := (List.range 256).map fun f => .int .i64 (g f)
theorem cellsF_len (g : Nat → Int) : (cellsF g).length = 256 := by simp [cellsF]
theorem cellsF_at (g : Nat → Int) {i : Nat} (h : i < 256) : (cellsF g)[i]? = some (.int .i64 (g i)) := by
  unfold cellsF; rw [List.getElem?_map, List.getElem?_range h]; rfl
theorem cellsF_one (g : Nat → Int) : ∀ u ∈ cellsF g, u.oneCell' = true := by
  intro u hu
  obtain ⟨f, _, rfl⟩ := List.mem_map.1 hu; rfl
theorem cellsF_set (g : Nat → Int) (j : Nat) (n : Int) : (cellsF g).set j (.int .i64 n) = cellsF fun f => if f = j then n else g f := by
  refine List.ext_getElem? fun i => ?_
  rw [List.getElem?_set]
  by_cases hi : i < 256
  · rw [cellsF_at _ hi]
    by_cases hj : j = i
    · rw [if_pos hj, if_pos (by rw [cellsF_len]; omega), cellsF_at _ hi, if_pos hj.symm]
    · rw [if_neg hj, cellsF_at _ hi, if_neg (fun e => hj e.symm)]
  · have e : ∀ g, (cellsF g)[i]? = none := fun g => List.getElem?_eq_none (by rw [cellsF_len]; omega)
    rw [e, e]
    by_cases hj : j = i
    · rw [if_pos hj, if_neg (by rw [cellsF_len]; omega)]
    · rw [if_neg hj]
theorem cellsF_congr {g h : Nat → Int} (e : ∀ i, i < 256 → g i = h i) : cellsF g = cellsF h := by
  unfold cellsF
  exact List.map_congr_left fun i hi => by rw [e i (List.mem_range.1 hi)]
end Tm
end Go
