/-
  Programs' texts, operations and steps as plain data. No program.
-/
import Derived.Lib.AtoiAll
import Derived.Lib.ItoaNum
namespace Go
namespace Cm

structure Op where
  kind : Int
  res : Int
  n : Int
  v : Int
  deriving DecidableEq

def blankB (c : UInt8) : Bool := c == 9 || c == 10 || c == 13 || c == 32 || c == 59

/-- The words of a text from a place on, each with its place. -/
abbrev Tok := Nat × List UInt8
def skipTo (l : List UInt8) (i : Nat) : Nat := i + ((l.drop i).takeWhile blankB).length
def endOf (l : List UInt8) (i : Nat) : Nat := i + ((l.drop i).takeWhile fun c => !blankB c).length
theorem skip_yes {l : List UInt8} {k : Nat} (hk : k < l.length) (h : blankB l[k] = true) : skipTo l k = skipTo l (k + 1) := by
  unfold skipTo
  rw [List.drop_eq_getElem_cons hk, List.takeWhile_cons, if_pos h]
  simp; omega
theorem skip_no {l : List UInt8} {k : Nat} (hk : k < l.length) (h : blankB l[k] = false) : skipTo l k = k := by
  unfold skipTo
  rw [List.drop_eq_getElem_cons hk, List.takeWhile_cons, if_neg (by simp [h])]
  simp
theorem skip_end {l : List UInt8} {k : Nat} (hk : l.length ≤ k) : skipTo l k = k := by
  unfold skipTo; rw [List.drop_eq_nil_of_le hk]; simp
theorem end_yes {l : List UInt8} {k : Nat} (hk : k < l.length) (h : blankB l[k] = false) : endOf l k = endOf l (k + 1) := by
  unfold endOf
  rw [List.drop_eq_getElem_cons hk, List.takeWhile_cons, if_pos (by simp [h])]
  simp; omega
theorem end_no {l : List UInt8} {k : Nat} (hk : k < l.length) (h : blankB l[k] = true) : endOf l k = k := by
  unfold endOf
  rw [List.drop_eq_getElem_cons hk, List.takeWhile_cons, if_neg (by simp [h])]
  simp
theorem end_end {l : List UInt8} {k : Nat} (hk : l.length ≤ k) : endOf l k = k := by
  unfold endOf; rw [List.drop_eq_nil_of_le hk]; simp
theorem skip_len (l : List UInt8) (i : Nat) (h : i ≤ l.length) : skipTo l i ≤ l.length := by
  have := (List.takeWhile_prefix blankB (l := l.drop i)).length_le
  simp only [skipTo, List.length_drop] at *; omega
theorem end_len (l : List UInt8) (i : Nat) (h : i ≤ l.length) : endOf l i ≤ l.length := by
  have := (List.takeWhile_prefix (fun c => !blankB c) (l := l.drop i)).length_le
  simp only [endOf, List.length_drop] at *; omega
theorem end_ge (l : List UInt8) (i : Nat) : i ≤ endOf l i := by unfold endOf; omega
theorem skip_ge (l : List UInt8) (i : Nat) : i ≤ skipTo l i := by unfold skipTo; omega
def piece (l : List UInt8) (a b : Nat) : List UInt8 := (l.drop a).take (b - a)
/-- The next word, its place, the place behind it. -/
def wordAt (l : List UInt8) (i : Nat) : List UInt8 × Nat × Nat := (piece l (skipTo l i) (endOf l (skipTo l i)), skipTo l i, endOf l (skipTo l i))
def toks (l : List UInt8) : Nat → Nat → List Tok
  | 0, _ => []
  | f + 1, i => if (wordAt l i).1 = [] then [] else ((wordAt l i).2.1, (wordAt l i).1) :: toks l f (wordAt l i).2.2
/-- All words from the place i on. -/
def toksAt (l : List UInt8) (i : Nat) : List Tok := toks l (l.length + 1 - i) i

theorem word_len {l : List UInt8} {i : Nat} (h : i ≤ l.length) : (wordAt l i).1.length = (wordAt l i).2.2 - (wordAt l i).2.1 := by
  have h1 := skip_len l i h
  have h2 := end_len l _ h1
  simp only [wordAt, piece, List.length_take, List.length_drop]; omega
theorem toks_step {l : List UInt8} : ∀ {k i : Nat}, l.length + 1 - i ≤ k → i ≤ l.length → toks l (k + 1) i = toks l k i := by
  intro k
  induction k with
  | zero => intro i h1 h2; omega
  | succ k ih =>
    intro i h1 h2
    conv => lhs; unfold toks
    conv => rhs; unfold toks
    split
    · rfl
    · rename_i hne
      have h3 := skip_len l i h2
      have h4 : (wordAt l i).2.2 ≤ l.length := end_len l _ h3
      have h5 := skip_ge l i
      have h6 := word_len h2
      have h7 : 0 < (wordAt l i).1.length := List.length_pos_iff.2 hne
      have h8 : i < (wordAt l i).2.2 := by simp only [wordAt] at h6 h7 ⊢; omega
      rw [ih (by omega) h4]
theorem toks_more {l : List UInt8} (f i : Nat) (hi : i ≤ l.length) (hf : l.length + 1 - i ≤ f) : toks l f i = toks l (l.length + 1 - i) i := by
  induction f with
  | zero => omega
  | succ f ih =>
    by_cases h : l.length + 1 - i = f + 1
    · rw [h]
    · rw [toks_step (by omega) hi]; exact ih (by omega)

theorem toksAt_nil {l : List UInt8} {i : Nat} (hi : i ≤ l.length) (h : (wordAt l i).1 = []) : toksAt l i = [] := by
  unfold toksAt
  obtain ⟨g, hg⟩ : ∃ g, l.length + 1 - i = g + 1 := ⟨l.length - i, by omega⟩
  rw [hg]; unfold toks; rw [if_pos h]
theorem toksAt_cons {l : List UInt8} {i : Nat} (hi : i ≤ l.length) (h : (wordAt l i).1 ≠ []) : toksAt l i = ((wordAt l i).2.1, (wordAt l i).1) :: toksAt l (wordAt l i).2.2 := by
  unfold toksAt
  obtain ⟨g, hg⟩ : ∃ g, l.length + 1 - i = g + 1 := ⟨l.length - i, by omega⟩
  rw [hg]
  conv => lhs; unfold toks
  rw [if_neg h]
  have h1 := skip_len l i hi
  have h2 : (wordAt l i).2.2 ≤ l.length := end_len l _ h1
  have h3 := skip_ge l i
  have h4 := word_len hi
  have h5 : 0 < (wordAt l i).1.length := List.length_pos_iff.2 h
  simp only [wordAt] at h4 h5
  have h6 : i < (wordAt l i).2.2 := by simp only [wordAt]; omega
  rw [toks_more g _ h2 (by omega)]

def rowW : Nat → List UInt8
  | 1 => [108, 111, 99, 107] | 2 => [117, 110, 108, 111, 99, 107] | 3 => [112, 117, 115, 104] | 4 => [112, 111, 112] | 5 => [119, 111, 114, 107] | 6 => [108, 111, 97, 100]
  | 7 => [115, 116, 111, 114, 101] | 8 => [97, 100, 100] | 9 => [102, 105, 110, 105, 115, 104] | 10 => [114, 101, 112, 101, 97, 116] | 11 => [125] | _ => []
def rowH : Nat → Nat
  | 1 => 1 | 2 => 2 | 3 => 3 | 5 => 4 | 6 => 2 | 7 => 2 | 10 => 4 | _ => 0
/-- The first kind from k on that has this word. -/
def kindFrom (w : List UInt8) : Nat → Nat → Nat
  | 0, _ => 0
  | f + 1, k => if rowW k = w then k else kindFrom w f (k + 1)
def kindOf (w : List UInt8) : Nat := kindFrom w 11 1

inductive Place | r | u | s | v
/-- The fields behind an operation's word. -/
def placesH : Nat → List Place
  | 1 => [.r, .u] | 2 => [.r] | 3 => [.v] | 4 => [.s] | _ => []
def places (k : Nat) : List Place := placesH (rowH k)
def okP : Place → Int → Bool
  | .r, n => decide (0 ≤ n ∧ n < 16)
  | .u, n => decide (1 ≤ n ∧ n ≤ 255)
  | .s, n => decide (1 ≤ n ∧ n ≤ 4096)
  | .v, _ => true
def put : Place → Op → Int → Op
  | .r, o, n => { o with res := n }
  | .u, o, n | .s, o, n => { o with n := n }
  | .v, o, n => { o with v := n }

/-- A number in its one form. -/
def number (w : List UInt8) : Option Int := match Lib.atoiAll w with | .ok n => if Lib.itoa n = w then some n else none | _ => none

inductive Res (α : Type) | err (at_ e : Int) | ok (a : α)
def readF (len : Int) : List Place → Op → List Tok → Res (Op × List Tok)
  | [], o, ts => .ok (o, ts)
  | _ :: _, _, [] => .err len 31
  | p :: ps, o, (i, w) :: ts => match number w with
    | some n => if okP p n then readF len ps (put p o n) ts else .err i 30
    | none => .err i 30
def brace (len : Int) : List Tok → Res (List Tok)
  | [] => .err len 31
  | (i, w) :: ts => if w = [123] then .ok ts else .err i 30
/-- An operation behind its first word. -/
def one (len : Int) (kind : Nat) (ts : List Tok) : Res (Op × List Tok) :=
  match readF len (places kind) ⟨kind, 0, 0, 0⟩ ts with
  | .err i e => .err i e
  | .ok (o, ts) => if kind = 10 then (match brace len ts with | .err i e => .err i e | .ok ts => .ok (o, ts)) else .ok (o, ts)
def begins (kind nops : Nat) (opn : Int) : Int :=
  if nops = 256 then 4 else if kind = 0 ∨ (kind = 11 ∧ opn = 0) then 30 else if kind = 10 ∧ opn = 4 then 32 else 0
def nextOpen (kind : Nat) (opn : Int) : Int := if kind = 10 then opn + 1 else if kind = 11 then opn - 1 else opn

def parseT (len : Int) : Nat → List Tok → List Op → Int → Res (List Op)
  | _, [], ops, opn => if 0 < opn then .err len 31 else .ok ops
  | 0, _ :: _, ops, _ => .ok ops
  | f + 1, (i, w) :: ts, ops, opn =>
    if begins (kindOf w) ops.length opn ≠ 0 then .err i (begins (kindOf w) ops.length opn)
    else match one len (kindOf w) ts with
      | .err i e => .err i e
      | .ok (o, ts) => parseT len f ts (ops ++ [o]) (nextOpen (kindOf w) opn)
/-- What Parse answers: the operations, a place, a refusal. -/
def parse (l : List UInt8) : Res (List Op) := if 4096 < l.length then .err 0 5 else parseT l.length (toksAt l 0).length (toksAt l 0) [] 0

def fieldsH : Nat → Op → Bool
  | 1, o => decide (0 ≤ o.res) && decide (o.res < 16) && decide (1 ≤ o.n) && decide (o.n ≤ 255) && decide (o.v = 0)
  | 2, o => decide (0 ≤ o.res) && decide (o.res < 16) && decide (o.n = 0) && decide (o.v = 0)
  | 3, o => decide (o.res = 0) && decide (o.n = 0)
  | 4, o => decide (o.res = 0) && decide (1 ≤ o.n) && decide (o.n ≤ 4096) && decide (o.v = 0)
  | _, o => decide (o.res = 0) && decide (o.n = 0) && decide (o.v = 0)
def fieldsOk (o : Op) : Bool := if o.kind < 1 ∨ 11 < o.kind then false else fieldsH (rowH o.kind.toNat) o

/-- What Check tells: from the place i on. -/
def checkFrom (len : Nat) : List Op → Nat → Int → Int × Int
  | [], _, opn => if 0 < opn then (len, 31) else (0, 0)
  | o :: p, i, opn =>
    if fieldsOk o = false then (i, 30)
    else if o.kind = 10 then (if opn = 4 then (i, 32) else checkFrom len p (i + 1) (opn + 1))
    else if o.kind = 11 then (if opn = 0 then (i, 31) else checkFrom len p (i + 1) (opn - 1))
    else checkFrom len p (i + 1) opn
def check (p : List Op) : Int × Int := if 256 < p.length then (256, 4) else checkFrom p.length p 0 0

inductive Stt | go | done | long
  deriving DecidableEq
def step (o : Op) (out : List Op) : List Op × Stt :=
  if out.length = 4096 then (out, .long) else (out ++ [o], if o.kind = 9 then .done else .go)
/-- n times. -/
def rep (f : List Op → List Op × Stt) (was : Nat) : Nat → List Op → List Op × Stt
  | 0, out => (out, .go)
  | n + 1, out => match f out with
    | (out', .go) => if out'.length = was then (out', .go) else rep f was n out'
    | (out', s) => (out', s)
def times (o : Op) : Nat → List Op → List Op × Stt
  | 0, out => (out, .go)
  | n + 1, out => match step o out with
    | (out', .go) => times o n out'
    | (out', s) => (out', s)
/-- How far from its begin the end of a repeat stands. -/
def shut : List Op → Nat → Nat
  | [], _ => 0
  | o :: p, opn =>
    let m := if o.kind = 10 then opn + 1 else if o.kind = 11 then opn - 1 else opn
    if m = 0 then 0 else shut p m + 1
def work : Op := ⟨5, 0, 1, 0⟩
def finish : Op := ⟨9, 0, 0, 0⟩
def play : Nat → List Op → List Op → List Op × Stt
  | 0, _, out => (out, .go)
  | _, [], out => (out, .go)
  | f + 1, o :: p, out =>
    if o.kind = 10 then
      let k := shut (o :: p) 0
      match rep (play f (p.take (k - 1))) out.length o.n.toNat out with
      | (out', .go) => play f (p.drop k) out'
      | (out', s) => (out', s)
    else if o.kind = 5 then
      match times work o.n.toNat out with
      | (out', .go) => play f p out'
      | (out', s) => (out', s)
    else match step o out with
      | (out', .go) => play f p out'
      | (out', s) => (out', s)
def playAll (p : List Op) : List Op × Stt :=
  match play (p.length + 1) p [] with
  | (out, .go) => step finish out
  | (out, s) => (out, s)
/-- A program's steps, or what is refused. -/
def steps (p : List Op) : List Op × Int :=
  if (check p).2 ≠ 0 then ([], (check p).2) else match playAll p with | (_, .long) => ([], 5) | (out, _) => (out, 0)

def legalFrom : List UInt8 → Nat → Bool
  | [], _ => true
  | c :: l, i => if (97 ≤ c && c ≤ 122) || (decide (0 < i) && (c == 45 || (48 ≤ c && c ≤ 57))) then legalFrom l (i + 1) else false
def legal (l : List UInt8) : Bool := if l.length < 1 ∨ 32 < l.length then false else legalFrom l 0

/-- A text's steps, or what is refused of it. -/
def program (l : List UInt8) : List Op × Int :=
  match parse l with
  | .err _ e => ([], e)
  | .ok p => steps p
end Cm
end Go
