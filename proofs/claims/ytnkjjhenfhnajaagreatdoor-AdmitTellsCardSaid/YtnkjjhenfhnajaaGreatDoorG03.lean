/-
  Texts Cm Ct Cr in one.
-/
import Derived.Lib.AtoiAll
import Derived.Lib.ItoaNum
/-
  Programs' texts, operations and steps as plain data. No program.
-/
namespace Go
namespace Cm

structure Op where
  kind : Int
  res : Int
  n : Int
  v : Int
  deriving DecidableEq

def blankB (c : UInt8) : Bool := c == 9 || c == 10 || c == 13 || c == 32 || c == 59

/-- The words of a text from a place on, each with its place. -/
abbrev Tok := Nat × List UInt8
def skipTo (l : List UInt8) (i : Nat) : Nat := i + ((l.drop i).takeWhile blankB).length
def endOf (l : List UInt8) (i : Nat) : Nat := i + ((l.drop i).takeWhile fun c => !blankB c).length
theorem skip_yes {l : List UInt8} {k : Nat} (hk : k < l.length) (h : blankB l[k] = true) : skipTo l k = skipTo l (k + 1) := by
  unfold skipTo
  rw [List.drop_eq_getElem_cons hk, List.takeWhile_cons, if_pos h]
  simp; omega
theorem skip_no {l : List UInt8} {k : Nat} (hk : k < l.length) (h : blankB l[k] = false) : skipTo l k = k := by
  unfold skipTo
  rw [List.drop_eq_getElem_cons hk, List.takeWhile_cons, if_neg (by simp [h])]
  simp
theorem skip_end {l : List UInt8} {k : Nat} (hk : l.length ≤ k) : skipTo l k = k := by
  unfold skipTo; rw [List.drop_eq_nil_of_le hk]; simp
theorem end_yes {l : List UInt8} {k : Nat} (hk : k < l.length) (h : blankB l[k] = false) : endOf l k = endOf l (k + 1) := by
  unfold endOf
  rw [List.drop_eq_getElem_cons hk, List.takeWhile_cons, if_pos (by simp [h])]
  simp; omega
theorem end_no {l : List UInt8} {k : Nat} (hk : k < l.length) (h : blankB l[k] = true) : endOf l k = k := by
  unfold endOf
  rw [List.drop_eq_getElem_cons hk, List.takeWhile_cons, if_neg (by simp [h])]
  simp
theorem end_end {l : List UInt8} {k : Nat} (hk : l.length ≤ k) : endOf l k = k := by
  unfold endOf; rw [List.drop_eq_nil_of_le hk]; simp
theorem skip_len (l : List UInt8) (i : Nat) (h : i ≤ l.length) : skipTo l i ≤ l.length := by
  have := (List.takeWhile_prefix blankB (l := l.drop i)).length_le
  simp only [skipTo, List.length_drop] at *; omega
theorem end_len (l : List UInt8) (i : Nat) (h : i ≤ l.length) : endOf l i ≤ l.length := by
  have := (List.takeWhile_prefix (fun c => !blankB c) (l := l.drop i)).length_le
  simp only [endOf, List.length_drop] at *; omega
theorem end_ge (l : List UInt8) (i : Nat) : i ≤ endOf l i := by unfold endOf; omega
theorem skip_ge (l : List UInt8) (i : Nat) : i ≤ skipTo l i := by unfold skipTo; omega
def piece (l : List UInt8) (a b : Nat) : List UInt8 := (l.drop a).take (b - a)
/-- The next word, its place, the place behind it. -/
def wordAt (l : List UInt8) (i : Nat) : List UInt8 × Nat × Nat := (piece l (skipTo l i) (endOf l (skipTo l i)), skipTo l i, endOf l (skipTo l i))
def toks (l : List UInt8) : Nat → Nat → List Tok
  | 0, _ => []
  | f + 1, i => if (wordAt l i).1 = [] then [] else ((wordAt l i).2.1, (wordAt l i).1) :: toks l f (wordAt l i).2.2
/-- All words from the place i on. -/
def toksAt (l : List UInt8) (i : Nat) : List Tok := toks l (l.length + 1 - i) i

theorem word_len {l : List UInt8} {i : Nat} (h : i ≤ l.length) : (wordAt l i).1.length = (wordAt l i).2.2 - (wordAt l i).2.1 := by
  have h1 := skip_len l i h
  have h2 := end_len l _ h1
  simp only [wordAt, piece, List.length_take, List.length_drop]; omega
theorem toks_step {l : List UInt8} : ∀ {k i : Nat}, l.length + 1 - i ≤ k → i ≤ l.length → toks l (k + 1) i = toks l k i := by
  intro k
  induction k with
  | zero => intro i h1 h2; omega
  | succ k ih =>
    intro i h1 h2
    conv => lhs; unfold toks
    conv => rhs; unfold toks
    split
    · rfl
    · rename_i hne
      have h3 := skip_len l i h2
      have h4 : (wordAt l i).2.2 ≤ l.length := end_len l _ h3
      have h5 := skip_ge l i
      have h6 := word_len h2
      have h7 : 0 < (wordAt l i).1.length := List.length_pos_iff.2 hne
      have h8 : i < (wordAt l i).2.2 := by simp only [wordAt] at h6 h7 ⊢; omega
      rw [ih (by omega) h4]
theorem toks_more {l : List UInt8} (f i : Nat) (hi : i ≤ l.length) (hf : l.length + 1 - i ≤ f) : toks l f i = toks l (l.length + 1 - i) i := by
  induction f with
  | zero => omega
  | succ f ih =>
    by_cases h : l.length + 1 - i = f + 1
    · rw [h]
    · rw [toks_step (by omega) hi]; exact ih (by omega)

theorem toksAt_nil {l : List UInt8} {i : Nat} (hi : i ≤ l.length) (h : (wordAt l i).1 = []) : toksAt l i = [] := by
  unfold toksAt
  obtain ⟨g, hg⟩ : ∃ g, l.length + 1 - i = g + 1 := ⟨l.length - i, by omega⟩
  rw [hg]; unfold toks; rw [if_pos h]
theorem toksAt_cons {l : List UInt8} {i : Nat} (hi : i ≤ l.length) (h : (wordAt l i).1 ≠ []) : toksAt l i = ((wordAt l i).2.1, (wordAt l i).1) :: toksAt l (wordAt l i).2.2 := by
  unfold toksAt
  obtain ⟨g, hg⟩ : ∃ g, l.length + 1 - i = g + 1 := ⟨l.length - i, by omega⟩
  rw [hg]
  conv => lhs; unfold toks
  rw [if_neg h]
  have h1 := skip_len l i hi
  have h2 : (wordAt l i).2.2 ≤ l.length := end_len l _ h1
  have h3 := skip_ge l i
  have h4 := word_len hi
  have h5 : 0 < (wordAt l i).1.length := List.length_pos_iff.2 h
  simp only [wordAt] at h4 h5
  have h6 : i < (wordAt l i).2.2 := by simp only [wordAt]; omega
  rw [toks_more g _ h2 (by omega)]

def rowW : Nat → List UInt8
  | 1 => [108, 111, 99, 107] | 2 => [117, 110, 108, 111, 99, 107] | 3 => [112, 117, 115, 104] | 4 => [112, 111, 112] | 5 => [119, 111, 114, 107] | 6 => [108, 111, 97, 100]
  | 7 => [115, 116, 111, 114, 101] | 8 => [97, 100, 100] | 9 => [102, 105, 110, 105, 115, 104] | 10 => [114, 101, 112, 101, 97, 116] | 11 => [125] | _ => []
def rowH : Nat → Nat
  | 1 => 1 | 2 => 2 | 3 => 3 | 5 => 4 | 6 => 2 | 7 => 2 | 10 => 4 | _ => 0
/-- The first kind from k on that has this word. -/
def kindFrom (w : List UInt8) : Nat → Nat → Nat
  | 0, _ => 0
  | f + 1, k => if rowW k = w then k else kindFrom w f (k + 1)
def kindOf (w : List UInt8) : Nat := kindFrom w 11 1

inductive Place | r | u | s | v
/-- The fields behind an operation's word. -/
def placesH : Nat → List Place
  | 1 => [.r, .u] | 2 => [.r] | 3 => [.v] | 4 => [.s] | _ => []
def places (k : Nat) : List Place := placesH (rowH k)
def okP : Place → Int → Bool
  | .r, n => decide (0 ≤ n ∧ n < 16)
  | .u, n => decide (1 ≤ n ∧ n ≤ 255)
  | .s, n => decide (1 ≤ n ∧ n ≤ 4096)
  | .v, _ => true
def put : Place → Op → Int → Op
  | .r, o, n => { o with res := n }
  | .u, o, n | .s, o, n => { o with n := n }
  | .v, o, n => { o with v := n }

/-- A number in its one form. -/
def number (w : List UInt8) : Option Int := match Lib.atoiAll w with | .ok n => if Lib.itoa n = w then some n else none | _ => none

inductive Res (α : Type) | err (at_ e : Int) | ok (a : α)
def readF (len : Int) : List Place → Op → List Tok → Res (Op × List Tok)
  | [], o, ts => .ok (o, ts)
  | _ :: _, _, [] => .err len 31
  | p :: ps, o, (i, w) :: ts => match number w with
    | some n => if okP p n then readF len ps (put p o n) ts else .err i 30
    | none => .err i 30
def brace (len : Int) : List Tok → Res (List Tok)
  | [] => .err len 31
  | (i, w) :: ts => if w = [123] then .ok ts else .err i 30
/-- An operation behind its first word. -/
def one (len : Int) (kind : Nat) (ts : List Tok) : Res (Op × List Tok) :=
  match readF len (places kind) ⟨kind, 0, 0, 0⟩ ts with
  | .err i e => .err i e
  | .ok (o, ts) => if kind = 10 then (match brace len ts with | .err i e => .err i e | .ok ts => .ok (o, ts)) else .ok (o, ts)
def begins (kind nops : Nat) (opn : Int) : Int :=
  if nops = 256 then 4 else if kind = 0 ∨ (kind = 11 ∧ opn = 0) then 30 else if kind = 10 ∧ opn = 4 then 32 else 0
def nextOpen (kind : Nat) (opn : Int) : Int := if kind = 10 then opn + 1 else if kind = 11 then opn - 1 else opn

def parseT (len : Int) : Nat → List Tok → List Op → Int → Res (List Op)
  | _, [], ops, opn => if 0 < opn then .err len 31 else .ok ops
  | 0, _ :: _, ops, _ => .ok ops
  | f + 1, (i, w) :: ts, ops, opn =>
    if begins (kindOf w) ops.length opn ≠ 0 then .err i (begins (kindOf w) ops.length opn)
    else match one len (kindOf w) ts with
      | .err i e => .err i e
      | .ok (o, ts) => parseT len f ts (ops ++ [o]) (nextOpen (kindOf w) opn)
/-- What Parse answers: the operations, a place, a refusal. -/
def parse (l : List UInt8) : Res (List Op) := if 4096 < l.length then .err 0 5 else parseT l.length (toksAt l 0).length (toksAt l 0) [] 0

def fieldsH : Nat → Op → Bool
  | 1, o => decide (0 ≤ o.res) && decide (o.res < 16) && decide (1 ≤ o.n) && decide (o.n ≤ 255) && decide (o.v = 0)
  | 2, o => decide (0 ≤ o.res) && decide (o.res < 16) && decide (o.n = 0) && decide (o.v = 0)
  | 3, o => decide (o.res = 0) && decide (o.n = 0)
  | 4, o => decide (o.res = 0) && decide (1 ≤ o.n) && decide (o.n ≤ 4096) && decide (o.v = 0)
  | _, o => decide (o.res = 0) && decide (o.n = 0) && decide (o.v = 0)
def fieldsOk (o : Op) : Bool := if o.kind < 1 ∨ 11 < o.kind then false else fieldsH (rowH o.kind.toNat) o

/-- What Check tells: from the place i on. -/
def checkFrom (len : Nat) : List Op → Nat → Int → Int × Int
  | [], _, opn => if 0 < opn then (len, 31) else (0, 0)
  | o :: p, i, opn =>
    if fieldsOk o = false then (i, 30)
    else if o.kind = 10 then (if opn = 4 then (i, 32) else checkFrom len p (i + 1) (opn + 1))
    else if o.kind = 11 then (if opn = 0 then (i, 31) else checkFrom len p (i + 1) (opn - 1))
    else checkFrom len p (i + 1) opn
def check (p : List Op) : Int × Int := if 256 < p.length then (256, 4) else checkFrom p.length p 0 0

inductive Stt | go | done | long
  deriving DecidableEq
def step (o : Op) (out : List Op) : List Op × Stt :=
  if out.length = 4096 then (out, .long) else (out ++ [o], if o.kind = 9 then .done else .go)
/-- n times. -/
def rep (f : List Op → List Op × Stt) (was : Nat) : Nat → List Op → List Op × Stt
  | 0, out => (out, .go)
  | n + 1, out => match f out with
    | (out', .go) => if out'.length = was then (out', .go) else rep f was n out'
    | (out', s) => (out', s)
def times (o : Op) : Nat → List Op → List Op × Stt
  | 0, out => (out, .go)
  | n + 1, out => match step o out with
    | (out', .go) => times o n out'
    | (out', s) => (out', s)
/-- How far from its begin the end of a repeat stands. -/
def shut : List Op → Nat → Nat
  | [], _ => 0
  | o :: p, opn =>
    let m := if o.kind = 10 then opn + 1 else if o.kind = 11 then opn - 1 else opn
    if m = 0 then 0 else shut p m + 1
def work : Op := ⟨5, 0, 1, 0⟩
def finish : Op := ⟨9, 0, 0, 0⟩
def play : Nat → List Op → List Op → List Op × Stt
  | 0, _, out => (out, .go)
  | _, [], out => (out, .go)
  | f + 1, o :: p, out =>
    if o.kind = 10 then
      let k := shut (o :: p) 0
      match rep (play f (p.take (k - 1))) out.length o.n.toNat out with
      | (out', .go) => play f (p.drop k) out'
      | (out', s) => (out', s)
    else if o.kind = 5 then
      match times work o.n.toNat out with
      | (out', .go) => play f p out'
      | (out', s) => (out', s)
    else match step o out with
      | (out', .go) => play f p out'
      | (out', s) => (out', s)
def playAll (p : List Op) : List Op × Stt :=
  match play (p.length + 1) p [] with
  | (out, .go) => step finish out
  | (out, s) => (out, s)
/-- A program's steps, or what is refused. -/
def steps (p : List Op) : List Op × Int :=
  if (check p).2 ≠ 0 then ([], (check p).2) else match playAll p with | (_, .long) => ([], 5) | (out, _) => (out, 0)

def legalFrom : List UInt8 → Nat → Bool
  | [], _ => true
  | c :: l, i => if (97 ≤ c && c ≤ 122) || (decide (0 < i) && (c == 45 || (48 ≤ c && c ≤ 57))) then legalFrom l (i + 1) else false
def legal (l : List UInt8) : Bool := if l.length < 1 ∨ 32 < l.length then false else legalFrom l 0

/-- A text's steps, or what is refused of it. -/
def program (l : List UInt8) : List Op × Int :=
  match parse l with
  | .err _ e => ([], e)
  | .ok p => steps p
end Cm
end Go

/-
  The steps of a program in plain data: parts, their ends. No program.
-/
namespace Go
namespace Cm

theorem play_nil (f : Nat) (out : List Op) : play f [] out = (out, .go) := by cases f <;> rfl
theorem play_fuel : ∀ {k : Nat} {f g : Nat} {p : List Op} (out : List Op), p.length ≤ k → p.length < f → p.length < g → play f p out = play g p out := by
  intro k
  induction k with
  | zero =>
    intro f g p out hk hf hg
    have : p = [] := List.length_eq_zero_iff.1 (by omega)
    subst this; rw [play_nil, play_nil]
  | succ k ih =>
    intro f g p out hk hf hg
    cases p with
    | nil => rw [play_nil, play_nil]
    | cons o p =>
      obtain ⟨f, rfl⟩ : ∃ f', f = f' + 1 := ⟨f - 1, by simp only [List.length_cons] at hf; omega⟩
      obtain ⟨g, rfl⟩ : ∃ g', g = g' + 1 := ⟨g - 1, by simp only [List.length_cons] at hg; omega⟩
      simp only [List.length_cons] at hk hf hg
      unfold play
      have hd : ∀ (j : Nat) (out : List Op), play f (p.drop j) out = play g (p.drop j) out := fun j out => ih out (by rw [List.length_drop]; omega) (by rw [List.length_drop]; omega) (by rw [List.length_drop]; omega)
      have ht : ∀ (j : Nat) (out : List Op), play f (p.take j) out = play g (p.take j) out := fun j out => ih out (by rw [List.length_take]; omega) (by rw [List.length_take]; omega) (by rw [List.length_take]; omega)
      have hp : ∀ (out : List Op), play f p out = play g p out := fun out => ih out (by omega) (by omega) (by omega)
      simp only [funext (ht (shut (o :: p) 0 - 1)), hd, hp]
/-- The steps of a part. -/
def playS (p : List Op) (out : List Op) : List Op × Stt := play (p.length + 1) p out
theorem playS_nil (out : List Op) : playS [] out = (out, .go) := rfl
theorem playS_rep {o : Op} {p : List Op} (out : List Op) (h : o.kind = 10) : playS (o :: p) out =
    match rep (playS (p.take (shut (o :: p) 0 - 1))) out.length o.n.toNat out with
    | (out', .go) => playS (p.drop (shut (o :: p) 0)) out'
    | (out', s) => (out', s) := by
  unfold playS
  rw [List.length_cons]
  conv => lhs; unfold play
  rw [if_pos h]
  have ht : ∀ (j : Nat), (fun out => play (p.length + 1) (p.take j) out) = fun out => play ((p.take j).length + 1) (p.take j) out := fun j => funext fun out => play_fuel (k := p.length) out (by rw [List.length_take]; omega) (by rw [List.length_take]; omega) (by omega)
  have hd : ∀ (j : Nat) (out : List Op), play (p.length + 1) (p.drop j) out = play ((p.drop j).length + 1) (p.drop j) out := fun j out => play_fuel (k := p.length) out (by rw [List.length_drop]; omega) (by rw [List.length_drop]; omega) (by omega)
  simp only [ht, hd]
  all_goals rfl
theorem playS_work {o : Op} {p : List Op} (out : List Op) (h : o.kind = 5) : playS (o :: p) out =
    match times work o.n.toNat out with
    | (out', .go) => playS p out'
    | (out', s) => (out', s) := by
  unfold playS
  rw [List.length_cons]
  conv => lhs; unfold play
  rw [if_neg (by omega), if_pos h]
  all_goals rfl
theorem playS_one {o : Op} {p : List Op} (out : List Op) (h : o.kind ≠ 10) (h5 : o.kind ≠ 5) : playS (o :: p) out =
    match step o out with
    | (out', .go) => playS p out'
    | (out', s) => (out', s) := by
  unfold playS
  rw [List.length_cons]
  conv => lhs; unfold play
  rw [if_neg h, if_neg h5]
  all_goals rfl

/-- Does the depth come back to nothing, and never below. -/
def bal : List Op → Nat → Bool
  | [], d => d == 0
  | o :: p, d => if o.kind = 10 then bal p (d + 1) else if o.kind = 11 then (if d = 0 then false else bal p (d - 1)) else bal p d
theorem bal_10 {o : Op} (p : List Op) (d : Nat) (h : o.kind = 10) : bal (o :: p) d = bal p (d + 1) := by conv => lhs; unfold bal; rw [if_pos h]
theorem bal_11 {o : Op} (p : List Op) (d : Nat) (h : o.kind = 11) : bal (o :: p) d = if d = 0 then false else bal p (d - 1) := by conv => lhs; unfold bal; rw [if_neg (by omega), if_pos h]
theorem bal_no {o : Op} (p : List Op) (d : Nat) (h : o.kind ≠ 10) (h' : o.kind ≠ 11) : bal (o :: p) d = bal p d := by conv => lhs; unfold bal; rw [if_neg h, if_neg h']
theorem shut_10 {o : Op} (p : List Op) (d : Nat) (h : o.kind = 10) : shut (o :: p) d = shut p (d + 1) + 1 := by
  conv => lhs; unfold shut
  simp only [if_pos h]; rw [if_neg (by omega)]
theorem shut_11 {o : Op} (p : List Op) (d : Nat) (h : o.kind = 11) : shut (o :: p) d = if d - 1 = 0 then 0 else shut p (d - 1) + 1 := by
  conv => lhs; unfold shut
  simp only [if_neg (show ¬ o.kind = 10 by omega), if_pos h]
theorem shut_no {o : Op} (p : List Op) (d : Nat) (h : o.kind ≠ 10) (h' : o.kind ≠ 11) (hd : 0 < d) : shut (o :: p) d = shut p d + 1 := by
  conv => lhs; unfold shut
  simp only [if_neg h, if_neg h']; rw [if_neg (by omega)]
/-- The part that begins one deep is shut by its end: body, end, rest. -/
theorem bal_shut : ∀ (p : List Op) (d : Nat), 0 < d → bal p d = true → ∃ (b : List Op) (e : Op) (r : List Op), p = b ++ e :: r ∧ e.kind = 11 ∧ (∀ q, shut (b ++ e :: q) d = b.length) ∧ bal b (d - 1) = true ∧ bal r 0 = true := by
  intro p
  induction p with
  | nil => intro d hd h; unfold bal at h; simp only [beq_iff_eq] at h; omega
  | cons o p ih =>
    intro d hd h
    by_cases h10 : o.kind = 10
    · rw [bal_10 p d h10] at h
      obtain ⟨b, e, r, rfl, he, hs, hb, hr⟩ := ih (d + 1) (by omega) h
      refine ⟨o :: b, e, r, rfl, he, fun q => ?_, ?_, hr⟩
      · rw [List.cons_append, shut_10 _ d h10, hs]; rfl
      · rw [bal_10 b _ h10, show d - 1 + 1 = d + 1 - 1 by omega]; exact hb
    · by_cases h11 : o.kind = 11
      · rw [bal_11 p d h11, if_neg (by omega)] at h
        by_cases h1 : d = 1
        · subst h1
          exact ⟨[], o, p, rfl, h11, fun q => by rw [List.nil_append, shut_11 q 1 h11]; rfl, rfl, h⟩
        · obtain ⟨b, e, r, rfl, he, hs, hb, hr⟩ := ih (d - 1) (by omega) h
          refine ⟨o :: b, e, r, rfl, he, fun q => ?_, ?_, hr⟩
          · rw [List.cons_append, shut_11 _ d h11, if_neg (by omega), hs]; rfl
          · rw [bal_11 b _ h11, if_neg (by omega)]; exact hb
      · rw [bal_no p d h10 h11] at h
        obtain ⟨b, e, r, rfl, he, hs, hb, hr⟩ := ih d hd h
        refine ⟨o :: b, e, r, rfl, he, fun q => ?_, ?_, hr⟩
        · rw [List.cons_append, shut_no _ d h10 h11 hd, hs]; rfl
        · rw [bal_no b _ h10 h11]; exact hb

/-- Where the repeat at i ends. -/
def endE (q : List Op) (i : Nat) : Nat := i + shut (q.drop i) 0
def seg (q : List Op) (i to : Nat) : List Op := (q.take to).drop i
theorem seg_end (q : List Op) {i to : Nat} (h : to ≤ i) : seg q i to = [] := List.drop_eq_nil_of_le (by rw [List.length_take]; omega)
theorem seg_cons {q : List Op} {i to : Nat} {o : Op} (ho : q[i]? = some o) (h : i < to) : seg q i to = o :: seg q (i + 1) to := by
  have hl := (List.getElem?_eq_some_iff.1 ho)
  have hi : i < (q.take to).length := by rw [List.length_take]; have := hl.1; omega
  unfold seg
  rw [List.drop_eq_getElem_cons hi, List.getElem_take, hl.2]
theorem seg_len (q : List Op) {i to : Nat} (h : to ≤ q.length) : (seg q i to).length = to - i := by
  unfold seg; rw [List.length_drop, List.length_take]; omega
theorem seg_all (q : List Op) : seg q 0 q.length = q := by unfold seg; rw [List.take_length, List.drop_zero]
theorem drop_seg (q : List Op) {i to : Nat} (h : i ≤ to) (ht : to ≤ q.length) : q.drop i = seg q i to ++ q.drop to := by
  unfold seg
  conv => lhs; rw [← List.take_append_drop to q]
  rw [List.drop_append_of_le_length (by rw [List.length_take]; omega)]
theorem seg_cut {q b r : List Op} {e : Op} {i to : Nat} (ht : to ≤ q.length) (h : seg q i to = b ++ e :: r) :
    seg q i (i + b.length) = b ∧ seg q (i + b.length + 1) to = r ∧ i + b.length < to ∧ q[i + b.length]? = some e := by
  have hl : to - i = b.length + (r.length + 1) := by rw [← seg_len q ht, h]; simp
  have h1 : i + b.length < to := by omega
  have e1 : seg q i (i + b.length) = (seg q i to).take b.length := by
    unfold seg
    rw [List.take_drop, List.take_take]; congr 2; omega
  have e2 : seg q (i + b.length + 1) to = (seg q i to).drop (b.length + 1) := by
    unfold seg; rw [List.drop_drop]; rfl
  refine ⟨?_, ?_, h1, ?_⟩
  · rw [e1, h, List.take_left']; rfl
  · rw [e2, h, show b ++ e :: r = (b ++ [e]) ++ r by simp, List.drop_left']; simp
  · have : (seg q i to)[b.length]? = some e := by rw [h]; simp
    unfold seg at this
    rw [List.getElem?_drop, List.getElem?_take_of_lt h1] at this; exact this
/-- A repeat in a balanced part: its body and what follows are balanced, and the steps. -/
theorem seg_rep {q : List Op} {i to : Nat} {o : Op} (ht : to ≤ q.length) (ho : q[i]? = some o) (hi : i < to) (h10 : o.kind = 10) (hb : bal (seg q i to) 0 = true) :
    i + 1 ≤ endE q i ∧ endE q i < to ∧ bal (seg q (i + 1) (endE q i)) 0 = true ∧ bal (seg q (endE q i + 1) to) 0 = true ∧
    ∀ out, playS (seg q i to) out = match rep (playS (seg q (i + 1) (endE q i))) out.length o.n.toNat out with
      | (out', .go) => playS (seg q (endE q i + 1) to) out'
      | (out', s) => (out', s) := by
  rw [seg_cons ho hi] at hb ⊢
  rw [bal_10 _ _ h10] at hb
  obtain ⟨b, e, r, hp, he, hs, hb1, hr1⟩ := bal_shut _ 1 (by omega) hb
  obtain ⟨k1, k2, k3, k4⟩ := seg_cut ht hp
  have hE : endE q i = i + 1 + b.length := by
    unfold endE
    rw [drop_seg q (Nat.le_of_lt hi) ht, seg_cons ho hi, hp, List.cons_append, shut_10 _ 0 h10, List.append_assoc, List.cons_append, hs]; omega
  rw [hE]
  refine ⟨by omega, k3, by rw [k1]; exact hb1, by rw [k2]; exact hr1, fun out => ?_⟩
  rw [playS_rep out h10, hp, shut_10 _ 0 h10, hs, k1, k2]
  have e1 : List.take (b.length + 1 - 1) (b ++ e :: r) = b := by rw [Nat.add_sub_cancel, List.take_left']; rfl
  have e2 : List.drop (b.length + 1) (b ++ e :: r) = r := by rw [show b ++ e :: r = (b ++ [e]) ++ r by simp, List.drop_left']; simp
  rw [e1, e2]
theorem seg_other {q : List Op} {i to : Nat} {o : Op} (ho : q[i]? = some o) (hi : i < to) (h10 : o.kind ≠ 10) (hb : bal (seg q i to) 0 = true) : o.kind ≠ 11 ∧ bal (seg q (i + 1) to) 0 = true := by
  rw [seg_cons ho hi] at hb
  by_cases h11 : o.kind = 11
  · rw [bal_11 _ _ h11, if_pos rfl] at hb; cases hb
  · rw [bal_no _ _ h10 h11] at hb; exact ⟨h11, hb⟩

/-- One after the other, while it goes. -/
def thn (r : List Op × Stt) (f : List Op → List Op × Stt) : List Op × Stt := match r with | (o, .go) => f o | (o, s) => (o, s)
theorem thn_go (o : List Op) (f : List Op → List Op × Stt) : thn (o, .go) f = f o := rfl
theorem thn_no {o : List Op} {s : Stt} (f : List Op → List Op × Stt) (h : s ≠ .go) : thn (o, s) f = (o, s) := by cases s <;> first | rfl | exact absurd rfl h
theorem thn_thn (r : List Op × Stt) (f g : List Op → List Op × Stt) : thn (thn r f) g = thn r fun o => thn (f o) g := by obtain ⟨o, s⟩ := r; cases s <;> rfl
theorem times_more (o : Op) (n : Nat) (out : List Op) : times o (n + 1) out = thn (step o out) (times o n) := rfl
theorem rep_more (f : List Op → List Op × Stt) (was n : Nat) (out : List Op) : rep f was (n + 1) out = thn (f out) fun out' => if out'.length = was then (out', .go) else rep f was n out' := rfl
theorem step_full {o : Op} {out : List Op} (h : out.length = 4096) : step o out = (out, .long) := by unfold step; rw [if_pos h]
theorem step_room {o : Op} {out : List Op} (h : out.length ≠ 4096) (h9 : o.kind ≠ 9) : step o out = (out ++ [o], .go) := by unfold step; rw [if_neg h, if_neg h9]
theorem step_last {o : Op} {out : List Op} (h : out.length ≠ 4096) (h9 : o.kind = 9) : step o out = (out ++ [o], .done) := by unfold step; rw [if_neg h, if_pos h9]
theorem step_len {o : Op} {out : List Op} (h : out.length ≤ 4096) : (step o out).1.length ≤ 4096 := by
  unfold step; split
  · exact h
  · simp; omega
theorem thn_len {r : List Op × Stt} {f : List Op → List Op × Stt} (h : r.1.length ≤ 4096) (hf : ∀ o : List Op, o.length ≤ 4096 → (f o).1.length ≤ 4096) : (thn r f).1.length ≤ 4096 := by
  obtain ⟨o, s⟩ := r; cases s
  · exact hf o h
  · exact h
  · exact h
theorem times_len (o : Op) : ∀ (n : Nat) (out : List Op), out.length ≤ 4096 → (times o n out).1.length ≤ 4096
  | 0, _, h => h
  | n + 1, _, h => by rw [times_more]; exact thn_len (step_len h) (times_len o n)
theorem rep_len {f : List Op → List Op × Stt} (hf : ∀ o : List Op, o.length ≤ 4096 → (f o).1.length ≤ 4096) (was : Nat) : ∀ (n : Nat) (out : List Op), out.length ≤ 4096 → (rep f was n out).1.length ≤ 4096
  | 0, _, h => h
  | n + 1, _, h => by
    rw [rep_more]
    refine thn_len (hf _ h) fun o ho => ?_
    split
    · exact ho
    · exact rep_len hf was n o ho
theorem play_len : ∀ (f : Nat) (p out : List Op), out.length ≤ 4096 → (play f p out).1.length ≤ 4096
  | 0, _, _, h => h
  | f + 1, [], _, h => h
  | f + 1, o :: p, out, h => by
    unfold play
    split
    · exact thn_len (rep_len (fun o ho => play_len f _ o ho) _ _ _ h) fun o ho => play_len f _ o ho
    · split
      · exact thn_len (times_len _ _ _ h) fun o ho => play_len f _ o ho
      · exact thn_len (step_len h) fun o ho => play_len f _ o ho
theorem playS_len (p out : List Op) (h : out.length ≤ 4096) : (playS p out).1.length ≤ 4096 := play_len _ p out h
theorem seg_rep_thn {q : List Op} {i to : Nat} {o : Op} (ht : to ≤ q.length) (ho : q[i]? = some o) (hi : i < to) (h10 : o.kind = 10) (hb : bal (seg q i to) 0 = true) (out : List Op) :
    playS (seg q i to) out = thn (rep (playS (seg q (i + 1) (endE q i))) out.length o.n.toNat out) (playS (seg q (endE q i + 1) to)) := (seg_rep ht ho hi h10 hb).2.2.2.2 out
theorem seg_work_thn {q : List Op} {i to : Nat} {o : Op} (ho : q[i]? = some o) (hi : i < to) (h : o.kind = 5) (out : List Op) :
    playS (seg q i to) out = thn (times work o.n.toNat out) (playS (seg q (i + 1) to)) := by rw [seg_cons ho hi]; exact playS_work out h
theorem seg_one_thn {q : List Op} {i to : Nat} {o : Op} (ho : q[i]? = some o) (hi : i < to) (h : o.kind ≠ 10) (h5 : o.kind ≠ 5) (out : List Op) :
    playS (seg q i to) out = thn (step o out) (playS (seg q (i + 1) to)) := by rw [seg_cons ho hi]; exact playS_one out h h5

/-- Where the repeats end, as the walk through a program finds it: from the place i on, with the open ones. -/
def endsF : List Op → Nat → List Nat → List Nat → List Nat
  | [], _, _, A => A
  | o :: p, i, st, A => if o.kind = 10 then endsF p (i + 1) (st ++ [i]) A else if o.kind = 11 then endsF p (i + 1) st.dropLast (A.set (st.getLast?.getD 0) i) else endsF p (i + 1) st A
theorem endsF_10 {o : Op} (p : List Op) (i : Nat) (st A : List Nat) (h : o.kind = 10) : endsF (o :: p) i st A = endsF p (i + 1) (st ++ [i]) A := by conv => lhs; unfold endsF; rw [if_pos h]
theorem endsF_11 {o : Op} (p : List Op) (i : Nat) (st A : List Nat) (h : o.kind = 11) : endsF (o :: p) i st A = endsF p (i + 1) st.dropLast (A.set (st.getLast?.getD 0) i) := by conv => lhs; unfold endsF; rw [if_neg (by omega), if_pos h]
theorem endsF_no {o : Op} (p : List Op) (i : Nat) (st A : List Nat) (h : o.kind ≠ 10) (h' : o.kind ≠ 11) : endsF (o :: p) i st A = endsF p (i + 1) st A := by conv => lhs; unfold endsF; rw [if_neg h, if_neg h']
theorem ends_right (q : List Op) : ∀ (p : List Op) (i : Nat) (st A : List Nat), q.drop i = p → i ≤ q.length → bal p st.length = true → A.length = q.length → (∀ s ∈ st, s < i) →
    (∀ j o, j < i → q[j]? = some o → o.kind = 10 → j ∉ st → A[j]? = some (endE q j)) → (∀ k s, st[k]? = some s → endE q s = i + shut p (st.length - k)) →
    ∀ j o, q[j]? = some o → o.kind = 10 → (endsF p i st A)[j]? = some (endE q j) := by
  intro p
  induction p with
  | nil =>
    intro i st A hp hi hb hA hst h1 h2 j o hj h10
    unfold bal at hb
    have hs : st = [] := List.length_eq_zero_iff.1 (by simpa using hb)
    subst hs
    have hlt := (List.getElem?_eq_some_iff.1 hj).1
    have hle : q.length ≤ i := List.drop_eq_nil_iff.1 hp
    exact h1 j o (by omega) hj h10 (by simp)
  | cons o p ih =>
    intro i st A hp hi hb hA hst h1 h2
    have hlt : i < q.length := by
      have := congrArg List.length hp
      rw [List.length_drop, List.length_cons] at this; omega
    have hp' : q.drop (i + 1) = p := by rw [← List.drop_drop, hp]; rfl
    have hqi : q[i]? = some o := by
      have : (q.drop i)[0]? = some o := by rw [hp]; rfl
      rwa [List.getElem?_drop, Nat.add_zero] at this
    by_cases h10 : o.kind = 10
    · rw [endsF_10 p i st A h10]
      rw [bal_10 p _ h10] at hb
      refine ih (i + 1) (st ++ [i]) A hp' (by omega) (by simpa using hb) hA (fun s hs => ?_) (fun j o' hj hjo hk hns => ?_) (fun k s hk => ?_)
      · rcases List.mem_append.1 hs with hs | hs
        · have := hst s hs; omega
        · have := List.mem_singleton.1 hs; omega
      · simp only [List.mem_append, List.mem_singleton, not_or] at hns
        exact h1 j o' (by omega) hjo hk hns.1
      · by_cases hk2 : k < st.length
        · rw [List.getElem?_append_left hk2] at hk
          have := h2 k s hk
          rw [shut_10 p _ h10] at this
          rw [this, List.length_append, List.length_singleton, show st.length + 1 - k = st.length - k + 1 by omega]; omega
        · rw [List.getElem?_append_right (by omega)] at hk
          have hk0 : k = st.length := by
            have := (List.getElem?_eq_some_iff.1 hk).1
            simp only [List.length_singleton] at this; omega
          subst hk0
          rw [Nat.sub_self] at hk
          have hk : i = s := by simpa using hk
          subst hk
          unfold endE
          rw [hp, shut_10 p 0 h10, List.length_append, List.length_singleton, Nat.add_sub_cancel_left, Nat.zero_add]; omega
    · by_cases h11 : o.kind = 11
      · rw [endsF_11 p i st A h11]
        rw [bal_11 p _ h11] at hb
        by_cases hs0 : st.length = 0
        · rw [if_pos hs0] at hb; cases hb
        rw [if_neg hs0] at hb
        obtain ⟨st, t, rfl⟩ : ∃ l t, st = l ++ [t] := ⟨st.dropLast, st.getLast (by intro e; rw [e] at hs0; exact hs0 rfl), (List.dropLast_concat_getLast _).symm⟩
        simp only [List.length_append, List.length_singleton, Nat.add_sub_cancel] at hb hs0
        rw [List.dropLast_concat, List.getLast?_concat, Option.getD_some]
        have ht : t < i := hst t (by simp)
        have het : endE q t = i := by
          have := h2 st.length t (by simp)
          rw [List.length_append, List.length_singleton, Nat.add_sub_cancel_left, shut_11 p 1 h11] at this
          simpa using this
        refine ih (i + 1) st (A.set t i) hp' (by omega) hb (by rw [List.length_set, hA]) (fun s hs => ?_) (fun j o' hj hjo hk hns => ?_) (fun k s hk => ?_)
        · have := hst s (by simp [hs]); omega
        · by_cases hjt : j = t
          · subst hjt
            rw [List.getElem?_set_self (by omega), het]
          · rw [List.getElem?_set_ne (fun e => hjt e.symm)]
            by_cases hji : j = i
            · subst hji
              rw [hqi] at hjo; cases hjo; exact absurd hk h10
            · exact h1 j o' (by omega) hjo hk (by simp [hns, hjt])
        · have hk2 := (List.getElem?_eq_some_iff.1 hk).1
          have := h2 k s (by rw [List.getElem?_append_left hk2]; exact hk)
          rw [List.length_append, List.length_singleton, shut_11 p _ h11, if_neg (by omega)] at this
          rw [this, show st.length + 1 - k - 1 = st.length - k by omega]; omega
      · rw [endsF_no p i st A h10 h11]
        rw [bal_no p _ h10 h11] at hb
        refine ih (i + 1) st A hp' (by omega) hb hA (fun s hs => by have := hst s hs; omega) (fun j o' hj hjo hk hns => ?_) (fun k s hk => ?_)
        · by_cases hji : j = i
          · subst hji
            rw [hqi] at hjo; cases hjo; exact absurd hk h10
          · exact h1 j o' (by omega) hjo hk hns
        · have hk2 := (List.getElem?_eq_some_iff.1 hk).1
          have := h2 k s hk
          rw [shut_no p _ h10 h11 (by omega)] at this
          rw [this]; omega
theorem ends_all (q : List Op) (hb : bal q 0 = true) (j : Nat) (o : Op) (hj : q[j]? = some o) (h10 : o.kind = 10) : (endsF q 0 [] (List.replicate q.length 0))[j]? = some (endE q j) :=
  ends_right q q 0 [] _ rfl (Nat.zero_le _) hb (by simp) (by simp) (fun j o h => by omega) (fun k s h => by simp at h) j o hj h10

theorem checkF_cons (len : Nat) (o : Op) (p : List Op) (i : Nat) (opn : Int) : checkFrom len (o :: p) i opn =
    if fieldsOk o = false then ((i : Int), 30)
    else if o.kind = 10 then (if opn = 4 then ((i : Int), 32) else checkFrom len p (i + 1) (opn + 1))
    else if o.kind = 11 then (if opn = 0 then ((i : Int), 31) else checkFrom len p (i + 1) (opn - 1))
    else checkFrom len p (i + 1) opn := rfl
theorem checkFrom_ok (len : Nat) : ∀ (p : List Op) (i d : Nat), (checkFrom len p i d).2 = 0 → (checkFrom len p i d).1 = 0 ∧ bal p d = true ∧ ∀ o ∈ p, fieldsOk o = true := by
  intro p
  induction p with
  | nil =>
    intro i d h
    unfold checkFrom at *
    by_cases hd : (0 : Int) < d
    · rw [if_pos hd] at h; cases h
    · rw [if_neg hd]
      refine ⟨rfl, ?_, by simp⟩
      unfold bal; simp; omega
  | cons o p ih =>
    intro i d h
    rw [checkF_cons] at h ⊢
    by_cases hf : fieldsOk o = false
    · rw [if_pos hf] at h; cases h
    rw [if_neg hf] at h ⊢
    have hf : fieldsOk o = true := by simpa using hf
    have all : (∀ o' ∈ p, fieldsOk o' = true) → ∀ o' ∈ o :: p, fieldsOk o' = true := fun ha o' ho' => by
      rcases List.mem_cons.1 ho' with rfl | h'
      · exact hf
      · exact ha _ h'
    by_cases h10 : o.kind = 10
    · rw [if_pos h10] at h ⊢
      by_cases h4 : (d : Int) = 4
      · rw [if_pos h4] at h; cases h
      rw [if_neg h4] at h ⊢
      have := ih (i + 1) (d + 1) h
      exact ⟨this.1, by rw [bal_10 p d h10]; exact this.2.1, all this.2.2⟩
    · rw [if_neg h10] at h ⊢
      by_cases h11 : o.kind = 11
      · rw [if_pos h11] at h ⊢
        by_cases h4 : (d : Int) = 0
        · rw [if_pos h4] at h; cases h
        rw [if_neg h4] at h ⊢
        rw [show (d : Int) - 1 = ((d - 1 : Nat) : Int) by omega] at h ⊢
        have := ih (i + 1) (d - 1) h
        exact ⟨this.1, by rw [bal_11 p d h11, if_neg (by omega)]; exact this.2.1, all this.2.2⟩
      · rw [if_neg h11] at h ⊢
        have := ih (i + 1) d h
        exact ⟨this.1, by rw [bal_no p d h10 h11]; exact this.2.1, all this.2.2⟩
theorem check_ok {p : List Op} (h : (check p).2 = 0) : check p = (0, 0) ∧ p.length ≤ 256 ∧ bal p 0 = true ∧ ∀ o ∈ p, fieldsOk o = true := by
  unfold check at *
  by_cases hl : 256 < p.length
  · rw [if_pos hl] at h; cases h
  rw [if_neg hl] at h ⊢
  have := checkFrom_ok p.length p 0 0 h
  exact ⟨Prod.ext this.1 h, by omega, this.2⟩
theorem fieldsOk_kind {o : Op} (h : fieldsOk o = true) : 1 ≤ o.kind ∧ o.kind ≤ 11 := by
  unfold fieldsOk at h
  by_cases hk : o.kind < 1 ∨ 11 < o.kind
  · rw [if_pos hk] at h; cases h
  · omega
theorem fieldsOk_n {o : Op} (h : fieldsOk o = true) : o.n ≤ 4096 := by
  unfold fieldsOk at h
  by_cases hk : o.kind < 1 ∨ 11 < o.kind
  · rw [if_pos hk] at h; cases h
  rw [if_neg hk] at h
  unfold fieldsH at h
  split at h <;> simp only [Bool.and_eq_true, decide_eq_true_eq] at h <;> omega
end Cm
end Go

/-
  What is parsed passes the check. No program.
-/
namespace Go
namespace Cm

def runO : List Op → Int → Option Int
  | [], d => some d
  | o :: p, d => if fieldsOk o = false then none else if o.kind = 10 then (if d = 4 then none else runO p (d + 1)) else if o.kind = 11 then (if d = 0 then none else runO p (d - 1)) else runO p d
theorem runO_app : ∀ (p q : List Op) (d : Int), runO (p ++ q) d = (runO p d).bind (runO q)
  | [], _, _ => rfl
  | o :: p, q, d => by
    simp only [List.cons_append, runO]
    split
    · rfl
    · split
      · split
        · rfl
        · exact runO_app p q _
      · split
        · split
          · rfl
          · exact runO_app p q _
        · exact runO_app p q _
theorem check_run (len : Nat) : ∀ (p : List Op) (i : Nat) (d e : Int), runO p d = some e → ¬ 0 < e → checkFrom len p i d = (0, 0)
  | [], i, d, e, h, he => by
    obtain rfl : d = e := by simpa [runO] using h
    unfold checkFrom; rw [if_neg he]
  | o :: p, i, d, e, h, he => by
    unfold runO at h
    unfold checkFrom
    by_cases h1 : fieldsOk o = false
    · rw [if_pos h1] at h; cases h
    · rw [if_neg h1] at h ⊢
      by_cases h2 : o.kind = 10
      · rw [if_pos h2] at h ⊢
        by_cases h3 : d = 4
        · rw [if_pos h3] at h; cases h
        · rw [if_neg h3] at h ⊢; exact check_run len p _ _ e h he
      · rw [if_neg h2] at h ⊢
        by_cases h3 : o.kind = 11
        · rw [if_pos h3] at h ⊢
          by_cases h4 : d = 0
          · rw [if_pos h4] at h; cases h
          · rw [if_neg h4] at h ⊢; exact check_run len p _ _ e h he
        · rw [if_neg h3] at h ⊢; exact check_run len p _ _ e h he

theorem readF_ok {len : Int} {p : Place} {ps : List Place} {o : Op} {ts : List Tok} {r : Op × List Tok} (h : readF len (p :: ps) o ts = .ok r) :
    ∃ n ts', okP p n = true ∧ readF len ps (put p o n) ts' = .ok r := by
  cases ts with
  | nil => simp [readF] at h
  | cons t ts =>
    obtain ⟨i, w⟩ := t
    unfold readF at h
    split at h
    · rename_i n hn
      split at h
      · rename_i hp; exact ⟨n, ts, hp, h⟩
      · cases h
    · cases h
theorem readF_nil {len : Int} {o : Op} {ts : List Tok} {r : Op × List Tok} (h : readF len [] o ts = .ok r) : r = (o, ts) := by
  unfold readF at h; cases h; rfl
theorem read_fields {len : Int} {k : Nat} {ts : List Tok} {r : Op × List Tok} (hk : 1 ≤ k ∧ k ≤ 11) (h : readF len (places k) ⟨k, 0, 0, 0⟩ ts = .ok r) : fieldsOk r.1 = true ∧ r.1.kind = k := by
  have key : ∀ o : Op, o.kind = k → fieldsH (rowH k) o = true → fieldsOk o = true ∧ o.kind = k := fun o ho hf => by
    refine ⟨?_, ho⟩
    unfold fieldsOk
    rw [if_neg (by omega), ho, Int.toNat_natCast]; exact hf
  have hH : rowH k = 1 ∨ rowH k = 2 ∨ rowH k = 3 ∨ rowH k = 4 ∨ rowH k = 0 := by unfold rowH; split <;> simp
  unfold places at h
  rcases hH with e | e | e | e | e <;> rw [e] at h
  · obtain ⟨a, t1, h1, h⟩ := readF_ok h
    obtain ⟨b, t2, h2, h⟩ := readF_ok h
    rw [readF_nil h]
    simp only [okP, decide_eq_true_eq] at h1 h2
    refine key _ rfl ?_
    rw [e]; simp [fieldsH, put]; omega
  · obtain ⟨a, t1, h1, h⟩ := readF_ok h
    rw [readF_nil h]
    simp only [okP, decide_eq_true_eq] at h1
    refine key _ rfl ?_
    rw [e]; simp [fieldsH, put]; omega
  · obtain ⟨a, t1, h1, h⟩ := readF_ok h
    rw [readF_nil h]
    refine key _ rfl ?_
    rw [e]; simp [fieldsH, put]
  · obtain ⟨a, t1, h1, h⟩ := readF_ok h
    rw [readF_nil h]
    simp only [okP, decide_eq_true_eq] at h1
    refine key _ rfl ?_
    rw [e]; simp [fieldsH, put]; omega
  · rw [readF_nil h]
    refine key _ rfl ?_
    rw [e]; simp [fieldsH]
theorem one_fields {len : Int} {k : Nat} {ts : List Tok} {o : Op} {ts' : List Tok} (hk : 1 ≤ k ∧ k ≤ 11) (h : one len k ts = .ok (o, ts')) : fieldsOk o = true ∧ o.kind = k := by
  unfold one at h
  split at h
  · cases h
  · rename_i o1 ts1 hr
    have := read_fields hk hr
    split at h
    · split at h
      · cases h
      · cases h; exact this
    · cases h; exact this
theorem kindFrom_le (w : List UInt8) : ∀ f k : Nat, kindFrom w f k ≤ k + f
  | 0, k => by simp [kindFrom]
  | f + 1, k => by
    unfold kindFrom
    split
    · omega
    · have := kindFrom_le w f (k + 1); omega
theorem kindOf_le (w : List UInt8) : kindOf w ≤ 11 := by
  unfold kindOf kindFrom
  split
  · omega
  · have h : ∀ f k : Nat, 1 ≤ k → k + f = 12 → kindFrom w f k ≤ 11 := by
      intro f
      induction f with
      | zero => intro k _ _; simp [kindFrom]
      | succ f ih =>
        intro k h1 h2
        unfold kindFrom
        split
        · omega
        · exact ih (k + 1) (by omega) (by omega)
    exact h 10 2 (by omega) (by omega)

theorem parseT_run {len : Int} : ∀ {f : Nat} {ts : List Tok} {ops : List Op} {opn : Int} {p : List Op}, ts.length ≤ f → parseT len f ts ops opn = .ok p → runO ops 0 = some opn → ops.length ≤ 256 → ∃ d, runO p 0 = some d ∧ ¬ 0 < d ∧ p.length ≤ 256
  | _, [], ops, opn, p, _, h, hr, hl => by
    unfold parseT at h
    split at h
    · cases h
    · rename_i hd
      cases h
      exact ⟨opn, hr, hd, hl⟩
  | 0, _ :: _, _, _, _, hf, _, _, _ => by simp at hf
  | f + 1, (i, w) :: ts, ops, opn, p, hf, h, hr, hl => by
    unfold parseT at h
    split at h
    · cases h
    · rename_i hb
      have hb : begins (kindOf w) ops.length opn = 0 := by simpa using hb
      unfold begins at hb
      split at hb
      · omega
      · rename_i h256
        split at hb
        · omega
        · rename_i hk
          split at hb
          · omega
          · rename_i hk4
            split at h
            · cases h
            · rename_i o ts' ho
              obtain ⟨hfo, hok⟩ := one_fields ⟨by omega, kindOf_le w⟩ ho
              have hlen : ts'.length ≤ f := by
                have : ∀ (len : Int) (k : Nat) (ts : List Tok) (o : Op) (ts' : List Tok), one len k ts = .ok (o, ts') → ts'.length ≤ ts.length := one_len
                have := this _ _ _ _ _ ho
                simp only [List.length_cons] at hf; omega
              refine parseT_run hlen h ?_ (by simp; omega)
              rw [runO_app, hr]
              simp only [Option.bind_some, runO]
              rw [if_neg (by simp [hfo]), hok]
              unfold nextOpen
              by_cases h10 : kindOf w = 10
              · rw [if_pos (by omega), if_pos h10, if_neg (by omega)]
              · rw [if_neg (by omega), if_neg h10]
                by_cases h11 : kindOf w = 11
                · rw [if_pos (by omega), if_pos h11, if_neg (by omega)]
                · rw [if_neg (by omega), if_neg h11]
where
  one_len : ∀ (len : Int) (k : Nat) (ts : List Tok) (o : Op) (ts' : List Tok), one len k ts = .ok (o, ts') → ts'.length ≤ ts.length := by
    have rd : ∀ (len : Int) (ps : List Place) (o : Op) (ts : List Tok) (r : Op × List Tok), readF len ps o ts = .ok r → r.2.length ≤ ts.length := by
      intro len ps
      induction ps with
      | nil => intro o ts r h; rw [readF_nil h]; exact Nat.le_refl _
      | cons p ps ih =>
        intro o ts r h
        cases ts with
        | nil => simp [readF] at h
        | cons t ts =>
          obtain ⟨i, w⟩ := t
          unfold readF at h
          split at h
          · split at h
            · have := ih _ _ _ h; simp; omega
            · cases h
          · cases h
    intro len k ts o ts' h
    unfold one at h
    split at h
    · cases h
    · rename_i o1 ts1 hr
      have := rd _ _ _ _ _ hr
      split at h
      · split at h
        · cases h
        · rename_i ts2 hb
          cases h
          unfold brace at hb
          split at hb
          · cases hb
          · split at hb
            · cases hb; simp at this; omega
            · cases hb
      · cases h; exact this

theorem parse_checks {l : List UInt8} {p : List Op} (h : parse l = .ok p) : (check p).2 = 0 := by
  unfold parse at h
  split at h
  · cases h
  · obtain ⟨d, h1, h2, h3⟩ := parseT_run (Nat.le_refl _) h rfl (by simp)
    unfold check
    rw [if_neg (by omega), check_run _ _ _ _ _ h1 h2]
theorem program_ok {l : List UInt8} {p : List Op} (h : parse l = .ok p) : program l = match playAll p with | (_, .long) => ([], 5) | (out, _) => (out, 0) := by
  unfold program
  rw [h]
  simp only [steps]
  rw [if_neg (by simp [parse_checks h])]
  all_goals rfl
end Cm
end Go
