/-
  Texts Ub Ui Uh Uk Ul in one.
-/
import Derived.Test.YtnkjjhenfhnajaaGreatDoorG10
import Derived.Test.YtnkjjhenfhnajaaGreatDoorG30
import Derived.Test.YtnkjjhenfhnajaaGreatDoorG16
import Derived.Test.YtnkjjhenfhnajaaGreatDoorG05
/-
  Package shelf at the units' holders, walked: find, Get.
-/
namespace Go.Proofs.YtnkjjhenfhnajaaGreatDoor
open Go.RowKit Go.Kw Go.Kreg Go.Tm
set_option linter.unusedSimpArgs false
set_option linter.unusedVariables false

abbrev THr : Nat := 237
abbrev THrs : Nat := 173
abbrev hcmpF : Nat := 172
def hrowsC (ns : List In.Row) : List Value := ns.flatMap fun r => [.int .i64 r.1, .pointer (some ⟨r.2, 0, none⟩)]
def hcmpOf (a k : Int) : Int := if a < k then -1 else if a = k then 0 else 1

section
variable {w : World} {nv : Value} {ns : List In.Row}

variable {p o : Nat}
end
end Go.Proofs.YtnkjjhenfhnajaaGreatDoor

/-
  Package shelf at the units' holders, walked: slices.Insert, Set.
-/
namespace Go.Proofs.YtnkjjhenfhnajaaGreatDoor
open Go.RowKit Go.Kw Go.Kreg Go.Tm
set_option linter.unusedSimpArgs false
set_option linter.unusedVariables false

section
variable {w : World} {F : Nat → Prop} {nv a b : Value} {n B : Nat} {xs : List Value}
abbrev hinsF : Nat := 148

end
end Go.Proofs.YtnkjjhenfhnajaaGreatDoor

/-
  The units' table in memory; New, Len, Free, walked.
-/
namespace Go.Proofs.YtnkjjhenfhnajaaGreatDoor
open Go.RowKit Go.Kw Go.Kreg Go.Tm Go.Um
set_option linter.unusedSimpArgs false
set_option linter.unusedVariables false

abbrev TUt : Nat := 177
abbrev THo : Nat := 192
abbrev TLk : Nat := 195
def locksC (l : List Tkn) : List Value := l.flatMap fun x => [.int .i64 x.res, .int .i64 x.n]
def holdCs (l : List Tkn) (j : Int) (a : Nat) (lv : Value) : List Ch := [.pt a THo (lv :: intsC (heldL l j)), .row TLk 2 lv (l.filter (ofJob j)).length (locksC (l.filter (ofJob j)))]
def holdC (l : List Tkn) (j : Int) (a : Nat) : Ch := .ex fun lv => .stars (holdCs l j a lv)
structure UX where
  uv : Value
  fv : Value
  cv : Value
  jv : Value
  ns : List In.Row
def unitsCs (p : Nat) (m : UM) (x : UX) : List Ch :=
  [.pt p TUt [x.uv, x.fv, x.cv, x.jv], .row TI' 1 x.uv m.us.length (intsC m.us), .row TI' 1 x.fv m.us.length (intsC m.frees), .row TI' 1 x.cv m.us.length (intsC m.cs), .row THr 2 x.jv x.ns.length (hrowsC x.ns),
    .stars (x.ns.map fun a => holdC m.l a.1 a.2), .pr (m.Ok ∧ Jobs m.l x.ns)]
def unitsC (p : Nat) (m : UM) : Ch := .ex fun x => .stars (unitsCs p m x)

/-- The table, read. -/
structure UAt (w : World) (p : Nat) (m : UM) (x : UX) : Prop where
  c0 : w.cell? ⟨p, 0, none⟩ = some x.uv
  c1 : w.cell? ⟨p, 1, none⟩ = some x.fv
  uns : Own w TI' 1 x.uv m.us.length (intsC m.us)
  frs : Own w TI' 1 x.fv m.us.length (intsC m.frees)
  ok : m.Ok
  c3 : w.cell? ⟨p, 3, none⟩ = some x.jv
  jb : Own w THr 2 x.jv x.ns.length (hrowsC x.ns)
  jo : Jobs m.l x.ns
theorem UAt.keeps {w w' : World} {p : Nat} {m : UM} {x : UX} (h : UAt w p m x) (hk : Keeps (fun _ => False) w w') : UAt w' p m x :=
  ⟨cellIn hk h.c0, cellIn hk h.c1, h.uns.keeps hk fun _ _ => id, h.frs.keeps hk fun _ _ => id, h.ok, cellIn hk h.c3, h.jb.keeps hk fun _ _ => id, h.jo⟩
theorem UAt.few {w : World} {p : Nat} {m : UM} {x : UX} (h : UAt w p m x) : x.ns.length ≤ 100000 := by
  have := h.jo.few; have := locks_few h.ok; omega

def UM.start (us : List Int) : UM := ⟨us, [], List.replicate us.length 0⟩
theorem start_ok {us : List Int} (h1 : us.length ≤ 16) (h2 : ∀ (i : Nat) n, us[i]? = some n → 1 ≤ n ∧ n ≤ 255) : (UM.start us).Ok := by
  refine ⟨h1, fun u hu => ?_, fun x hx => by simp [UM.start] at hx, fun r hr => ?_, by simp [UM.start]⟩
  · obtain ⟨i, hi⟩ := List.getElem?_of_mem hu
    exact h2 i u hi
  · have hr' := hr
    unfold UM.has UM.start at hr'
    simp only at hr'
    have hl : r.toNat < us.length := by omega
    have := h2 r.toNat us[r.toNat] (List.getElem?_eq_getElem hl)
    show (0 : Int) ≤ us.getD r.toNat 0
    rw [List.getD_eq_getElem?_getD, List.getElem?_eq_getElem hl]
    show 0 ≤ us[r.toNat]
    omega
theorem st_addFull {w w' w0 : World} {F0 : Nat → Prop} {cs : List Ch} {g n : Nat} {T : TypeId} {xs : List Value} (hS : St F0 w0 cs w) (hb : Blk w' g T xs) (hl : xs.length = n) (hk : Keeps (fun _ => False) w w') (hg : w.heap.size ≤ g) (hn : n ≤ maxLen) :
    St F0 w0 (cs ++ [.row T 1 (.slice (some ⟨g, 0, none⟩) n n) n xs]) w' := by
  have ho := Own.of_blk (n := n) (cap := n) (sz := 1) hb (by omega) (Nat.le_refl _) hn
  rw [List.take_of_length_le (by omega)] at ho
  exact hS.add hk (G := fun b => (Value.slice (some ⟨g, 0, none⟩) n n).ownBlock = some b) (c := .row T 1 (.slice (some ⟨g, 0, none⟩) n n) n xs) ⟨ho, fun _ => Iff.rfl⟩ fun b hb => by
    simp only [Value.ownBlock, Option.some.injEq] at hb; rw [← hb]; exact hg
section
variable {w : World} {v : Value}
end
end Go.Proofs.YtnkjjhenfhnajaaGreatDoor

/-
  units: has, Len, Free, of, walked.
-/
namespace Go.Proofs.YtnkjjhenfhnajaaGreatDoor
open Go.RowKit Go.Kw Go.Kreg Go.Tm Go.Um
set_option linter.unusedSimpArgs false
set_option linter.unusedVariables false

section
variable {w : World} {p : Nat} {m : UM} {x : UX}
end
end Go.Proofs.YtnkjjhenfhnajaaGreatDoor

/-
  units.Table.Lock, walked.
-/
namespace Go.Proofs.YtnkjjhenfhnajaaGreatDoor
open Go.RowKit Go.Kw Go.Kreg Go.Tm Go.Um
set_option linter.unusedSimpArgs false
set_option linter.unusedVariables false

abbrev THd : Nat := 183
abbrev z16 : List Value := [.int .i64 0, .int .i64 0, .int .i64 0, .int .i64 0, .int .i64 0, .int .i64 0, .int .i64 0, .int .i64 0, .int .i64 0, .int .i64 0, .int .i64 0, .int .i64 0, .int .i64 0, .int .i64 0, .int .i64 0, .int .i64 0]
section
variable {w : World} {p : Nat} {m : UM} {x : UX}
end
abbrev TLks : Nat := 188
section
variable {w : World} {F : Nat → Prop} {p : Nat} {m : UM}
end
end Go.Proofs.YtnkjjhenfhnajaaGreatDoor
