/-
  Texts Kk Kk2 Kf in one.
-/
import Derived.Test.YtnkjjhenfhnajaaGreatDoorG02
import Derived.Deep.QuietTactic
/-
  A rule for regions that draw their order, whose operations only read and whose callees keep all memory that there is: one walk of the text's order serves every order.
-/
namespace Go
namespace Kreg
open Go.Kw

structure Shut (p : Prop) : Prop where
  out : p
section
variable {P : Program} {ops : Array Oper} {Q : Act → Prop}
theorem wpKeep_class {C C' : World → Prop} (hC : ∀ w, C w → C' w) {o : Oper} {rest : List Oper} {a : Act} (hp : plain o.op = true) (h : wpQuiet P ops C' (fun a' => Shut (wpQuiet P ops C Q rest a')) [o] a) : wpQuiet P ops C Q (o :: rest) a := by
  unfold wpQuiet at h ⊢
  split
  · rename_i hw
    rw [if_pos hw] at h
    obtain ⟨v, h1, h2⟩ := h
    refine ⟨v, fun w hw' => ?_, Shut.out h2⟩
    have h3 := h1 w (hC w hw')
    unfold Oper.quietAt at *
    cases hr : (execOp a.eval o).run P w with
    | ok n w' =>
      obtain ⟨u, rfl⟩ := plain_value hp hr
      rw [hr] at h3
      exact h3
    | halt x w' => rw [hr] at h3; exact h3
  · rename_i hw
    rw [if_neg hw] at h
    exact Shut.out h
theorem wpKeep_load {w : World} {o : Oper} {rest : List Oper} {a : Act} {t : TypeId} {x : Operand} (ho : o.op = .load t x) (h : wpQuiet P ops (fun w' => ∃ u, w' = ext w (fun _ => False) u) (fun a' => Shut (wpQuiet P ops (fun w' => Keeps (fun _ => False) w w') Q rest a')) [o] a) :
    wpQuiet P ops (fun w' => Keeps (fun _ => False) w w') Q (o :: rest) a :=
  wpKeep_class (fun w' hw' => ⟨w', ext_of hw'⟩) (by rw [ho]; rfl) h
theorem wpKeep_other {w : World} {o : Oper} {rest : List Oper} {a : Act} (hp : plain o.op = true) (h : wpQuiet P ops (fun _ => True) (fun a' => Shut (wpQuiet P ops (fun w' => Keeps (fun _ => False) w w') Q rest a')) [o] a) :
    wpQuiet P ops (fun w' => Keeps (fun _ => False) w w') Q (o :: rest) a :=
  wpKeep_class (fun _ _ => trivial) hp h
end
theorem wp_region_keep {P : Program} {id : Nat} {Q : Exit → Act → World → Prop} {a : Act} {w : World} {l : List Oper} (hm : P.follows .mixedOrders = true) (hB : Region.lexB .any l.toArray = true)
    (h : wpQuiet P l.toArray (fun w' => Keeps (fun _ => False) w w') (fun a' => ∀ w', Keeps (fun _ => False) w w' → Q .normal a' w') l a) : (Code.region id l.toArray true).wp P Q a w :=
  wp_region_quiet (C := fun w' => Keeps (fun _ => False) w w') hm hB (Keeps.refl _ w).drew (by simpa using h)
end Kreg
end Go

/-
  Drawn regions whose first operations come in few orders (a tree of them), and whose rest keeps all memory.
-/
namespace Go
namespace Kreg
open Go.Kw

def wpPreT (P : Program) (ops : Array Oper) (Q : Exit → Act → World → Prop) (rest : List Oper) : Tr → Act → World → Prop
  | .done, a, w => wpQuiet P ops (fun w' => Keeps (fun _ => False) w w') (fun a' => ∀ w', Keeps (fun _ => False) w w' → Q .normal a' w') rest a
  | .one k t, a, w => at' P ops (fun _ => True) Q (wpPreT P ops Q rest t) k a w
  | .two k t j u, a, w => at' P ops (fun _ => True) Q (wpPreT P ops Q rest t) k a w ∧ at' P ops (fun _ => True) Q (wpPreT P ops Q rest u) j a w
def preTB (md : Region.Mode) (ops : Array Oper) (m k0 : Nat) : Nat → Tr → Array Bool → Bool
  | 0, .done, listed => Region.lexFrom md ops m k0 listed
  | n + 1, .one k t, listed => decide (Region.ready md ops listed = [k]) && preTB md ops m k0 n t (listed.setIfInBounds k true)
  | n + 1, .two k t j u, listed => decide (Region.ready md ops listed = [k, j]) && preTB md ops m k0 n t (listed.setIfInBounds k true) && preTB md ops m k0 n u (listed.setIfInBounds j true)
  | _, _, _ => false
end Kreg
end Go

/-
  A rule for regions that draw their order, in which one fresh block may be laid at any time among calls that keep all memory that there is: the address hangs on the order, the rest does not.
-/
namespace Go
namespace Kreg
open Go.Kw
section
variable {P : Program} {ops : Array Oper} {md : Region.Mode} {w0 : World}

/-- What a callee leaves, seen from the world it got. -/
def Rel (w : World) : World → Prop := fun w'' => Keeps (fun _ => False) w w''

/-- The walk in the order of the text: one value for every world that keeps w0, and a world that keeps the one at hand. -/
def wpRel (P : Program) (ops : Array Oper) (w0 : World) (Q : Act → Prop) : List Oper → Act → Prop
  | [], a => Q a
  | o :: rest, a => if Region.wanted o (yielded ops a.tmps) then (∃ v, (∀ w, Keeps (fun _ => False) w0 w → o.quietAt P a (fun w'' => Keeps (fun _ => False) w w'') w v) ∧ wpRel P ops w0 Q rest (a.put o.dst v)) else wpRel P ops w0 Q rest (a.put o.dst undef)
def YieldsR (P : Program) (ops : Array Oper) (w0 : World) (o : Oper) (v : Value) (a : Act) : Prop :=
  (Region.wanted o (yielded ops a.tmps) = true ∧ ∀ w, Keeps (fun _ => False) w0 w → o.quietAt P a (fun w'' => Keeps (fun _ => False) w w'') w v) ∨
  (Region.wanted o (yielded ops a.tmps) = false ∧ v = undef)
def rOp (P : Program) (ops : Array Oper) (w0 : World) (i : Nat) (K : Act → Prop) (a : Act) : Prop :=
  match ops[i]? with
  | none => False
  | some o => ∃ v, YieldsR P ops w0 o v a ∧ K (a.put o.dst v)
theorem YieldsR.of_same {o : Oper} {v : Value} {a a' : Act} (hy : YieldsR P ops w0 o v a) (he : execOp a'.eval o = execOp a.eval o)
    (hw : Region.wanted o (yielded ops a'.tmps) = Region.wanted o (yielded ops a.tmps)) : YieldsR P ops w0 o v a' := by
  unfold YieldsR Oper.quietAt at *
  rw [he, hw]
  exact hy
theorem YieldsR.put {oi oj : Oper} {v u : Value} {a : Act} (hap : oi.apart ops oj = true) (hsi : ∀ cs b, oi.op ≠ .select cs b) (hy : YieldsR P ops w0 oi v a) : YieldsR P ops w0 oi v (a.put oj.dst u) := by
  obtain ⟨_, _, h3⟩ := Oper.apart_spec hap
  exact hy.of_same (execOp_put oi hsi a oj.dst u h3) (wanted_put oi a oj.dst u h3)
/-- Behind the laying of the block: what was there is kept, so is the block. -/
def Laid (w0 : World) (T : TypeId) (zs : List Value) (b : Nat) (w' : World) : Prop := ∃ w1, Keeps (fun _ => False) w0 w1 ∧ b = w1.heap.size ∧ Keeps (fun _ => False) (w1.alloc (.cells zs.toArray T)) w'
theorem Laid.keeps {T : TypeId} {zs : List Value} {b : Nat} {w' : World} (h : Laid w0 T zs b w') : Keeps (fun _ => False) w0 w' := by
  obtain ⟨w1, h1, _, h2⟩ := h
  exact (h1.alloc _).trans h2
theorem Laid.step {T : TypeId} {zs : List Value} {b : Nat} {w' w'' : World} (h : Laid w0 T zs b w') (k : Keeps (fun _ => False) w' w'') : Laid w0 T zs b w'' := by
  obtain ⟨w1, h1, h2, h3⟩ := h
  exact ⟨w1, h1, h2, h3.trans k⟩

/-- The head: what is of H, and the laying at k. -/
def wpFl (P : Program) (md : Region.Mode) (ops : Array Oper) (w0 : World) (k : Nat) (ok : Oper) (H : List Nat) (L : Nat → Array Bool → Act → Prop) : Nat → Option Nat → Array Bool → Act → Prop
  | 0, none, _, _ => False
  | 0, some b, listed, a => L b listed a
  | f + 1, b, listed, a =>
    Region.ready md ops listed ≠ [] ∧ ∀ i ∈ Region.ready md ops listed,
      (i = k ∧ b = none ∧ ∀ b', wpFl P md ops w0 k ok H L f (some b') (listed.setIfInBounds k true) (a.put ok.dst (.pointer (some ⟨b', 0, none⟩)))) ∨
      (i ≠ k ∧ i ∈ H ∧ rOp P ops w0 i (wpFl P md ops w0 k ok H L f b (listed.setIfInBounds i true)) a)

def flCls (w0 : World) (T : TypeId) (zs : List Value) : Option Nat → World → Prop
  | none, w => Keeps (fun _ => False) w0 w
  | some b, w => Laid w0 T zs b w
theorem flCls.keeps {T : TypeId} {zs : List Value} : ∀ {b : Option Nat} {w : World}, flCls w0 T zs b w → Keeps (fun _ => False) w0 w
  | none, _, h => h
  | some _, _, h => Laid.keeps h
theorem flCls.step {T : TypeId} {zs : List Value} : ∀ {b : Option Nat} {w w' : World}, flCls w0 T zs b w → Keeps (fun _ => False) w w' → flCls w0 T zs b w'
  | none, _, _, h, k => Keeps.trans h k
  | some _, _, _, h, k => Laid.step h k

/-- Taken in this order each of H comes up in time and is free; then the laying; then the others are forced. -/
def lexF (md : Region.Mode) (ops : Array Oper) (k : Nat) (T : List Nat) : List Nat → Array Bool → Bool
  | [], listed => decide (Region.ready md ops listed = [k]) && lexL.seqL md ops T (listed.setIfInBounds k true)
  | i :: H, listed => (Region.ready md ops listed).contains i && Region.free md ops listed i && lexF md ops k T H (listed.setIfInBounds i true)
def floatB (md : Region.Mode) (ops : Array Oper) (ms ms' : List Bool) (k : Nat) : Bool :=
  let H := idxs true ms 0
  let T := idxs false ms' 0
  Region.noSelect ops && decide (ms.length = ops.size) && decide (ms'.length = ops.size) && (match T with | [] => false | t0 :: _ => sink md ops t0 (k :: H) && chain md ops T) &&
  ((List.range ops.size).all fun j => (k :: H).contains j || T.contains j) && ((k :: H).all fun j => !(T.contains j)) && !(H.contains k) && decide (H.length + 1 + T.length = ops.size) && lexF md ops k T H (Array.replicate ops.size false)

end
end Kreg
end Go
