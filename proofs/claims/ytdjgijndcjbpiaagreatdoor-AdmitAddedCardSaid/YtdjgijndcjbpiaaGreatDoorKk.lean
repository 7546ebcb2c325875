/-
  A rule for regions that draw their order, whose operations only read and whose callees keep all memory that there is: one walk of the text's order serves every order.
-/
import Derived.Test.YtdjgijndcjbpiaaGreatDoorG02
import Derived.Deep.QuietTactic
namespace Go
namespace Kreg
open Go.Kw

structure Shut (p : Prop) : Prop where
  out : p
section
variable {P : Program} {ops : Array Oper} {Q : Act → Prop}
theorem wpKeep_class {C C' : World → Prop} (hC : ∀ w, C w → C' w) {o : Oper} {rest : List Oper} {a : Act} (hp : plain o.op = true) (h : wpQuiet P ops C' (fun a' => Shut (wpQuiet P ops C Q rest a')) [o] a) : wpQuiet P ops C Q (o :: rest) a := by
  unfold wpQuiet at h ⊢
  split
  · rename_i hw
    rw [if_pos hw] at h
    obtain ⟨v, h1, h2⟩ := h
    refine ⟨v, fun w hw' => ?_, Shut.out h2⟩
    have h3 := h1 w (hC w hw')
    unfold Oper.quietAt at *
    cases hr : (execOp a.eval o).run P w with
    | ok n w' =>
      obtain ⟨u, rfl⟩ := plain_value hp hr
      rw [hr] at h3
      exact h3
    | halt x w' => rw [hr] at h3; exact h3
  · rename_i hw
    rw [if_neg hw] at h
    exact Shut.out h
theorem wpKeep_load {w : World} {o : Oper} {rest : List Oper} {a : Act} {t : TypeId} {x : Operand} (ho : o.op = .load t x) (h : wpQuiet P ops (fun w' => ∃ u, w' = ext w (fun _ => False) u) (fun a' => Shut (wpQuiet P ops (fun w' => Keeps (fun _ => False) w w') Q rest a')) [o] a) :
    wpQuiet P ops (fun w' => Keeps (fun _ => False) w w') Q (o :: rest) a :=
  wpKeep_class (fun w' hw' => ⟨w', ext_of hw'⟩) (by rw [ho]; rfl) h
theorem wpKeep_other {w : World} {o : Oper} {rest : List Oper} {a : Act} (hp : plain o.op = true) (h : wpQuiet P ops (fun _ => True) (fun a' => Shut (wpQuiet P ops (fun w' => Keeps (fun _ => False) w w') Q rest a')) [o] a) :
    wpQuiet P ops (fun w' => Keeps (fun _ => False) w w') Q (o :: rest) a :=
  wpKeep_class (fun _ _ => trivial) hp h
end
theorem wp_region_keep {P : Program} {id : Nat} {Q : Exit → Act → World → Prop} {a : Act} {w : World} {l : List Oper} (hm : P.follows .mixedOrders = true) (hB : Region.lexB .any l.toArray = true)
    (h : wpQuiet P l.toArray (fun w' => Keeps (fun _ => False) w w') (fun a' => ∀ w', Keeps (fun _ => False) w w' → Q .normal a' w') l a) : (Code.region id l.toArray true).wp P Q a w :=
  wp_region_quiet (C := fun w' => Keeps (fun _ => False) w w') hm hB (Keeps.refl _ w).drew (by simpa using h)
end Kreg
end Go
