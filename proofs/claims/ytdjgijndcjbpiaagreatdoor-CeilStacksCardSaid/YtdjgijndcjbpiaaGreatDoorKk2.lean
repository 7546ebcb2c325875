/-
  Drawn regions whose first operations come in few orders (a tree of them), and whose rest keeps all memory.
-/
import Derived.Test.YtdjgijndcjbpiaaGreatDoorKk
import Derived.Test.YtdjgijndcjbpiaaGreatDoorG02
namespace Go
namespace Kreg
open Go.Kw

def wpPreT (P : Program) (ops : Array Oper) (Q : Exit → Act → World → Prop) (rest : List Oper) : Tr → Act → World → Prop
  | .done, a, w => wpQuiet P ops (fun w' => Keeps (fun _ => False) w w') (fun a' => ∀ w', Keeps (fun _ => False) w w' → Q .normal a' w') rest a
  | .one k t, a, w => at' P ops (fun _ => True) Q (wpPreT P ops Q rest t) k a w
  | .two k t j u, a, w => at' P ops (fun _ => True) Q (wpPreT P ops Q rest t) k a w ∧ at' P ops (fun _ => True) Q (wpPreT P ops Q rest u) j a w
def preTB (md : Region.Mode) (ops : Array Oper) (m k0 : Nat) : Nat → Tr → Array Bool → Bool
  | 0, .done, listed => Region.lexFrom md ops m k0 listed
  | n + 1, .one k t, listed => decide (Region.ready md ops listed = [k]) && preTB md ops m k0 n t (listed.setIfInBounds k true)
  | n + 1, .two k t j u, listed => decide (Region.ready md ops listed = [k, j]) && preTB md ops m k0 n t (listed.setIfInBounds k true) && preTB md ops m k0 n u (listed.setIfInBounds j true)
  | _, _, _ => false
theorem wpPreT_done {P : Program} {ops : Array Oper} {Q : Exit → Act → World → Prop} {rest : List Oper} {a : Act} {w : World} (h : wpQuiet P ops (fun w' => Keeps (fun _ => False) w w') (fun a' => ∀ w', Keeps (fun _ => False) w w' → Q .normal a' w') rest a) : wpPreT P ops Q rest .done a w := h
theorem wpAny_preT {P : Program} {md : Region.Mode} {ops : Array Oper} {Q : Exit → Act → World → Prop} {rest : List Oper} (hs : Region.noSelect ops = true) (k0 : Nat) (hl : ∀ j, rest[j]? = ops[k0 + j]?) : ∀ (n : Nat) (t : Tr) (listed : Array Bool) (a : Act) (w : World),
    preTB md ops rest.length k0 n t listed = true → wpPreT P ops Q rest t a w → wpAny P md ops Q (n + rest.length) listed a w
  | 0, .done, listed, a, w, hB, h => by
    rw [Nat.zero_add]
    refine wpAny_of_quiet (C := fun w' => Keeps (fun _ => False) w w') (Q := fun a' => ∀ w', Keeps (fun _ => False) w w' → Q .normal a' w') (fun _ w' hw' h => h w' hw') _ _ _ _ (Keeps.refl _ w) ?_
    exact wpAnyQ_lex hs rest k0 listed a hl (by simpa [preTB] using hB) h
  | n + 1, .one k t, listed, a, w, hB, h => by
    simp only [preTB, Bool.and_eq_true, decide_eq_true_eq] at hB
    rw [show n + 1 + rest.length = (n + rest.length) + 1 by omega]
    refine ⟨fun h1 => (by rw [hB.1] at h1; cases h1), fun i hi => ?_⟩
    rw [hB.1] at hi
    obtain rfl : i = k := by simpa using hi
    exact wpOp_mono (fun a' w' h' => wpAny_preT hs k0 hl n t _ a' w' hB.2 h'.2) (wpOp_at' h)
  | n + 1, .two k t j u, listed, a, w, hB, h => by
    simp only [preTB, Bool.and_eq_true, decide_eq_true_eq] at hB
    rw [show n + 1 + rest.length = (n + rest.length) + 1 by omega]
    refine ⟨fun h1 => (by rw [hB.1.1] at h1; cases h1), fun i hi => ?_⟩
    rw [hB.1.1] at hi
    have hij : i = k ∨ i = j := by simpa using hi
    rcases hij with rfl | rfl
    · exact wpOp_mono (fun a' w' h' => wpAny_preT hs k0 hl n t _ a' w' hB.1.2 h'.2) (wpOp_at' h.1)
    · exact wpOp_mono (fun a' w' h' => wpAny_preT hs k0 hl n u _ a' w' hB.2 h'.2) (wpOp_at' h.2)
  | 0, .one _ _, _, _, _, hB, _ => by simp [preTB] at hB
  | 0, .two _ _ _ _, _, _, _, hB, _ => by simp [preTB] at hB
  | _ + 1, .done, _, _, _, hB, _ => by simp [preTB] at hB
theorem wp_region_preT {P : Program} {id : Nat} {Q : Exit → Act → World → Prop} {a : Act} {w : World} {l : List Oper} (n : Nat) (t : Tr) (hm : P.follows .mixedOrders = true)
    (hB : (Region.noSelect l.toArray && decide (n ≤ l.length) && preTB .any l.toArray (l.length - n) n n t (Array.replicate l.length false)) = true)
    (h : wpPreT P l.toArray Q (l.drop n) t a w.drew) : (Code.region id l.toArray true).wp P Q a w := by
  simp only [Bool.and_eq_true, decide_eq_true_eq] at hB
  obtain ⟨⟨hs, hn⟩, hp⟩ := hB
  refine wp_region_any hm ?_
  have := wpAny_preT (P := P) (md := .any) (Q := Q) (rest := l.drop n) hs n (fun j => by simp) n t (Array.replicate l.length false) a w.drew (by rw [List.length_drop]; exact hp) h
  rw [List.length_drop, Nat.add_sub_cancel' hn] at this
  simpa using this
end Kreg
end Go
