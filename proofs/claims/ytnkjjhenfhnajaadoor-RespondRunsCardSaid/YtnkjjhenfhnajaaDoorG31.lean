/-
  Texts Kk Kk2 Kf in one.
-/
import Derived.Test.YtnkjjhenfhnajaaDoorG02
import Derived.Deep.QuietTactic
/-
  A rule for regions that draw their order, whose operations only read and whose callees keep all memory that there is: one walk of the text's order serves every order.
-/
namespace Go
namespace Kreg
open Go.Kw

structure Shut (p : Prop) : Prop where
  out : p
section
variable {P : Program} {ops : Array Oper} {Q : Act → Prop}
theorem wpKeep_class {C C' : World → Prop} (hC : ∀ w, C w → C' w) {o : Oper} {rest : List Oper} {a : Act} (hp : plain o.op = true) (h : wpQuiet P ops C' (fun a' => Shut (wpQuiet P ops C Q rest a')) [o] a) : wpQuiet P ops C Q (o :: rest) a := by
  unfold wpQuiet at h ⊢
  split
  · rename_i hw
    rw [if_pos hw] at h
    obtain ⟨v, h1, h2⟩ := h
    refine ⟨v, fun w hw' => ?_, Shut.out h2⟩
    have h3 := h1 w (hC w hw')
    unfold Oper.quietAt at *
    cases hr : (execOp a.eval o).run P w with
    | ok n w' =>
      obtain ⟨u, rfl⟩ := plain_value hp hr
      rw [hr] at h3
      exact h3
    | halt x w' => rw [hr] at h3; exact h3
  · rename_i hw
    rw [if_neg hw] at h
    exact Shut.out h
theorem wpKeep_load {w : World} {o : Oper} {rest : List Oper} {a : Act} {t : TypeId} {x : Operand} (ho : o.op = .load t x) (h : wpQuiet P ops (fun w' => ∃ u, w' = ext w (fun _ => False) u) (fun a' => Shut (wpQuiet P ops (fun w' => Keeps (fun _ => False) w w') Q rest a')) [o] a) :
    wpQuiet P ops (fun w' => Keeps (fun _ => False) w w') Q (o :: rest) a :=
  wpKeep_class (fun w' hw' => ⟨w', ext_of hw'⟩) (by rw [ho]; rfl) h
theorem wpKeep_other {w : World} {o : Oper} {rest : List Oper} {a : Act} (hp : plain o.op = true) (h : wpQuiet P ops (fun _ => True) (fun a' => Shut (wpQuiet P ops (fun w' => Keeps (fun _ => False) w w') Q rest a')) [o] a) :
    wpQuiet P ops (fun w' => Keeps (fun _ => False) w w') Q (o :: rest) a :=
  wpKeep_class (fun _ _ => trivial) hp h
end
theorem wp_region_keep {P : Program} {id : Nat} {Q : Exit → Act → World → Prop} {a : Act} {w : World} {l : List Oper} (hm : P.follows .mixedOrders = true) (hB : Region.lexB .any l.toArray = true)
    (h : wpQuiet P l.toArray (fun w' => Keeps (fun _ => False) w w') (fun a' => ∀ w', Keeps (fun _ => False) w w' → Q .normal a' w') l a) : (Code.region id l.toArray true).wp P Q a w :=
  wp_region_quiet (C := fun w' => Keeps (fun _ => False) w w') hm hB (Keeps.refl _ w).drew (by simpa using h)
end Kreg
end Go

/-
  Drawn regions whose first operations come in few orders (a tree of them), and whose rest keeps all memory.
-/
namespace Go
namespace Kreg
open Go.Kw

def wpPreT (P : Program) (ops : Array Oper) (Q : Exit → Act → World → Prop) (rest : List Oper) : Tr → Act → World → Prop
  | .done, a, w => wpQuiet P ops (fun w' => Keeps (fun _ => False) w w') (fun a' => ∀ w', Keeps (fun _ => False) w w' → Q .normal a' w') rest a
  | .one k t, a, w => at' P ops (fun _ => True) Q (wpPreT P ops Q rest t) k a w
  | .two k t j u, a, w => at' P ops (fun _ => True) Q (wpPreT P ops Q rest t) k a w ∧ at' P ops (fun _ => True) Q (wpPreT P ops Q rest u) j a w
def preTB (md : Region.Mode) (ops : Array Oper) (m k0 : Nat) : Nat → Tr → Array Bool → Bool
  | 0, .done, listed => Region.lexFrom md ops m k0 listed
  | n + 1, .one k t, listed => decide (Region.ready md ops listed = [k]) && preTB md ops m k0 n t (listed.setIfInBounds k true)
  | n + 1, .two k t j u, listed => decide (Region.ready md ops listed = [k, j]) && preTB md ops m k0 n t (listed.setIfInBounds k true) && preTB md ops m k0 n u (listed.setIfInBounds j true)
  | _, _, _ => false
theorem wpPreT_done {P : Program} {ops : Array Oper} {Q : Exit → Act → World → Prop} {rest : List Oper} {a : Act} {w : World} (h : wpQuiet P ops (fun w' => Keeps (fun _ => False) w w') (fun a' => ∀ w', Keeps (fun _ => False) w w' → Q .normal a' w') rest a) : wpPreT P ops Q rest .done a w := h
theorem wpAny_preT {P : Program} {md : Region.Mode} {ops : Array Oper} {Q : Exit → Act → World → Prop} {rest : List Oper} (hs : Region.noSelect ops = true) (k0 : Nat) (hl : ∀ j, rest[j]? = ops[k0 + j]?) : ∀ (n : Nat) (t : Tr) (listed : Array Bool) (a : Act) (w : World),
    preTB md ops rest.length k0 n t listed = true → wpPreT P ops Q rest t a w → wpAny P md ops Q (n + rest.length) listed a w
  | 0, .done, listed, a, w, hB, h => by
    rw [Nat.zero_add]
    refine wpAny_of_quiet (C := fun w' => Keeps (fun _ => False) w w') (Q := fun a' => ∀ w', Keeps (fun _ => False) w w' → Q .normal a' w') (fun _ w' hw' h => h w' hw') _ _ _ _ (Keeps.refl _ w) ?_
    exact wpAnyQ_lex hs rest k0 listed a hl (by simpa [preTB] using hB) h
  | n + 1, .one k t, listed, a, w, hB, h => by
    simp only [preTB, Bool.and_eq_true, decide_eq_true_eq] at hB
    rw [show n + 1 + rest.length = (n + rest.length) + 1 by omega]
    refine ⟨fun h1 => (by rw [hB.1] at h1; cases h1), fun i hi => ?_⟩
    rw [hB.1] at hi
    obtain rfl : i = k := by simpa using hi
    exact wpOp_mono (fun a' w' h' => wpAny_preT hs k0 hl n t _ a' w' hB.2 h'.2) (wpOp_at' h)
  | n + 1, .two k t j u, listed, a, w, hB, h => by
    simp only [preTB, Bool.and_eq_true, decide_eq_true_eq] at hB
    rw [show n + 1 + rest.length = (n + rest.length) + 1 by omega]
    refine ⟨fun h1 => (by rw [hB.1.1] at h1; cases h1), fun i hi => ?_⟩
    rw [hB.1.1] at hi
    have hij : i = k ∨ i = j := by simpa using hi
    rcases hij with rfl | rfl
    · exact wpOp_mono (fun a' w' h' => wpAny_preT hs k0 hl n t _ a' w' hB.1.2 h'.2) (wpOp_at' h.1)
    · exact wpOp_mono (fun a' w' h' => wpAny_preT hs k0 hl n u _ a' w' hB.2 h'.2) (wpOp_at' h.2)
  | 0, .one _ _, _, _, _, hB, _ => by simp [preTB] at hB
  | 0, .two _ _ _ _, _, _, _, hB, _ => by simp [preTB] at hB
  | _ + 1, .done, _, _, _, hB, _ => by simp [preTB] at hB
theorem wp_region_preT {P : Program} {id : Nat} {Q : Exit → Act → World → Prop} {a : Act} {w : World} {l : List Oper} (n : Nat) (t : Tr) (hm : P.follows .mixedOrders = true)
    (hB : (Region.noSelect l.toArray && decide (n ≤ l.length) && preTB .any l.toArray (l.length - n) n n t (Array.replicate l.length false)) = true)
    (h : wpPreT P l.toArray Q (l.drop n) t a w.drew) : (Code.region id l.toArray true).wp P Q a w := by
  simp only [Bool.and_eq_true, decide_eq_true_eq] at hB
  obtain ⟨⟨hs, hn⟩, hp⟩ := hB
  refine wp_region_any hm ?_
  have := wpAny_preT (P := P) (md := .any) (Q := Q) (rest := l.drop n) hs n (fun j => by simp) n t (Array.replicate l.length false) a w.drew (by rw [List.length_drop]; exact hp) h
  rw [List.length_drop, Nat.add_sub_cancel' hn] at this
  simpa using this
end Kreg
end Go

/-
  A rule for regions that draw their order, in which one fresh block may be laid at any time among calls that keep all memory that there is: the address hangs on the order, the rest does not.
-/
namespace Go
namespace Kreg
open Go.Kw
section
variable {P : Program} {ops : Array Oper} {md : Region.Mode} {w0 : World}

/-- What a callee leaves, seen from the world it got. -/
def Rel (w : World) : World → Prop := fun w'' => Keeps (fun _ => False) w w''

/-- The walk in the order of the text: one value for every world that keeps w0, and a world that keeps the one at hand. -/
def wpRel (P : Program) (ops : Array Oper) (w0 : World) (Q : Act → Prop) : List Oper → Act → Prop
  | [], a => Q a
  | o :: rest, a => if Region.wanted o (yielded ops a.tmps) then (∃ v, (∀ w, Keeps (fun _ => False) w0 w → o.quietAt P a (fun w'' => Keeps (fun _ => False) w w'') w v) ∧ wpRel P ops w0 Q rest (a.put o.dst v)) else wpRel P ops w0 Q rest (a.put o.dst undef)
theorem wpRel_nil {Q : Act → Prop} {a : Act} (h : Q a) : wpRel P ops w0 Q [] a := h
theorem wpRel_step {Q : Act → Prop} {a : Act} {o : Oper} {rest : List Oper}
    (h : ∀ K : Act → Prop, (∀ a, wpRel P ops w0 Q rest a → K a) → if Region.wanted o (yielded ops a.tmps) then (∃ v, (∀ w, Keeps (fun _ => False) w0 w → o.quietAt P a (fun w'' => Keeps (fun _ => False) w w'') w v) ∧ K (a.put o.dst v)) else K (a.put o.dst undef)) : wpRel P ops w0 Q (o :: rest) a :=
  h _ (fun _ h => h)
theorem wpRel_skip {Q : Act → Prop} {a : Act} {o : Oper} {rest : List Oper} (hw : Region.wanted o (yielded ops a.tmps) = false) (h : wpRel P ops w0 Q rest (a.put o.dst undef)) : wpRel P ops w0 Q (o :: rest) a := by
  unfold wpRel; rw [if_neg (by rw [hw]; exact Bool.false_ne_true)]; exact h
theorem wpRel_class {C : World → Prop} {Q : Act → Prop} (hC : ∀ w, Keeps (fun _ => False) w0 w → C w) {o : Oper} {rest : List Oper} {a : Act} (hp : plain o.op = true) (h : wpQuiet P ops C (fun a' => Shut (wpRel P ops w0 Q rest a')) [o] a) : wpRel P ops w0 Q (o :: rest) a := by
  unfold wpQuiet at h
  unfold wpRel
  split
  · rename_i hw
    rw [if_pos hw] at h
    obtain ⟨v, h1, h2⟩ := h
    refine ⟨v, fun w hw' => ?_, Shut.out h2⟩
    have h3 := h1 w (hC w hw')
    unfold Oper.quietAt at *
    cases hr : (execOp a.eval o).run P w with
    | ok n w' =>
      obtain ⟨u, rfl⟩ := plain_value hp hr
      rw [hr] at h3
      exact h3
    | halt x w' => rw [hr] at h3; exact h3
  · rename_i hw
    rw [if_neg hw] at h
    exact Shut.out h
theorem wpRel_load {Q : Act → Prop} {o : Oper} {rest : List Oper} {a : Act} {t : TypeId} {x : Operand} (ho : o.op = .load t x) (h : wpQuiet P ops (fun w' => ∃ u, w' = ext w0 (fun _ => False) u) (fun a' => Shut (wpRel P ops w0 Q rest a')) [o] a) : wpRel P ops w0 Q (o :: rest) a :=
  wpRel_class (fun w' hw' => ⟨w', ext_of hw'⟩) (by rw [ho]; rfl) h
theorem wpRel_other {Q : Act → Prop} {o : Oper} {rest : List Oper} {a : Act} (hp : plain o.op = true) (h : wpQuiet P ops (fun _ => True) (fun a' => Shut (wpRel P ops w0 Q rest a')) [o] a) : wpRel P ops w0 Q (o :: rest) a :=
  wpRel_class (fun _ _ => trivial) hp h

def YieldsR (P : Program) (ops : Array Oper) (w0 : World) (o : Oper) (v : Value) (a : Act) : Prop :=
  (Region.wanted o (yielded ops a.tmps) = true ∧ ∀ w, Keeps (fun _ => False) w0 w → o.quietAt P a (fun w'' => Keeps (fun _ => False) w w'') w v) ∨
  (Region.wanted o (yielded ops a.tmps) = false ∧ v = undef)
def rOp (P : Program) (ops : Array Oper) (w0 : World) (i : Nat) (K : Act → Prop) (a : Act) : Prop :=
  match ops[i]? with
  | none => False
  | some o => ∃ v, YieldsR P ops w0 o v a ∧ K (a.put o.dst v)
theorem rOp_mono {i : Nat} {a : Act} {K K' : Act → Prop} (h : ∀ a, K a → K' a) (hh : rOp P ops w0 i K a) : rOp P ops w0 i K' a := by
  unfold rOp at *
  split
  · rename_i ho; simp only [ho] at hh
  · rename_i o ho
    simp only [ho] at hh
    obtain ⟨v, h1, h2⟩ := hh
    exact ⟨v, h1, h _ h2⟩
theorem YieldsR.of_same {o : Oper} {v : Value} {a a' : Act} (hy : YieldsR P ops w0 o v a) (he : execOp a'.eval o = execOp a.eval o)
    (hw : Region.wanted o (yielded ops a'.tmps) = Region.wanted o (yielded ops a.tmps)) : YieldsR P ops w0 o v a' := by
  unfold YieldsR Oper.quietAt at *
  rw [he, hw]
  exact hy
theorem YieldsR.put {oi oj : Oper} {v u : Value} {a : Act} (hap : oi.apart ops oj = true) (hsi : ∀ cs b, oi.op ≠ .select cs b) (hy : YieldsR P ops w0 oi v a) : YieldsR P ops w0 oi v (a.put oj.dst u) := by
  obtain ⟨_, _, h3⟩ := Oper.apart_spec hap
  exact hy.of_same (execOp_put oi hsi a oj.dst u h3) (wanted_put oi a oj.dst u h3)
theorem rOp_put {j : Nat} {oi oj : Oper} {v : Value} (hj : ops[j]? = some oj) (hap : oi.apart ops oj = true)
    (hsi : ∀ cs b, oi.op ≠ .select cs b) (hsj : ∀ cs b, oj.op ≠ .select cs b) {K : Act → Prop} {a : Act}
    (hy : YieldsR P ops w0 oi v a) (h : rOp P ops w0 j K (a.put oi.dst v)) :
    rOp P ops w0 j (fun a' => YieldsR P ops w0 oi v a' ∧ K (a'.put oi.dst v)) a := by
  obtain ⟨h1, h2, h3⟩ := Oper.apart_spec hap
  unfold rOp at *
  simp only [hj] at *
  obtain ⟨u, hu, hn⟩ := h
  refine ⟨u, ?_, hy.put hap hsi, by rw [← Act.put_comm a v u h2]; exact hn⟩
  exact hu.of_same (execOp_put oj hsj a oi.dst v h1).symm (wanted_put oj a oi.dst v h1).symm

/-- Behind the laying of the block: what was there is kept, so is the block. -/
def Laid (w0 : World) (T : TypeId) (zs : List Value) (b : Nat) (w' : World) : Prop := ∃ w1, Keeps (fun _ => False) w0 w1 ∧ b = w1.heap.size ∧ Keeps (fun _ => False) (w1.alloc (.cells zs.toArray T)) w'
theorem Laid.keeps {T : TypeId} {zs : List Value} {b : Nat} {w' : World} (h : Laid w0 T zs b w') : Keeps (fun _ => False) w0 w' := by
  obtain ⟨w1, h1, _, h2⟩ := h
  exact (h1.alloc _).trans h2
theorem Laid.step {T : TypeId} {zs : List Value} {b : Nat} {w' w'' : World} (h : Laid w0 T zs b w') (k : Keeps (fun _ => False) w' w'') : Laid w0 T zs b w'' := by
  obtain ⟨w1, h1, h2, h3⟩ := h
  exact ⟨w1, h1, h2, h3.trans k⟩

/-- The head: what is of H, and the laying at k. -/
def wpFl (P : Program) (md : Region.Mode) (ops : Array Oper) (w0 : World) (k : Nat) (ok : Oper) (H : List Nat) (L : Nat → Array Bool → Act → Prop) : Nat → Option Nat → Array Bool → Act → Prop
  | 0, none, _, _ => False
  | 0, some b, listed, a => L b listed a
  | f + 1, b, listed, a =>
    Region.ready md ops listed ≠ [] ∧ ∀ i ∈ Region.ready md ops listed,
      (i = k ∧ b = none ∧ ∀ b', wpFl P md ops w0 k ok H L f (some b') (listed.setIfInBounds k true) (a.put ok.dst (.pointer (some ⟨b', 0, none⟩)))) ∨
      (i ≠ k ∧ i ∈ H ∧ rOp P ops w0 i (wpFl P md ops w0 k ok H L f b (listed.setIfInBounds i true)) a)

def flCls (w0 : World) (T : TypeId) (zs : List Value) : Option Nat → World → Prop
  | none, w => Keeps (fun _ => False) w0 w
  | some b, w => Laid w0 T zs b w
theorem flCls.keeps {T : TypeId} {zs : List Value} : ∀ {b : Option Nat} {w : World}, flCls w0 T zs b w → Keeps (fun _ => False) w0 w
  | none, _, h => h
  | some _, _, h => Laid.keeps h
theorem flCls.step {T : TypeId} {zs : List Value} : ∀ {b : Option Nat} {w w' : World}, flCls w0 T zs b w → Keeps (fun _ => False) w w' → flCls w0 T zs b w'
  | none, _, _, h, k => Keeps.trans h k
  | some _, _, _, h, k => Laid.step h k

theorem wpOp_of_rOp {T : TypeId} {zs : List Value} {b : Option Nat} {i : Nat} {a : Act} {K : Act → Prop} {K' : Act → World → Prop} {Q' : Exit → Act → World → Prop} {w : World} (hC : flCls w0 T zs b w) (h : ∀ a w', flCls w0 T zs b w' → K a → K' a w') (hh : rOp P ops w0 i K a) : wpOp P ops Q' i K' a w := by
  unfold rOp at hh
  unfold wpOp
  split
  · rename_i ho; simp only [ho] at hh
  · rename_i o ho
    simp only [ho] at hh
    obtain ⟨v, hy, hk⟩ := hh
    rcases hy with ⟨hw, hy⟩ | ⟨hw, rfl⟩
    · rw [if_pos hw]
      refine .inl ?_
      have h3 := hy w hC.keeps
      unfold Oper.quietAt at h3
      unfold Oper.wp
      generalize (execOp a.eval o).run P w = r at *
      cases r with
      | ok n w' =>
        cases n <;> simp only [Oper.quietUpon] at h3 <;> simp only [Oper.upon]
        case value u =>
          obtain ⟨e1, e2⟩ := h3
          rw [e1, e2]
          exact h _ _ hC hk
        case skip =>
          obtain ⟨e1, e2⟩ := h3
          rw [e1, ← e2]
          exact h _ _ hC hk
        case enter f args =>
          obtain ⟨e1, hc⟩ := h3
          rw [e1]
          exact hc.mono fun e w'' ⟨he, hw''⟩ => by subst he; exact h _ _ (hC.step hw'') hk
      | halt x w' => simp only [Oper.quietUpon] at h3
    · rw [if_neg (by rw [hw]; exact Bool.false_ne_true)]
      exact h _ _ hC hk

theorem run_allocT {o : Oper} {T : TypeId} {z : Value} {zs : List Value} (ho : o.op = .alloc T)
    (hi : (P.info? T).map (fun i => i.zero) = some (some z)) (hz : z.cells = zs.toArray) (a : Act) (w : World) :
    (execOp a.eval o).run P w = .ok (.value (.pointer (some ⟨w.heap.size, 0, none⟩))) (w.alloc (.cells zs.toArray T)) := by
  unfold execOp
  cases hq : P.info? T with
  | none => simp [hq] at hi
  | some i =>
    simp only [hq, Option.map_some, Option.some.injEq] at hi
    simp [ho, Instr.alloc, zeroValue, typeInfo, hq, hi, newVar, newRow, hz, Result.andThen]

theorem wpAny_of_wpFl {T : TypeId} {z : Value} {zs : List Value} {k : Nat} {ok : Oper} (hk : ops[k]? = some ok) (hgd : ok.guard = none) (ho : ok.op = .alloc T)
    (hi : (P.info? T).map (fun i => i.zero) = some (some z)) (hz : z.cells = zs.toArray)
    {H : List Nat} {g : Nat} {L : Nat → Array Bool → Act → Prop} {Q' : Exit → Act → World → Prop} (hL : ∀ b listed a w, Laid w0 T zs b w → L b listed a → wpAny P md ops Q' g listed a w) :
    ∀ (f : Nat) (b : Option Nat) (listed : Array Bool) (a : Act) (w : World), flCls w0 T zs b w → wpFl P md ops w0 k ok H L f b listed a → wpAny P md ops Q' (f + g) listed a w
  | 0, none, listed, a, w, hw, h => h.elim
  | 0, some b, listed, a, w, hw, h => by rw [Nat.zero_add]; exact hL _ _ _ _ hw h
  | f + 1, b, listed, a, w, hw, h => by
    rw [show f + 1 + g = (f + g) + 1 by omega]
    refine ⟨fun h0 => absurd h0 h.1, fun i hi' => ?_⟩
    rcases h.2 i hi' with ⟨rfl, rfl, h2⟩ | ⟨_, _, h2⟩
    · unfold wpOp
      simp only [hk]
      have hwt : Region.wanted ok (yielded ops a.tmps) = true := by unfold Region.wanted; rw [hgd]
      rw [if_pos hwt]
      refine .inl ?_
      unfold Oper.wp
      rw [run_allocT ho hi hz]
      simp only [Oper.upon]
      exact wpAny_of_wpFl hk hgd ho hi hz hL f (some w.heap.size) _ _ _ ⟨w, hw, rfl, Keeps.refl _ _⟩ (h2 _)
    · exact wpOp_of_rOp hw (fun a' w' hw' h' => wpAny_of_wpFl hk hgd ho hi hz hL f b _ a' w' hw' h') h2

theorem wpFl_first {H T : List Nat} {t0 i k : Nat} {ok oi : Oper} {v : Value} {L : Nat → Array Bool → Act → Prop} (hk : ops[k]? = some ok) (hi : ops[i]? = some oi) (hsel : ∀ (j : Nat) (o : Oper) cs b, ops[j]? = some o → o.op ≠ .select cs b)
    (hs : sink md ops t0 (k :: H) = true) (hc : chain md ops (t0 :: T) = true) (hcov : ∀ j, j < ops.size → j ∈ k :: H ∨ j ∈ t0 :: T) (hdisj : ∀ j ∈ k :: H, j ∉ t0 :: T)
    (hiH : i ∈ H) (hik : i ≠ k) (hdone : ∀ b listed a, L b listed a → ∀ j ∈ Region.ready md ops listed, j ∈ t0 :: T) :
    ∀ (f : Nat) (b : Option Nat) (listed : Array Bool) (a : Act), Inv md ops (t0 :: T) listed →
      (∀ j oj, ops[j]? = some oj → j ≠ i → listed.getD j true = false → (∀ e ∈ oj.after, Region.binds md e = true → e.on ≠ i) → oi.apart ops oj = true) →
      i ∈ Region.ready md ops listed → YieldsR P ops w0 oi v a →
      wpFl P md ops w0 k ok H L f b (listed.setIfInBounds i true) (a.put oi.dst v) → wpFl P md ops w0 k ok H L (f + 1) b listed a := by
  have rop : ∀ {K : Act → Prop} {a : Act}, YieldsR P ops w0 oi v a → K (a.put oi.dst v) → rOp P ops w0 i K a := by
    intro K a hy hK
    unfold rOp; simp only [hi]; exact ⟨v, hy, hK⟩
  intro f
  induction f with
  | zero =>
    intro b listed a inv _ hr hy Hd
    have hun := (mem_ready.1 hr).1
    refine ⟨fun h => (by rw [h] at hr; cases hr), fun j hj => ?_⟩
    have hjH := ready_in hs hc hcov inv (List.mem_cons_of_mem _ hiH) hun j hj
    by_cases hji : j = i
    · subst hji; exact .inr ⟨hik, hiH, rop hy Hd⟩
    · cases b with
      | none => exact Hd.elim
      | some b => exact absurd (hdone _ _ _ Hd j (ready_mono hj hji)) (hdisj j hjH)
  | succ f ih =>
    intro b listed a inv hfree hr hy Hd
    have hun := (mem_ready.1 hr).1
    refine ⟨fun h => (by rw [h] at hr; cases hr), fun j hj => ?_⟩
    have hjH := ready_in hs hc hcov inv (List.mem_cons_of_mem _ hiH) hun j hj
    by_cases hji : j = i
    · subst hji; exact .inr ⟨hik, hiH, rop hy Hd⟩
    · have h1 := Hd.2 j (ready_mono hj hji)
      obtain ⟨hjun, oj, hoj, hall⟩ := mem_ready.1 hj
      have hnot : ∀ e ∈ oj.after, Region.binds md e = true → e.on ≠ i := fun e he hb heq => by
        have h1 := hall e he hb
        rw [heq, getD_both hun] at h1
        cases h1
      have hap := hfree j oj hoj hji hjun hnot
      have hfree' : ∀ k ok, ops[k]? = some ok → k ≠ i → (listed.setIfInBounds j true).getD k true = false →
          (∀ e ∈ ok.after, Region.binds md e = true → e.on ≠ i) → oi.apart ops ok = true := fun k ok hk hki hun hno => by
        refine hfree k ok hk hki ?_ hno
        by_cases hjk : j = k
        · subst hjk; exact hjun
        · rw [getD_set_ne true hjk] at hun; exact hun
      have inv' := inv.set hj (hdisj j hjH)
      have hr' := ready_mono hr (Ne.symm hji)
      rcases h1 with ⟨rfl, rfl, h2⟩ | ⟨hjk, hjH', h2⟩
      · have : oj = ok := Option.some.inj (hoj.symm.trans hk)
        subst this
        refine .inl ⟨rfl, rfl, fun b' => ?_⟩
        refine ih (some b') (listed.setIfInBounds j true) _ inv' hfree' hr' (hy.put hap (fun cs b => hsel i oi cs b hi)) ?_
        rw [Array.setIfInBounds_comm _ _ hji, ← Act.put_comm a v _ (Oper.apart_spec hap).2.1]
        exact h2 b'
      · refine .inr ⟨hjk, hjH', ?_⟩
        have h3 := rOp_put hoj hap (fun cs b => hsel i oi cs b hi) (fun cs b => hsel j oj cs b hoj) hy h2
        refine rOp_mono (fun a' h3 => ih b (listed.setIfInBounds j true) a' inv' hfree' hr' h3.1 ?_) h3
        rw [Array.setIfInBounds_comm _ _ hji]
        exact h3.2

/-- Taken in this order each of H comes up in time and is free; then the laying; then the others are forced. -/
def lexF (md : Region.Mode) (ops : Array Oper) (k : Nat) (T : List Nat) : List Nat → Array Bool → Bool
  | [], listed => decide (Region.ready md ops listed = [k]) && lexL.seqL md ops T (listed.setIfInBounds k true)
  | i :: H, listed => (Region.ready md ops listed).contains i && Region.free md ops listed i && lexF md ops k T H (listed.setIfInBounds i true)
theorem wpFl_lex {T : List Nat} {t0 k : Nat} {ok : Oper} {Lq : Act → Prop} (H0 : List Nat) (hk : ops[k]? = some ok) (hsel : Region.noSelect ops = true)
    (hs : sink md ops t0 (k :: H0) = true) (hc : chain md ops (t0 :: T) = true) (hcov : ∀ j, j < ops.size → j ∈ k :: H0 ∨ j ∈ t0 :: T) (hdisj : ∀ j ∈ k :: H0, j ∉ t0 :: T) (hkH : k ∉ H0) :
    ∀ (H : List Nat) (l : List Oper) (listed : Array Bool) (a : Act), H.map (fun i => ops[i]?) = l.map some → (∀ j ∈ H, j ∈ H0) → Inv md ops (t0 :: T) listed →
    lexF md ops k (t0 :: T) H listed = true → wpRel P ops w0 Lq l a →
    wpFl P md ops w0 k ok H0 (fun b listed' a' => lexL.seqL md ops (t0 :: T) listed' = true ∧ ∃ a0, a' = Act.put a0 ok.dst (.pointer (some ⟨b, 0, none⟩)) ∧ Lq a0) (H.length + 1) none listed a
  | [], l, listed, a, hl, _, _, hB, h => by
    cases l with
    | nil =>
      simp only [lexF, Bool.and_eq_true, decide_eq_true_eq] at hB
      refine ⟨fun h1 => (by rw [hB.1] at h1; cases h1), fun i hi => ?_⟩
      rw [hB.1] at hi
      have hik : i = k := by simpa using hi
      exact .inl ⟨hik, rfl, fun b' => ⟨hB.2, a, rfl, h⟩⟩
    | cons _ _ => simp at hl
  | i :: H, l, listed, a, hl, hsub, inv, hB, h => by
    cases l with
    | nil => simp at hl
    | cons o l =>
      simp only [List.map_cons, List.cons.injEq] at hl
      obtain ⟨h0, hl⟩ := hl
      simp only [lexF, Bool.and_eq_true] at hB
      obtain ⟨⟨hr, hf⟩, hB'⟩ := hB
      have hr' : i ∈ Region.ready md ops listed := by simpa using hr
      have hiH := hsub i (by simp)
      have hst : ∃ v, YieldsR P ops w0 o v a ∧ wpRel P ops w0 Lq l (a.put o.dst v) := by
        unfold wpRel at h
        by_cases hw : Region.wanted o (yielded ops a.tmps) = true
        · rw [if_pos hw] at h
          obtain ⟨v, h1, h2⟩ := h
          exact ⟨v, .inl ⟨hw, h1⟩, h2⟩
        · rw [if_neg hw] at h
          exact ⟨undef, .inr ⟨by simpa using hw, rfl⟩, h⟩
      obtain ⟨v, hy, hK⟩ := hst
      exact wpFl_first hk h0 (Region.noSelect_spec hsel) hs hc hcov hdisj hiH (fun e => hkH (e ▸ hiH)) (fun b listed' a' hL => seqL_ready hL.1) (H.length + 1) none listed a inv (Region.free_spec h0 hf) hr' hy
        (wpFl_lex H0 hk hsel hs hc hcov hdisj hkH H l _ _ hl (fun j hj => hsub j (by simp [hj])) (inv.set hr' (hdisj i (List.mem_cons_of_mem _ hiH))) hB' hK)

def floatB (md : Region.Mode) (ops : Array Oper) (ms ms' : List Bool) (k : Nat) : Bool :=
  let H := idxs true ms 0
  let T := idxs false ms' 0
  Region.noSelect ops && decide (ms.length = ops.size) && decide (ms'.length = ops.size) && (match T with | [] => false | t0 :: _ => sink md ops t0 (k :: H) && chain md ops T) &&
  ((List.range ops.size).all fun j => (k :: H).contains j || T.contains j) && ((k :: H).all fun j => !(T.contains j)) && !(H.contains k) && decide (H.length + 1 + T.length = ops.size) && lexF md ops k T H (Array.replicate ops.size false)

/-- The rule. ms says yes at what is walked in the text's order (calls that keep all memory, reads), ms' there and at the laying k; the others are forced behind. -/
theorem wp_region_float {id : Nat} {Q : Exit → Act → World → Prop} {a : Act} {w : World} {l : List Oper} (ms ms' : List Bool) (k : Nat) (ok : Oper) (T : TypeId) (z : Value) (zs : List Value) (hm : P.follows .mixedOrders = true)
    (hk : l[k]? = some ok) (hgd : ok.guard = none) (ho : ok.op = .alloc T) (hB : floatB .any l.toArray ms ms' k = true)
    (hi : (P.info? T).map (fun i => i.zero) = some (some z)) (hz : z.cells = zs.toArray)
    (h : wpRel P l.toArray w (fun a' => ∀ b w', Laid w T zs b w' → wpList P l.toArray Q (back ms' l) (a'.put ok.dst (.pointer (some ⟨b, 0, none⟩))) w') (front ms l) a) : (Code.region id l.toArray true).wp P Q a w := by
  unfold floatB at hB
  simp only [Bool.and_eq_true, decide_eq_true_eq] at hB
  obtain ⟨⟨⟨⟨⟨⟨⟨⟨hsel, hl1⟩, hl2⟩, hsc⟩, hcov⟩, hdj⟩, hkH⟩, hsz⟩, hlex⟩ := hB
  have hf := front_spec l ms l 0 (by simp) (by simpa using hl1)
  have hb := back_spec l ms' l 0 (by simp) (by simpa using hl2)
  generalize hT : idxs false ms' 0 = TT at *
  cases TT with
  | nil => cases hsc
  | cons t0 TT =>
    simp only [Bool.and_eq_true] at hsc
    have hcov' : ∀ j, j < l.toArray.size → j ∈ k :: idxs true ms 0 ∨ j ∈ t0 :: TT := by
      intro j hj
      have := List.all_eq_true.1 hcov j (List.mem_range.2 hj)
      simp only [Bool.or_eq_true, List.contains_iff_mem] at this
      exact this
    have hdj' : ∀ j ∈ k :: idxs true ms 0, j ∉ t0 :: TT := by
      intro j hj
      have := List.all_eq_true.1 hdj j hj
      simpa [List.contains_iff_mem] using this
    have hkH' : k ∉ idxs true ms 0 := by simpa [List.contains_iff_mem] using hkH
    have inv0 : Inv .any l.toArray (t0 :: TT) (Array.replicate l.toArray.size false) :=
      ⟨by simp, fun j oj _ hl => (by rw [getD_replicate_false] at hl; cases hl), fun t _ => getD_replicate_false _ _⟩
    have Hd := wpFl_lex (P := P) (w0 := w) (md := .any) (ops := l.toArray) (ok := ok) (idxs true ms 0) (by simpa using hk) hsel hsc.1 hsc.2 hcov' hdj' hkH' (idxs true ms 0) (front ms l) _ a (by simpa using hf) (fun _ h => h) inv0 hlex h
    refine wp_region_any hm ?_
    have := wpAny_of_wpFl (P := P) (Q' := Q) (g := (t0 :: TT).length) (by simpa using hk) hgd ho hi hz (fun b listed a' w' hw' hL => by
      obtain ⟨h1, a0, rfl, h2⟩ := hL
      exact wpAny_of_seqL (t0 :: TT) (back ms' l) listed _ w' (by simpa using hb) h1 (h2 b w' hw')) _ none _ a w.drew (Keeps.refl _ w).drew Hd
    rw [hsz] at this
    exact this
end
end Kreg
end Go
