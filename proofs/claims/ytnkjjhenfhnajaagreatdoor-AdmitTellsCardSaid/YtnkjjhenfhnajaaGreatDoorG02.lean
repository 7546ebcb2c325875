/-
  Texts Kreg Kmix Ktree in one.
-/
import Derived.Deep.Quiet
import Derived.StillTail
import Derived.WalkKit
import Derived.BigQuiet
import Derived.Deep.QuietTactic
import Derived.Test.YtnkjjhenfhnajaaGreatDoorG01
import Derived.Deep.RegionHeld3
/-
  A rule for regions that draw their order: operations that only read (or call quietly) are taken first, in the order of the text; all others then come one by one, in a forced order.
-/
namespace Go
namespace Kreg
section
variable {P : Program} {ops : Array Oper} {md : Region.Mode} {C : World → Prop}

/-- The positions, from k on, at which the mask says b. -/
def idxs (b : Bool) : List Bool → Nat → List Nat
  | [], _ => []
  | m :: ms, k => if m == b then k :: idxs b ms (k + 1) else idxs b ms (k + 1)

/-- The operations at which the mask says yes. -/
def front : List Bool → List Oper → List Oper
  | true :: ms, o :: l => o :: front ms l
  | false :: ms, _ :: l => front ms l
  | _, _ => []
/-- The others. -/
def back : List Bool → List Oper → List Oper
  | true :: ms, _ :: l => back ms l
  | false :: ms, o :: l => o :: back ms l
  | _, _ => []

theorem front_spec (all : List Oper) : ∀ (ms : List Bool) (l : List Oper) (k : Nat), (∀ j, l[j]? = all[k + j]?) → ms.length = l.length →
    (idxs true ms k).map (fun i => all[i]?) = (front ms l).map some := by
  intro ms
  induction ms with
  | nil => intro l k _ hl; cases l with
    | nil => rfl
    | cons _ _ => simp at hl
  | cons m ms ih =>
    intro l k h hl
    cases l with
    | nil => simp at hl
    | cons o l =>
      have h0 : all[k]? = some o := by simpa using (h 0).symm
      have ih' := ih l (k + 1) (fun j => by have := h (j + 1); simpa [Nat.add_assoc, Nat.add_comm 1 j] using this) (by simpa using hl)
      cases m
      · simpa [idxs, front] using ih'
      · simp [idxs, front, h0, ih']

theorem back_spec (all : List Oper) : ∀ (ms : List Bool) (l : List Oper) (k : Nat), (∀ j, l[j]? = all[k + j]?) → ms.length = l.length →
    (idxs false ms k).map (fun i => all[i]?) = (back ms l).map some := by
  intro ms
  induction ms with
  | nil => intro l k _ hl; cases l with
    | nil => rfl
    | cons _ _ => simp at hl
  | cons m ms ih =>
    intro l k h hl
    cases l with
    | nil => simp at hl
    | cons o l =>
      have h0 : all[k]? = some o := by simpa using (h 0).symm
      have ih' := ih l (k + 1) (fun j => by have := h (j + 1); simpa [Nat.add_assoc, Nat.add_comm 1 j] using this) (by simpa using hl)
      cases m
      · simp [idxs, back, h0, ih']
      · simpa [idxs, back] using ih'

/-- Each place of the list is waited for by a later one. -/
def sink (md : Region.Mode) (ops : Array Oper) (t0 : Nat) : List Nat → Bool
  | [] => true
  | i :: rest => (Region.waitsFor md ops t0 i || rest.any fun j => Region.waitsFor md ops j i) && sink md ops t0 rest

/-- Each place waits for the one ahead of it. -/
def chain (md : Region.Mode) (ops : Array Oper) : List Nat → Bool
  | [] => true
  | [_] => true
  | i :: j :: rest => Region.waitsFor md ops j i && chain md ops (j :: rest)

def Closed (md : Region.Mode) (ops : Array Oper) (listed : Array Bool) : Prop :=
  ∀ j oj, ops[j]? = some oj → listed.getD j false = true → ∀ e ∈ oj.after, Region.binds md e = true → listed.getD e.on false = true

/-- Taken in this order each comes up in time and is free; then the others are forced. -/
def lexL (md : Region.Mode) (ops : Array Oper) (T : List Nat) : List Nat → Array Bool → Bool
  | [], listed => seqL T listed
  | k :: H, listed => (Region.ready md ops listed).contains k && Region.free md ops listed k && lexL md ops T H (listed.setIfInBounds k true)
where
  seqL : List Nat → Array Bool → Bool
  | [], listed => (Region.ready md ops listed).isEmpty
  | k :: T, listed => decide (Region.ready md ops listed = [k]) && seqL T (listed.setIfInBounds k true)

def frontB (md : Region.Mode) (ops : Array Oper) (ms : List Bool) : Bool :=
  let H := idxs true ms 0
  let T := idxs false ms 0
  Region.noSelect ops && decide (ms.length = ops.size) && (match T with | [] => false | t0 :: _ => sink md ops t0 H && chain md ops T) && lexL md ops T H (Array.replicate ops.size false)

/-- The head: all that comes up is of H. -/
def wpHead (P : Program) (md : Region.Mode) (ops : Array Oper) (C : World → Prop) (H : List Nat) (L : Array Bool → Act → Prop) : Nat → Array Bool → Act → Prop
  | 0, listed, a => L listed a
  | f + 1, listed, a =>
    Region.ready md ops listed ≠ [] ∧ ∀ i ∈ Region.ready md ops listed, i ∈ H ∧ qOp P ops C i (wpHead P md ops C H L f (listed.setIfInBounds i true)) a

structure Inv (md : Region.Mode) (ops : Array Oper) (T : List Nat) (listed : Array Bool) : Prop where
  size : listed.size = ops.size
  closed : Closed md ops listed
  tail : ∀ t ∈ T, listed.getD t false = false

theorem Inv.set {T : List Nat} {listed : Array Bool} {i : Nat} (inv : Inv md ops T listed) (hi : i ∈ Region.ready md ops listed) (hiT : i ∉ T) : Inv md ops T (listed.setIfInBounds i true) := by
  obtain ⟨_, oi, hoi, hall⟩ := mem_ready.1 hi
  refine ⟨by simp [inv.size], fun j oj hj hl e he hb => ?_, fun t ht => by
    rw [getD_set_ne false (fun (h : i = t) => hiT (by rw [h]; exact ht))]; exact inv.tail t ht⟩
  by_cases hij : i = j
  · subst hij
    have : oj = oi := Option.some.inj (hj.symm.trans hoi)
    subst this
    exact getD_set_true (hall e he hb)
  · rw [getD_set_ne false hij] at hl
    exact getD_set_true (inv.closed j oj hj hl e he hb)

theorem idxs_len : ∀ (ms : List Bool) (k : Nat), (idxs true ms k).length + (idxs false ms k).length = ms.length
  | [], _ => rfl
  | m :: ms, k => by
    have := idxs_len ms (k + 1)
    cases m <;> simp [idxs] <;> omega

end
end Kreg
end Go

/-
  A rule for regions that draw their order and in which reads stand beside calls or allocations: the reads (and all that is pure) are taken first, in a class of worlds that the steps behind them keep; the steps themselves come one by one.
-/
namespace Go
namespace Kreg
open Kw

attribute [go_sem] World.cell?_alloc_some
@[go_sem] theorem frozen?_alloc_some (w : World) (a : Addr) (o : Obj) (h : (w.cell? a).isSome = true) : (w.alloc o).frozen? a = w.frozen? a := by
  obtain ⟨u, hu⟩ := Option.isSome_iff_exists.1 h
  exact World.frozen?_alloc_old _ _ _ (Nat.ne_of_lt (World.block_lt_of_cell? w a hu))

/-- The world u, but what stood in w outside F stands as it stood. -/
noncomputable def ext (w : World) (F : Nat → Prop) (u : World) : World :=
  open Classical in
  { u with heap := if w.heap.size ≤ u.heap.size then Array.ofFn (n := u.heap.size) (fun i => if h : i.1 < w.heap.size ∧ ¬ F i.1 then w.heap[i.1]'h.1 else u.heap[i.1]) else w.heap }

theorem ext_block (w : World) (F : Nat → Prop) (u : World) {k : Nat} (hk : k < w.heap.size) (hF : ¬ F k) : (ext w F u).heap[k]? = w.heap[k]? := by
  unfold ext
  by_cases h : w.heap.size ≤ u.heap.size
  · simp only [if_pos h]
    rw [Array.getElem?_ofFn]
    rw [dif_pos (by omega), dif_pos ⟨hk, hF⟩]
    simp
  · simp only [if_neg h]

theorem ext_cell (w : World) (F : Nat → Prop) (u : World) {a : Addr} {v : Value} (h : w.cell? a = some v) (hF : ¬ F a.block) : (ext w F u).cell? a = some v :=
  (World.cell?_of_block (w := w) (ext_block w F u (World.block_lt_of_cell? w a h) hF)).trans h

@[go_sem] theorem ext_cell_some (w : World) (F : Nat → Prop) (u : World) (a : Addr) (h : (w.cell? a).isSome = true) (hF : ¬ F a.block) : (ext w F u).cell? a = w.cell? a := by
  obtain ⟨v, hv⟩ := Option.isSome_iff_exists.1 h
  rw [ext_cell w F u hv hF, hv]

theorem ext_of {w u : World} {F : Nat → Prop} (h : Keeps F w u) : u = ext w F u := by
  unfold ext
  simp only [if_pos h.size]
  have : u.heap = Array.ofFn (n := u.heap.size) (fun i => open Classical in if h : i.1 < w.heap.size ∧ ¬ F i.1 then w.heap[i.1]'h.1 else u.heap[i.1]) := by
    apply Array.ext_getElem?
    intro i
    rw [Array.getElem?_ofFn]
    by_cases hi : i < u.heap.size
    · rw [dif_pos hi]
      by_cases hc : i < w.heap.size ∧ ¬ F i
      · rw [dif_pos hc, h.block i hc.1 hc.2]; simp
      · rw [dif_neg hc]; simp
    · rw [dif_neg hi, Array.getElem?_eq_none (by omega)]
  cases u
  simpa using this

section
variable {P : Program} {ops : Array Oper} {md : Region.Mode} {C : World → Prop} {Q : Exit → Act → World → Prop}

/-- These yield a value in the very world that they got, or nothing. -/
def plain : Op → Bool
  | .move _ | .assign _ | .pick .. | .load .. | .nilCheck _ | .binOp .. | .unOp .. | .slice .. | .fieldAddr .. | .field .. | .indexAddr .. | .index .. | .extract .. | .makeInterface .. | .build .. => true
  | .call { callee := .builtin .len, .. } | .call { callee := .builtin .cap, .. } | .call { callee := .builtin .max, .. } | .call { callee := .builtin .min, .. } => true
  | _ => false

def plainAt (ops : Array Oper) (i : Nat) : Bool := match ops[i]? with | some o => plain o.op | none => false

theorem run_value {s : Sem Value} {w w' : World} {n : Next} (h : (do pure (Next.value (← s)) : Sem Next).run P w = .ok n w') : ∃ v, n = .value v := by
  simp only [Sem.run_bind] at h
  cases hs : s.run P w with
  | ok v w1 => rw [hs] at h; simp at h; exact ⟨v, h.1.symm⟩
  | halt x w1 => rw [hs] at h; simp at h

theorem run_split {α β : Type} {s : Sem α} {t : α → Sem β} {w w' : World} {n : β} (h : (s >>= t).run P w = .ok n w') : ∃ a w1, s.run P w = .ok a w1 ∧ (t a).run P w1 = .ok n w' := by
  simp only [Sem.run_bind] at h
  cases hs : s.run P w with
  | ok v w1 => rw [hs] at h; exact ⟨v, w1, rfl, h⟩
  | halt x w1 => rw [hs] at h; simp at h

theorem plain_value {o : Oper} (hp : plain o.op = true) {ρ : Operand → Value} {w w' : World} {n : Next} (h : (execOp ρ o).run P w = .ok n w') : ∃ v, n = .value v := by
  unfold execOp at h
  cases ho : o.op <;> simp only [ho] at h hp <;> try (simp [plain] at hp; done)
  case move x => simp at h; exact ⟨_, h.1.symm⟩
  case assign x => simp at h; exact ⟨_, h.1.symm⟩
  case nilCheck x =>
    clear hp
    split at h
    · exact absurd h (by simp [runtimePanic])
    · exact absurd h (by simp [runtimePanic])
    · exact absurd h (by simp [runtimePanic])
    · split at h
      · exact absurd h (by simp [runtimePanic])
      · obtain ⟨p, w1, _, h⟩ := run_split h
        obtain ⟨b, w2, _, h⟩ := run_split h
        split at h
        · obtain ⟨_, w3, h3, h⟩ := run_split h
          simp [unsupported] at h3
        · simp at h; exact ⟨_, h.1.symm⟩
      · simp at h; exact ⟨_, h.1.symm⟩
    · simp at h; exact ⟨_, h.1.symm⟩
  case call c =>
    obtain ⟨d, w1, hd, h⟩ := run_split h
    have hb : ∃ b, c.callee = .builtin b ∧ (b = .len ∨ b = .cap ∨ b = .max ∨ b = .min) := by
      cases c with
      | mk callee args tys =>
        cases callee with
        | builtin b => cases b <;> simp [plain] at hp <;> simp
        | _ => simp [plain] at hp
    obtain ⟨b, hc, hb⟩ := hb
    unfold resolve at hd
    simp only [hc] at hd
    simp at hd
    obtain ⟨rfl, rfl⟩ := hd
    simp only [invoke, builtin] at h
    rcases hb with rfl | rfl | rfl | rfl <;> exact run_value h
  case pick c a b =>
    obtain ⟨d, w1, _, h⟩ := run_split h
    simp at h; exact ⟨_, h.1.symm⟩
  all_goals exact run_value h

/-- In every world of the class the operation yields v and leaves the world as it is; or its guard says no. -/
def YieldsP (P : Program) (ops : Array Oper) (C : World → Prop) (o : Oper) (v : Value) (a : Act) : Prop :=
  (Region.wanted o (yielded ops a.tmps) = true ∧ ∀ w, C w → (execOp a.eval o).run P w = .ok (.value v) w) ∨ (Region.wanted o (yielded ops a.tmps) = false ∧ v = undef)

theorem YieldsP.of_same {o : Oper} {v : Value} {a a' : Act} (hy : YieldsP P ops C o v a) (he : execOp a'.eval o = execOp a.eval o)
    (hw : Region.wanted o (yielded ops a'.tmps) = Region.wanted o (yielded ops a.tmps)) : YieldsP P ops C o v a' := by
  unfold YieldsP at *
  rw [he, hw]
  exact hy

theorem yieldsP_of_qOp {i : Nat} {o : Oper} {a : Act} {K : Act → Prop} (hp : plain o.op = true) (hi : ops[i]? = some o) (h : qOp P ops C i K a) : ∃ v, YieldsP P ops C o v a ∧ K (a.put o.dst v) := by
  obtain ⟨v, hy, hK⟩ := yieldsIn_of_qOp hi h
  refine ⟨v, ?_, hK⟩
  rcases hy with ⟨hw, hv⟩ | hy
  · refine .inl ⟨hw, fun w hC => ?_⟩
    have h1 := hv w hC
    unfold Oper.quietAt at h1
    cases hr : (execOp a.eval o).run P w with
    | ok n w' =>
      obtain ⟨u, rfl⟩ := plain_value hp hr
      rw [hr] at h1
      simp only [Oper.quietUpon] at h1
      rw [h1.1, h1.2]
    | halt x w' => rw [hr] at h1; simp only [Oper.quietUpon] at h1
  · exact .inr hy

theorem YieldsP.wpOp {i : Nat} {o : Oper} {v : Value} {a : Act} {w : World} (hi : ops[i]? = some o) (hy : YieldsP P ops C o v a) (hC : C w) {K : Act → World → Prop} (h : K (a.put o.dst v) w) : wpOp P ops Q i K a w := by
  unfold Go.wpOp
  simp only [hi]
  rcases hy with ⟨hw, hv⟩ | ⟨hw, rfl⟩
  · simp only [hw, if_true]
    refine .inl ?_
    unfold Oper.wp
    rw [hv w hC]
    exact h
  · simp only [hw, Bool.false_eq_true, if_false]; exact h

theorem wpOp_putP {j : Nat} {oi oj : Oper} {v : Value} (hj : ops[j]? = some oj) (hap : oi.apart ops oj = true)
    (hsi : ∀ cs b, oi.op ≠ .select cs b) (hsj : ∀ cs b, oj.op ≠ .select cs b)
    (hQ : ∀ c a w, Q (.panic c) (a.put oi.dst v) w → Q (.panic c) a w) {K : Act → World → Prop} {a : Act} {w : World}
    (hy : YieldsP P ops C oi v a) (h : wpOp P ops Q j K (a.put oi.dst v) w) :
    wpOp P ops Q j (fun a' w' => YieldsP P ops C oi v a' ∧ K (a'.put oi.dst v) w') a w := by
  obtain ⟨h1, h2, h3⟩ := Oper.apart_spec hap
  have keep : ∀ (a : Act), YieldsP P ops C oi v a → ∀ u, YieldsP P ops C oi v (a.put oj.dst u) := fun a hy u =>
    hy.of_same (execOp_put oi hsi a oj.dst u h3) (wanted_put oi a oj.dst u h3)
  have keepD : ∀ d, YieldsP P ops C oi v { a with defers := d :: a.defers } := fun d => hy.of_same rfl rfl
  unfold wpOp at *
  simp only [hj] at *
  rw [wanted_put oj a oi.dst v h1] at h
  split
  · rename_i hw
    simp only [hw, if_true] at h
    rcases h with h | ⟨hasks, hlets⟩
    case inr => exact .inr ⟨by unfold Oper.asks at *; rw [execOp_put oj hsj a oi.dst v h1] at hasks; exact hasks, hlets⟩
    refine .inl ?_
    unfold Oper.wp at *
    rw [execOp_put oj hsj a oi.dst v h1] at h
    generalize (execOp a.eval oj).run P w = r at *
    cases r with
    | ok n w' =>
      cases n <;> simp only [Oper.upon] at h ⊢
      case value u => exact ⟨keep a hy u, by rw [← Act.put_comm a v u h2]; exact h⟩
      case skip => exact ⟨keep a hy _, by rw [← Act.put_comm a v undef h2]; exact h⟩
      case defer d =>
        refine ⟨keep _ (keepD d) _, ?_⟩
        rw [← Act.put_comm _ v undef h2, ← Act.put_defers]
        exact h
      case enter f args =>
        refine Calls.mono h fun e w'' he => ?_
        cases e with
        | returned u => exact ⟨keep a hy u, by rw [← Act.put_comm a v u h2]; exact he⟩
        | panicked c => exact hQ _ _ _ he
        | outgrown => exact he
      case row row args => exact Rows.mono h fun u w'' he => ⟨keep a hy u, by rw [← Act.put_comm a v u h2]; exact he⟩
    | halt x w' =>
      cases x <;> simp only [Oper.upon] at h ⊢
      exact hQ _ _ _ h
  · rename_i hw
    simp only [hw] at h
    exact ⟨keep a hy _, by rw [← Act.put_comm a v undef h2]; exact h⟩

/-- One step, then the class, then the rest. -/
def segQ (C : World → Prop) (Q : Exit → Act → World → Prop) (K : Act → World → Prop) : Exit → Act → World → Prop
  | .normal, a, w => C w ∧ K a w
  | e, a, w => Q e a w

def wpSegs (P : Program) (ops : Array Oper) (C : World → Prop) (Q : Exit → Act → World → Prop) (l2 : List Oper) : List Oper → Act → World → Prop
  | [], a, w => wpList P ops Q l2 a w
  | o :: rest, a, w => wpList P ops (segQ C Q (wpSegs P ops C Q l2 rest)) [o] a w

theorem segQ_normal {K : Act → World → Prop} {a : Act} {w : World} (h : C w) (h' : K a w) : segQ C Q K .normal a w := ⟨h, h'⟩

theorem wpOp_of_seg {i : Nat} {o : Oper} {a : Act} {w : World} {K : Act → World → Prop} (hi : ops[i]? = some o) (h : wpList P ops (segQ C Q K) [o] a w) : wpOp P ops Q i (fun a' w' => C w' ∧ K a' w') a w := by
  unfold wpOp
  simp only [hi]
  unfold wpList at h
  split
  · rename_i hw
    rw [if_pos hw] at h
    rcases h with h | ⟨h1, a1, w1, h2⟩
    · refine .inl ?_
      unfold Oper.wp at *
      generalize (execOp a.eval o).run P w = r at *
      cases r with
      | ok n w' =>
        cases n <;> simp only [Oper.upon] at h ⊢ <;> try exact h
      | halt x w' => cases x <;> simp only [Oper.upon] at h ⊢; exact h
    · exact .inr ⟨h1, a1, w1, h2⟩
  · rename_i hw
    rw [if_neg hw] at h
    exact h

/-- What waits, by whatever way, is found: from place j down. -/
def preds (md : Region.Mode) (ops : Array Oper) (j : Nat) : List Nat :=
  match ops[j]? with
  | some o => (o.after.toList.filter fun e => Region.binds md e).map (·.on)
  | none => []
def need (md : Region.Mode) (ops : Array Oper) : Nat → List Nat → List Nat
  | 0, s => s
  | j + 1, s => need md ops j (if s.contains j then s ++ preds md ops j else s)

theorem preds_listed {listed : Array Bool} {j x : Nat} (hc : Closed md ops listed) (hj : listed.getD j false = true) (hx : x ∈ preds md ops j) : listed.getD x false = true := by
  unfold preds at hx
  split at hx
  · rename_i o ho
    simp only [List.mem_map, List.mem_filter] at hx
    obtain ⟨e, ⟨he, hb⟩, rfl⟩ := hx
    exact hc j o ho hj e (by simpa using he) hb
  · cases hx

theorem need_listed {listed : Array Bool} (hc : Closed md ops listed) : ∀ (j : Nat) (s : List Nat), (∀ x ∈ s, listed.getD x false = true) → ∀ x ∈ need md ops j s, listed.getD x false = true
  | 0, s, h, x, hx => h x hx
  | j + 1, s, h, x, hx => by
    refine need_listed hc j _ ?_ x hx
    intro y hy
    split at hy
    · rename_i hj
      rcases List.mem_append.1 hy with hy | hy
      · exact h y hy
      · exact preds_listed hc (h j (by simpa using hj)) hy
    · exact h y hy

def isRead : Op → Bool
  | .load .. => true
  | _ => false

/-- The class in which an operation is walked: a load in the class at hand, all else in every world. -/
def cls (C : World → Prop) : Op → World → Prop
  | .load .. => C
  | _ => fun _ => True

/-- The walk of the head. -/
def wpFront (P : Program) (ops : Array Oper) (C : World → Prop) (Lq : Act → Prop) : List Oper → Act → Prop
  | [], a => Lq a
  | o :: rest, a => wpQuiet P ops (cls C o.op) (wpFront P ops C Lq rest) [o] a

theorem wpFront_nil {Lq : Act → Prop} {a : Act} (h : Lq a) : wpFront P ops C Lq [] a := h
theorem wpFront_load {Lq : Act → Prop} {a : Act} {o : Oper} {rest : List Oper} {t : TypeId} {x : Operand} (ho : o.op = .load t x) (h : wpQuiet P ops C (wpFront P ops C Lq rest) [o] a) : wpFront P ops C Lq (o :: rest) a := by
  unfold wpFront; rw [ho]; exact h
theorem wpFront_other {Lq : Act → Prop} {a : Act} {o : Oper} {rest : List Oper} (ho : isRead o.op = false) (h : wpQuiet P ops (fun _ => True) (wpFront P ops C Lq rest) [o] a) : wpFront P ops C Lq (o :: rest) a := by
  unfold wpFront
  have : cls C o.op = fun _ => True := by cases hop : o.op <;> simp [hop, isRead] at ho <;> rfl
  rw [this]; exact h

/-- Whatever order is picked; while t0 has not come up the world is of the class. -/
def wpG (P : Program) (md : Region.Mode) (ops : Array Oper) (C : World → Prop) (Q : Exit → Act → World → Prop) (t0 : Nat) : Nat → Array Bool → Act → World → Prop
  | 0, listed, a, w => (listed.getD t0 false = false → C w) ∧ Region.ready md ops listed = [] ∧ Q .normal a w
  | f + 1, listed, a, w =>
    (listed.getD t0 false = false → C w) ∧ (Region.ready md ops listed = [] → Q .normal a w) ∧
    ∀ i ∈ Region.ready md ops listed, wpOp P ops Q i (wpG P md ops C Q t0 f (listed.setIfInBounds i true)) a w

theorem wpAny_of_wpG {t0 : Nat} : ∀ (f : Nat) (listed : Array Bool) (a : Act) (w : World), wpG P md ops C Q t0 f listed a w → wpAny P md ops Q f listed a w
  | 0, _, _, _, h => h.2
  | f + 1, _, _, _, h => ⟨h.2.1, fun i hi => wpOp_mono (fun a' w' h' => wpAny_of_wpG f _ a' w' h') (h.2.2 i hi)⟩

structure InvG (md : Region.Mode) (ops : Array Oper) (listed : Array Bool) : Prop where
  size : listed.size = ops.size
  closed : Closed md ops listed

theorem InvG.set {listed : Array Bool} {i : Nat} (inv : InvG md ops listed) (hi : i ∈ Region.ready md ops listed) : InvG md ops (listed.setIfInBounds i true) := by
  obtain ⟨_, oi, hoi, hall⟩ := mem_ready.1 hi
  refine ⟨by simp [inv.size], fun j oj hj hl e he hb => ?_⟩
  by_cases hij : i = j
  · subst hij
    have : oj = oi := Option.some.inj (hj.symm.trans hoi)
    subst this
    exact getD_set_true (hall e he hb)
  · rw [getD_set_ne false hij] at hl
    exact getD_set_true (inv.closed j oj hj hl e he hb)

theorem wpG_first {t0 i : Nat} {oi : Oper} {v : Value} {Ci : World → Prop} (hi : ops[i]? = some oi) (hsel : ∀ (j : Nat) (o : Oper) cs b, ops[j]? = some o → o.op ≠ .select cs b)
    (hQ : ∀ c a w, Q (.panic c) (a.put oi.dst v) w → Q (.panic c) a w) (hne : i ≠ t0)
    (hcls : (∀ w, Ci w) ∨ (Ci = C ∧ i ∈ need md ops (t0 + 1) [t0])) :
    ∀ (f : Nat) (listed : Array Bool) (a : Act) (w : World), InvG md ops listed →
      (∀ j oj, ops[j]? = some oj → j ≠ i → listed.getD j true = false → (∀ e ∈ oj.after, Region.binds md e = true → e.on ≠ i) → oi.apart ops oj = true) →
      i ∈ Region.ready md ops listed → YieldsP P ops Ci oi v a →
      wpG P md ops C Q t0 f (listed.setIfInBounds i true) (a.put oi.dst v) w → wpG P md ops C Q t0 (f + 1) listed a w := by
  have world : ∀ (listed : Array Bool) (w : World), InvG md ops listed → listed.getD i true = false → ((listed.setIfInBounds i true).getD t0 false = false → C w) → Ci w := by
    intro listed w inv hun h
    rcases hcls with hc | ⟨rfl, hn⟩
    · exact hc w
    · refine h ?_
      rw [getD_set_ne false hne]
      cases ht : listed.getD t0 false with
      | false => rfl
      | true =>
        have := need_listed inv.closed (t0 + 1) [t0] (by simpa using ht) i hn
        rw [getD_both hun] at this
        cases this
  intro f
  induction f with
  | zero =>
    intro listed a w inv _ hr hy Hd
    have hun := (mem_ready.1 hr).1
    refine ⟨fun h => Hd.1 (by rw [getD_set_ne false hne]; exact h), fun h => (by rw [h] at hr; cases hr), fun j hj => ?_⟩
    by_cases hji : j = i
    · subst hji; exact hy.wpOp hi (world listed w inv hun Hd.1) Hd
    · have h1 := ready_mono hj hji
      rw [Hd.2.1] at h1
      cases h1
  | succ f ih =>
    intro listed a w inv hfree hr hy Hd
    have hun := (mem_ready.1 hr).1
    refine ⟨fun h => Hd.1 (by rw [getD_set_ne false hne]; exact h), fun h => (by rw [h] at hr; cases hr), fun j hj => ?_⟩
    by_cases hji : j = i
    · subst hji; exact hy.wpOp hi (world listed w inv hun Hd.1) Hd
    · have h1 := Hd.2.2 j (ready_mono hj hji)
      obtain ⟨hjun, oj, hoj, hall⟩ := mem_ready.1 hj
      have hnot : ∀ e ∈ oj.after, Region.binds md e = true → e.on ≠ i := fun e he hb heq => by
        have h1 := hall e he hb
        rw [heq, getD_both hun] at h1
        cases h1
      have h2 := wpOp_putP hoj (hfree j oj hoj hji hjun hnot) (fun cs b => hsel i oi cs b hi) (fun cs b => hsel j oj cs b hoj) hQ hy h1
      have hfree' : ∀ k ok, ops[k]? = some ok → k ≠ i → (listed.setIfInBounds j true).getD k true = false →
          (∀ e ∈ ok.after, Region.binds md e = true → e.on ≠ i) → oi.apart ops ok = true := fun k ok hk hki hun hno => by
        refine hfree k ok hk hki ?_ hno
        by_cases hjk : j = k
        · subst hjk; exact hjun
        · rw [getD_set_ne true hjk] at hun; exact hun
      refine wpOp_mono (fun a' w' h3 => ih (listed.setIfInBounds j true) a' w' (inv.set hj) hfree' (ready_mono hr (Ne.symm hji)) h3.1 ?_) h2
      rw [Array.setIfInBounds_comm _ _ hji]
      exact h3.2

theorem wpG_of_seqL {t0 : Nat} : ∀ (T : List Nat) (l : List Oper) (listed : Array Bool) (a : Act) (w : World), T.map (fun i => ops[i]?) = l.map some →
    listed.getD t0 false = true → lexL.seqL md ops T listed = true → wpList P ops Q l a w → wpG P md ops C Q t0 T.length listed a w
  | [], l, listed, a, w, hl, ht, hB, h => by
    cases l with
    | nil => exact ⟨fun h => (by rw [ht] at h; cases h), by simpa [lexL.seqL] using hB, h⟩
    | cons _ _ => simp at hl
  | k :: T, l, listed, a, w, hl, ht, hB, h => by
    cases l with
    | nil => simp at hl
    | cons o l =>
      simp only [List.map_cons, List.cons.injEq] at hl
      obtain ⟨h0, hl⟩ := hl
      simp only [lexL.seqL, Bool.and_eq_true, decide_eq_true_eq] at hB
      refine ⟨fun h => (by rw [ht] at h; cases h), fun h1 => (by rw [hB.1] at h1; cases h1), fun i hi => ?_⟩
      rw [hB.1] at hi
      have hik : i = k := by simpa using hi
      subst hik
      have hw : wpOp P ops Q i (wpList P ops Q l) a w := by unfold wpOp; simp only [h0]; exact h
      exact wpOp_mono (fun a' w' h' => wpG_of_seqL T l _ a' w' hl (getD_set_true ht) hB.2 h') hw

/-- T1 comes up one by one, then t0, then T2. -/
def seq1 (md : Region.Mode) (ops : Array Oper) (T2 : List Nat) : List Nat → Array Bool → Bool
  | [], listed => lexL.seqL md ops T2 listed
  | k :: T, listed => decide (Region.ready md ops listed = [k]) && seq1 md ops T2 T (listed.setIfInBounds k true)

theorem wpG_segs {t0 : Nat} {T : List Nat} {l2 : List Oper} (ht0 : t0 < ops.size) (hl2 : (t0 :: T).map (fun i => ops[i]?) = l2.map some) : ∀ (T1 : List Nat) (l1 : List Oper) (listed : Array Bool) (a : Act) (w : World), listed.size = ops.size → T1.map (fun i => ops[i]?) = l1.map some → C w →
    seq1 md ops (t0 :: T) T1 listed = true → wpSegs P ops C Q l2 l1 a w →
    wpG P md ops C Q t0 (T1.length + (T.length + 1)) listed a w
  | [], l1, listed, a, w, hsz, hl, hC, hB, h => by
    cases l1 with
    | cons _ _ => simp at hl
    | nil =>
      cases l2 with
      | nil => simp at hl2
      | cons o l2 =>
        simp only [List.map_cons, List.cons.injEq] at hl2
        obtain ⟨h0, hl2⟩ := hl2
        simp only [seq1, lexL.seqL, Bool.and_eq_true, decide_eq_true_eq] at hB
        simp only [List.length_nil, Nat.zero_add]
        refine ⟨fun _ => hC, fun h1 => (by rw [hB.1] at h1; cases h1), fun i hi => ?_⟩
        rw [hB.1] at hi
        have hik : i = t0 := by simpa using hi
        subst hik
        have hw : wpOp P ops Q i (wpList P ops Q l2) a w := by unfold wpOp; simp only [h0]; exact h
        refine wpOp_mono (fun a' w' h' => wpG_of_seqL T l2 _ a' w' hl2 ?_ hB.2 h') hw
        have : i < (listed.setIfInBounds i true).size := by simp [hsz, ht0]
        simp [hsz, ht0]
  | k :: T1, l1, listed, a, w, hsz, hl, hC, hB, h => by
    cases l1 with
    | nil => simp at hl
    | cons o l1 =>
      simp only [List.map_cons, List.cons.injEq] at hl
      obtain ⟨h0, hl⟩ := hl
      simp only [seq1, Bool.and_eq_true, decide_eq_true_eq] at hB
      rw [show (k :: T1).length + (T.length + 1) = (T1.length + (T.length + 1)) + 1 by simp; omega]
      refine ⟨fun _ => hC, fun h1 => (by rw [hB.1] at h1; cases h1), fun i hi => ?_⟩
      rw [hB.1] at hi
      have hik : i = k := by simpa using hi
      subst hik
      refine wpOp_mono (fun a' w' h' => ?_) (wpOp_of_seg h0 h)
      exact wpG_segs ht0 hl2 T1 l1 _ a' w' (by simp [hsz]) hl h'.1 hB.2 h'.2

/-- Taken in this order each of H comes up in time and is free; then T1, T2 are forced. -/
def lexM (md : Region.Mode) (ops : Array Oper) (T1 T2 : List Nat) : List Nat → Array Bool → Bool
  | [], listed => seq1 md ops T2 T1 listed
  | k :: H, listed => (Region.ready md ops listed).contains k && Region.free md ops listed k && lexM md ops T1 T2 H (listed.setIfInBounds k true)

def readAt (ops : Array Oper) (i : Nat) : Bool := match ops[i]? with | some o => isRead o.op | none => false

def mixB (md : Region.Mode) (ops : Array Oper) (ms : List Bool) (n : Nat) : Bool :=
  let H := idxs true ms 0
  let T1 := (idxs false ms 0).take n
  let T2 := (idxs false ms 0).drop n
  Region.noSelect ops && decide (ms.length = ops.size) && (match T2 with | [] => false | t0 :: _ => decide (t0 < ops.size) && let N := need md ops (t0 + 1) [t0]; H.all fun i => !(i == t0) && (!(readAt ops i) || N.contains i)) && (H.all fun i => plainAt ops i) && lexM md ops T1 T2 H (Array.replicate ops.size false)

theorem cls_of {o : Oper} (h : isRead o.op = false) (C : World → Prop) : ∀ w, cls C o.op w := by
  intro w
  cases ho : o.op <;> simp [ho, isRead] at h <;> simp [cls]
theorem cls_read {o : Oper} (h : isRead o.op = true) (C : World → Prop) : cls C o.op = C := by
  cases ho : o.op <;> simp [ho, isRead] at h; rfl

theorem wpG_lex {T1 T : List Nat} {t0 : Nat} {l1 l2 : List Oper} (hsel : Region.noSelect ops = true)
    (hQ : ∀ c a b w, Q (.panic c) a w → Q (.panic c) b w) (ht0 : t0 < ops.size)
    (hl1 : T1.map (fun i => ops[i]?) = l1.map some) (hl2 : (t0 :: T).map (fun i => ops[i]?) = l2.map some) :
    ∀ (H : List Nat) (l : List Oper) (listed : Array Bool) (a : Act) (w : World), H.map (fun i => ops[i]?) = l.map some →
    (∀ i ∈ H, i ≠ t0 ∧ (readAt ops i = true → i ∈ need md ops (t0 + 1) [t0])) → (∀ k ∈ H, plainAt ops k = true) → InvG md ops listed → C w →
    lexM md ops T1 (t0 :: T) H listed = true → wpFront P ops C (fun a' => wpSegs P ops C Q l2 l1 a' w) l a →
    wpG P md ops C Q t0 (H.length + (T1.length + (T.length + 1))) listed a w
  | [], l, listed, a, w, hl, _, _, inv, hC, hB, h => by
    cases l with
    | nil =>
      simp only [List.length_nil, Nat.zero_add]
      exact wpG_segs ht0 hl2 T1 l1 listed a w inv.size hl1 hC (by simpa [lexM] using hB) h
    | cons _ _ => simp at hl
  | k :: H, l, listed, a, w, hl, hnd, hpl, inv, hC, hB, h => by
    cases l with
    | nil => simp at hl
    | cons o l =>
      simp only [List.map_cons, List.cons.injEq] at hl
      obtain ⟨h0, hl⟩ := hl
      simp only [lexM, Bool.and_eq_true] at hB
      obtain ⟨⟨hr, hf⟩, hB'⟩ := hB
      have hr' : k ∈ Region.ready md ops listed := by simpa using hr
      have hst : qOp P ops (cls C o.op) k (wpFront P ops C (fun a' => wpSegs P ops C Q l2 l1 a' w) l) a := by
        unfold wpFront at h
        unfold wpQuiet at h
        unfold qOp; simp only [h0]
        split
        · rename_i hw
          rw [if_pos hw] at h
          obtain ⟨v, h1, h2⟩ := h
          exact ⟨v, h1, h2⟩
        · rename_i hw
          rw [if_neg hw] at h
          exact h
      have hpk : plain o.op = true := by have := hpl k (by simp); simpa [plainAt, h0] using this
      obtain ⟨v, hy, hK⟩ := yieldsP_of_qOp hpk h0 hst
      rw [show (k :: H).length + (T1.length + (T.length + 1)) = (H.length + (T1.length + (T.length + 1))) + 1 by simp; omega]
      obtain ⟨hne, hrd⟩ := hnd k (by simp)
      refine wpG_first (Ci := cls C o.op) h0 (Region.noSelect_spec hsel) (fun c a w => hQ c _ _ w) hne ?_ _ listed a w inv (Region.free_spec h0 hf) hr' hy
        (wpG_lex hsel hQ ht0 hl1 hl2 H l _ _ w hl (fun k hk => hnd k (by simp [hk])) (fun k hk => hpl k (by simp [hk])) (inv.set hr') hC hB' hK)
      cases hrk : isRead o.op with
      | false => exact .inl (cls_of hrk C)
      | true => exact .inr ⟨cls_read hrk C, hrd (by simp [readAt, h0, hrk])⟩

/-- A walk in a class is a walk in a smaller one. -/
theorem wpFront_class {C C' : World → Prop} (hC : ∀ w, C w → C' w) {Lq : Act → Prop} : ∀ {H : List Nat} {l : List Oper} {a : Act}, (∀ i ∈ H, plainAt ops i = true) → H.map (fun i => ops[i]?) = l.map some → wpFront P ops C' Lq l a → wpFront P ops C Lq l a
  | [], [], a, _, _, h => h
  | [], _ :: _, _, _, hl, _ => by simp at hl
  | _ :: _, [], _, _, hl, _ => by simp at hl
  | i :: H, o :: l, a, hp, hl, h => by
    simp only [List.map_cons, List.cons.injEq] at hl
    have hpk : plain o.op = true := by have := hp i (by simp); simpa [plainAt, hl.1] using this
    have hcc : ∀ w, cls C o.op w → cls C' o.op w := by
      intro w hw
      cases hrk : isRead o.op with
      | false => exact cls_of hrk C' w
      | true => rw [cls_read hrk] at hw ⊢; exact hC w hw
    unfold wpFront wpQuiet at h ⊢
    split
    · rename_i hw
      rw [if_pos hw] at h
      obtain ⟨v, h1, h2⟩ := h
      refine ⟨v, fun w hw' => ?_, wpFront_class hC (fun i hi => hp i (by simp [hi])) hl.2 h2⟩
      have h3 := h1 w (hcc w hw')
      unfold Oper.quietAt at *
      cases hr : (execOp a.eval o).run P w with
      | ok n w' =>
        obtain ⟨u, rfl⟩ := plain_value hpk hr
        rw [hr] at h3
        exact h3
      | halt x w' => rw [hr] at h3; exact h3
    · rename_i hw
      rw [if_neg hw] at h
      exact wpFront_class hC (fun i hi => hp i (by simp [hi])) hl.2 h

/-- The rule: the operations where the mask says yes are plain and are taken first, loads in every world of the class; then the first n of the others, each of which keeps the class; then the rest. -/
theorem wp_region_mix {id : Nat} {a : Act} {w : World} {l : List Oper} (ms : List Bool) (n : Nat) (F : Nat → Prop) (hm : P.follows .mixedOrders = true) (hB : mixB .any l.toArray ms n = true)
    (h : wpFront P l.toArray (fun w' => ∃ u, w' = ext w F u) (fun a' => wpSegs P l.toArray (fun w' => Keeps F w w') (NoPanic Q) ((back ms l).drop n) ((back ms l).take n) a' w.drew) (front ms l) a) : (Code.region id l.toArray true).wp P Q a w := by
  refine wp_region_noPanic ?_
  unfold mixB at hB
  simp only [Bool.and_eq_true, decide_eq_true_eq] at hB
  obtain ⟨⟨⟨⟨hsel, hlen⟩, hsc⟩, hpl⟩, hlex⟩ := hB
  have hpl' : ∀ i ∈ idxs true ms 0, plainAt l.toArray i = true := by simpa using hpl
  have hlen' : ms.length = l.length := by simpa using hlen
  have hf := front_spec l ms l 0 (by simp) hlen'
  have hb := back_spec l ms l 0 (by simp) hlen'
  have hb1 : ((idxs false ms 0).take n).map (fun i => l[i]?) = ((back ms l).take n).map some := by rw [List.map_take, hb, List.map_take]
  have hb2 : ((idxs false ms 0).drop n).map (fun i => l[i]?) = ((back ms l).drop n).map some := by rw [List.map_drop, hb, List.map_drop]
  have hlt : ((idxs false ms 0).take n).length + ((idxs false ms 0).drop n).length = (idxs false ms 0).length := by rw [← List.length_append, List.take_append_drop]
  generalize hT1 : (idxs false ms 0).take n = T1 at *
  generalize hT : (idxs false ms 0).drop n = T at *
  cases T with
  | nil => cases hsc
  | cons t0 T =>
    simp only [Bool.and_eq_true, decide_eq_true_eq, List.all_eq_true, Bool.or_eq_true, Bool.not_eq_true', beq_eq_false_iff_ne] at hsc
    obtain ⟨ht0, hnd⟩ := hsc
    have inv0 : InvG .any l.toArray (Array.replicate l.toArray.size false) :=
      ⟨by simp, fun j oj _ hl => (by rw [getD_replicate_false] at hl; cases hl)⟩
    have hfr : wpFront P l.toArray (fun w' => Keeps F w w') (fun a' => wpSegs P l.toArray (fun w' => Keeps F w w') (NoPanic Q) ((back ms l).drop n) ((back ms l).take n) a' w.drew) (front ms l) a :=
      wpFront_class (fun w' hw' => ⟨w', ext_of hw'⟩) hpl' (by simpa using hf) h
    have Hd := wpG_lex (P := P) (C := fun w' => Keeps F w w') (Q := NoPanic Q) (md := .any) hsel (fun c a b w h => (h : False).elim) ht0 (by simpa using hb1) (by simpa using hb2) (idxs true ms 0) (front ms l) _ a w.drew (by simpa using hf)
      (fun i hi => ⟨(hnd i hi).1, fun hr => by rcases (hnd i hi).2 with h | h; rw [hr] at h; cases h; simpa using h⟩) hpl' inv0 (Keeps.refl _ _).drew hlex hfr
    refine wp_region_any hm ?_
    have := wpAny_of_wpG _ _ _ _ Hd
    have hsz : (idxs true ms 0).length + (T1.length + (T.length + 1)) = l.toArray.size := by
      have := idxs_len ms 0
      simp only [List.size_toArray, ← hlen']
      simp only [List.length_cons] at hlt
      omega
    rw [hsz] at this
    exact this
end
end Kreg
end Go

/-
  A region's rule where the operations that write come up in more than one order: a tree of the orders.
-/
namespace Go
namespace Kreg
open Kw
section
variable {P : Program} {ops : Array Oper} {md : Region.Mode} {C : World → Prop} {Q : Exit → Act → World → Prop}

/-- The orders in which the first of the others come up. -/
inductive Tr where
  | done : Tr
  | one : Nat → Tr → Tr
  | two : Nat → Tr → Nat → Tr → Tr

def trB (md : Region.Mode) (ops : Array Oper) (T2 : List Nat) : Nat → Tr → Array Bool → Bool
  | 0, .done, listed => lexL.seqL md ops T2 listed
  | n + 1, .one k t, listed => decide (Region.ready md ops listed = [k]) && trB md ops T2 n t (listed.setIfInBounds k true)
  | n + 1, .two k t j u, listed => decide (Region.ready md ops listed = [k, j]) && trB md ops T2 n t (listed.setIfInBounds k true) && trB md ops T2 n u (listed.setIfInBounds j true)
  | _, _, _ => false

def at' (P : Program) (ops : Array Oper) (C : World → Prop) (Q : Exit → Act → World → Prop) (K : Act → World → Prop) (k : Nat) (a : Act) (w : World) : Prop :=
  match ops[k]? with
  | some o => wpList P ops (segQ C Q K) [o] a w
  | none => False
def wpTr (P : Program) (ops : Array Oper) (C : World → Prop) (Q : Exit → Act → World → Prop) (l2 : List Oper) : Tr → Act → World → Prop
  | .done, a, w => wpList P ops Q l2 a w
  | .one k t, a, w => at' P ops C Q (wpTr P ops C Q l2 t) k a w
  | .two k t j u, a, w => at' P ops C Q (wpTr P ops C Q l2 t) k a w ∧ at' P ops C Q (wpTr P ops C Q l2 u) j a w

theorem at'_of {K : Act → World → Prop} {k : Nat} {o : Oper} {a : Act} {w : World} (ho : ops[k]? = some o) (h : wpList P ops (segQ C Q K) [o] a w) : at' P ops C Q K k a w := by
  unfold at'; rw [ho]; exact h
theorem wpOp_at' {K : Act → World → Prop} {i : Nat} {a : Act} {w : World} (h : at' P ops C Q K i a w) : wpOp P ops Q i (fun a' w' => C w' ∧ K a' w') a w := by
  unfold at' at h
  split at h
  · rename_i o ho
    exact wpOp_of_seg ho h
  · exact h.elim

theorem wpG_tr {t0 : Nat} {T : List Nat} {l2 : List Oper} (ht0 : t0 < ops.size) (hl2 : (t0 :: T).map (fun i => ops[i]?) = l2.map some) :
    ∀ (n : Nat) (t : Tr) (listed : Array Bool) (a : Act) (w : World), listed.size = ops.size → C w → trB md ops (t0 :: T) n t listed = true → wpTr P ops C Q l2 t a w →
    wpG P md ops C Q t0 (n + (T.length + 1)) listed a w
  | 0, .done, listed, a, w, hsz, hC, hB, h => by
    cases l2 with
    | nil => simp at hl2
    | cons o l2 =>
      simp only [List.map_cons, List.cons.injEq] at hl2
      obtain ⟨h0, hl2⟩ := hl2
      simp only [trB, lexL.seqL, Bool.and_eq_true, decide_eq_true_eq] at hB
      simp only [Nat.zero_add]
      refine ⟨fun _ => hC, fun h1 => (by rw [hB.1] at h1; cases h1), fun i hi => ?_⟩
      rw [hB.1] at hi
      have hik : i = t0 := by simpa using hi
      subst hik
      unfold wpTr at h
      have hw : wpOp P ops Q i (wpList P ops Q l2) a w := by unfold wpOp; simp only [h0]; exact h
      refine wpOp_mono (fun a' w' h' => wpG_of_seqL T l2 _ a' w' hl2 ?_ hB.2 h') hw
      simp [hsz, ht0]
  | 0, .one .., _, _, _, _, _, hB, _ => by simp [trB] at hB
  | 0, .two .., _, _, _, _, _, hB, _ => by simp [trB] at hB
  | _ + 1, .done, _, _, _, _, _, hB, _ => by simp [trB] at hB
  | n + 1, .one k t, listed, a, w, hsz, hC, hB, h => by
    simp only [trB, Bool.and_eq_true, decide_eq_true_eq] at hB
    rw [show n + 1 + (T.length + 1) = (n + (T.length + 1)) + 1 by omega]
    refine ⟨fun _ => hC, fun h1 => (by rw [hB.1] at h1; cases h1), fun i hi => ?_⟩
    rw [hB.1] at hi
    have hik : i = k := by simpa using hi
    subst hik
    unfold wpTr at h
    exact wpOp_mono (fun a' w' h' => wpG_tr ht0 hl2 n t _ a' w' (by simp [hsz]) h'.1 hB.2 h'.2) (wpOp_at' h)
  | n + 1, .two k t j u, listed, a, w, hsz, hC, hB, h => by
    simp only [trB, Bool.and_eq_true, decide_eq_true_eq] at hB
    rw [show n + 1 + (T.length + 1) = (n + (T.length + 1)) + 1 by omega]
    refine ⟨fun _ => hC, fun h1 => (by rw [hB.1.1] at h1; cases h1), fun i hi => ?_⟩
    rw [hB.1.1] at hi
    unfold wpTr at h
    have hik : i = k ∨ i = j := by simpa using hi
    rcases hik with rfl | rfl
    · exact wpOp_mono (fun a' w' h' => wpG_tr ht0 hl2 n t _ a' w' (by simp [hsz]) h'.1 hB.1.2 h'.2) (wpOp_at' h.1)
    · exact wpOp_mono (fun a' w' h' => wpG_tr ht0 hl2 n u _ a' w' (by simp [hsz]) h'.1 hB.2 h'.2) (wpOp_at' h.2)

def lexT (md : Region.Mode) (ops : Array Oper) (n : Nat) (t : Tr) (T2 : List Nat) : List Nat → Array Bool → Bool
  | [], listed => trB md ops T2 n t listed
  | k :: H, listed => (Region.ready md ops listed).contains k && Region.free md ops listed k && lexT md ops n t T2 H (listed.setIfInBounds k true)

def treeB (md : Region.Mode) (ops : Array Oper) (ms : List Bool) (n : Nat) (t : Tr) : Bool :=
  let H := idxs true ms 0
  let T2 := (idxs false ms 0).drop n
  Region.noSelect ops && decide (ms.length = ops.size) && decide (n ≤ (idxs false ms 0).length) && (match T2 with | [] => false | t0 :: _ => decide (t0 < ops.size) && let N := need md ops (t0 + 1) [t0]; H.all fun i => !(i == t0) && (!(readAt ops i) || N.contains i)) && (H.all fun i => plainAt ops i) && lexT md ops n t T2 H (Array.replicate ops.size false)

theorem wpG_lexT {n : Nat} {t : Tr} {T : List Nat} {t0 : Nat} {l2 : List Oper} (hsel : Region.noSelect ops = true)
    (hQ : ∀ c a b w, Q (.panic c) a w → Q (.panic c) b w) (ht0 : t0 < ops.size) (hl2 : (t0 :: T).map (fun i => ops[i]?) = l2.map some) :
    ∀ (H : List Nat) (l : List Oper) (listed : Array Bool) (a : Act) (w : World), H.map (fun i => ops[i]?) = l.map some →
    (∀ i ∈ H, i ≠ t0 ∧ (readAt ops i = true → i ∈ need md ops (t0 + 1) [t0])) → (∀ k ∈ H, plainAt ops k = true) → InvG md ops listed → C w →
    lexT md ops n t (t0 :: T) H listed = true → wpFront P ops C (fun a' => wpTr P ops C Q l2 t a' w) l a →
    wpG P md ops C Q t0 (H.length + (n + (T.length + 1))) listed a w
  | [], l, listed, a, w, hl, _, _, inv, hC, hB, h => by
    cases l with
    | nil =>
      simp only [List.length_nil, Nat.zero_add]
      exact wpG_tr ht0 hl2 n t listed a w inv.size hC (by simpa [lexT] using hB) h
    | cons _ _ => simp at hl
  | k :: H, l, listed, a, w, hl, hnd, hpl, inv, hC, hB, h => by
    cases l with
    | nil => simp at hl
    | cons o l =>
      simp only [List.map_cons, List.cons.injEq] at hl
      obtain ⟨h0, hl⟩ := hl
      simp only [lexT, Bool.and_eq_true] at hB
      obtain ⟨⟨hr, hf⟩, hB'⟩ := hB
      have hr' : k ∈ Region.ready md ops listed := by simpa using hr
      have hst : qOp P ops (cls C o.op) k (wpFront P ops C (fun a' => wpTr P ops C Q l2 t a' w) l) a := by
        unfold wpFront at h
        unfold wpQuiet at h
        unfold qOp; simp only [h0]
        split
        · rename_i hw
          rw [if_pos hw] at h
          obtain ⟨v, h1, h2⟩ := h
          exact ⟨v, h1, h2⟩
        · rename_i hw
          rw [if_neg hw] at h
          exact h
      have hpk : plain o.op = true := by have := hpl k (by simp); simpa [plainAt, h0] using this
      obtain ⟨v, hy, hK⟩ := yieldsP_of_qOp hpk h0 hst
      rw [show (k :: H).length + (n + (T.length + 1)) = (H.length + (n + (T.length + 1))) + 1 by simp; omega]
      obtain ⟨hne, hrd⟩ := hnd k (by simp)
      refine wpG_first (Ci := cls C o.op) h0 (Region.noSelect_spec hsel) (fun c a w => hQ c _ _ w) hne ?_ _ listed a w inv (Region.free_spec h0 hf) hr' hy
        (wpG_lexT hsel hQ ht0 hl2 H l _ _ w hl (fun k hk => hnd k (by simp [hk])) (fun k hk => hpl k (by simp [hk])) (inv.set hr') hC hB' hK)
      cases hrk : isRead o.op with
      | false => exact .inl (cls_of hrk C)
      | true => exact .inr ⟨cls_read hrk C, hrd (by simp [readAt, h0, hrk])⟩

/-- As 'wp_region_mix', where the first n of the others come up in the orders of the tree. -/
theorem wp_region_tree {id : Nat} {a : Act} {w : World} {l : List Oper} (ms : List Bool) (n : Nat) (t : Tr) (F : Nat → Prop) (hm : P.follows .mixedOrders = true) (hB : treeB .any l.toArray ms n t = true)
    (h : wpFront P l.toArray (fun w' => ∃ u, w' = ext w F u) (fun a' => wpTr P l.toArray (fun w' => Keeps F w w') (NoPanic Q) ((back ms l).drop n) t a' w.drew) (front ms l) a) : (Code.region id l.toArray true).wp P Q a w := by
  refine wp_region_noPanic ?_
  unfold treeB at hB
  simp only [Bool.and_eq_true, decide_eq_true_eq] at hB
  obtain ⟨⟨⟨⟨⟨hsel, hlen⟩, hnl⟩, hsc⟩, hpl⟩, hlex⟩ := hB
  have hpl' : ∀ i ∈ idxs true ms 0, plainAt l.toArray i = true := by simpa using hpl
  have hlen' : ms.length = l.length := by simpa using hlen
  have hf := front_spec l ms l 0 (by simp) hlen'
  have hb := back_spec l ms l 0 (by simp) hlen'
  have hb2 : ((idxs false ms 0).drop n).map (fun i => l[i]?) = ((back ms l).drop n).map some := by rw [List.map_drop, hb, List.map_drop]
  have hlt : n + ((idxs false ms 0).drop n).length = (idxs false ms 0).length := by rw [List.length_drop]; omega
  generalize hT : (idxs false ms 0).drop n = T at *
  cases T with
  | nil => cases hsc
  | cons t0 T =>
    simp only [Bool.and_eq_true, decide_eq_true_eq, List.all_eq_true, Bool.or_eq_true, Bool.not_eq_true', beq_eq_false_iff_ne] at hsc
    obtain ⟨ht0, hnd⟩ := hsc
    have inv0 : InvG .any l.toArray (Array.replicate l.toArray.size false) :=
      ⟨by simp, fun j oj _ hl => (by rw [getD_replicate_false] at hl; cases hl)⟩
    have hfr : wpFront P l.toArray (fun w' => Keeps F w w') (fun a' => wpTr P l.toArray (fun w' => Keeps F w w') (NoPanic Q) ((back ms l).drop n) t a' w.drew) (front ms l) a :=
      wpFront_class (fun w' hw' => ⟨w', ext_of hw'⟩) hpl' (by simpa using hf) h
    have Hd := wpG_lexT (P := P) (C := fun w' => Keeps F w w') (Q := NoPanic Q) (md := .any) hsel (fun c a b w h => (h : False).elim) ht0 (by simpa using hb2) (idxs true ms 0) (front ms l) _ a w.drew (by simpa using hf)
      (fun i hi => ⟨(hnd i hi).1, fun hr => by rcases (hnd i hi).2 with h | h; rw [hr] at h; cases h; simpa using h⟩) hpl' inv0 (Keeps.refl _ _).drew hlex hfr
    refine wp_region_any hm ?_
    have := wpAny_of_wpG _ _ _ _ Hd
    have hsz : (idxs true ms 0).length + (n + (T.length + 1)) = l.toArray.size := by
      have := idxs_len ms 0
      simp only [List.size_toArray, ← hlen']
      simp only [List.length_cons] at hlt
      omega
    rw [hsz] at this
    exact this
end

end Kreg
end Go
