/-
  A rule for regions that draw their order: operations that only read (or call quietly) are taken first, in the order of the text; all others then come one by one, in a forced order.
-/
import Derived.Deep.Quiet
import Derived.StillTail
import Derived.WalkKit
import Derived.BigQuiet
import Derived.Deep.QuietTactic
namespace Go
namespace Kreg
section
variable {P : Program} {ops : Array Oper} {md : Region.Mode} {C : World → Prop}

/-- The positions, from k on, at which the mask says b. -/
def idxs (b : Bool) : List Bool → Nat → List Nat
  | [], _ => []
  | m :: ms, k => if m == b then k :: idxs b ms (k + 1) else idxs b ms (k + 1)

/-- The operations at which the mask says yes. -/
def front : List Bool → List Oper → List Oper
  | true :: ms, o :: l => o :: front ms l
  | false :: ms, _ :: l => front ms l
  | _, _ => []
/-- The others. -/
def back : List Bool → List Oper → List Oper
  | true :: ms, _ :: l => back ms l
  | false :: ms, o :: l => o :: back ms l
  | _, _ => []

theorem front_spec (all : List Oper) : ∀ (ms : List Bool) (l : List Oper) (k : Nat), (∀ j, l[j]? = all[k + j]?) → ms.length = l.length →
    (idxs true ms k).map (fun i => all[i]?) = (front ms l).map some := by
  intro ms
  induction ms with
  | nil => intro l k _ hl; cases l with
    | nil => rfl
    | cons _ _ => simp at hl
  | cons m ms ih =>
    intro l k h hl
    cases l with
    | nil => simp at hl
    | cons o l =>
      have h0 : all[k]? = some o := by simpa using (h 0).symm
      have ih' := ih l (k + 1) (fun j => by have := h (j + 1); simpa [Nat.add_assoc, Nat.add_comm 1 j] using this) (by simpa using hl)
      cases m
      · simpa [idxs, front] using ih'
      · simp [idxs, front, h0, ih']

theorem back_spec (all : List Oper) : ∀ (ms : List Bool) (l : List Oper) (k : Nat), (∀ j, l[j]? = all[k + j]?) → ms.length = l.length →
    (idxs false ms k).map (fun i => all[i]?) = (back ms l).map some := by
  intro ms
  induction ms with
  | nil => intro l k _ hl; cases l with
    | nil => rfl
    | cons _ _ => simp at hl
  | cons m ms ih =>
    intro l k h hl
    cases l with
    | nil => simp at hl
    | cons o l =>
      have h0 : all[k]? = some o := by simpa using (h 0).symm
      have ih' := ih l (k + 1) (fun j => by have := h (j + 1); simpa [Nat.add_assoc, Nat.add_comm 1 j] using this) (by simpa using hl)
      cases m
      · simp [idxs, back, h0, ih']
      · simpa [idxs, back] using ih'

/-- Each place of the list is waited for by a later one. -/
def sink (md : Region.Mode) (ops : Array Oper) (t0 : Nat) : List Nat → Bool
  | [] => true
  | i :: rest => (Region.waitsFor md ops t0 i || rest.any fun j => Region.waitsFor md ops j i) && sink md ops t0 rest

/-- Each place waits for the one ahead of it. -/
def chain (md : Region.Mode) (ops : Array Oper) : List Nat → Bool
  | [] => true
  | [_] => true
  | i :: j :: rest => Region.waitsFor md ops j i && chain md ops (j :: rest)

def Closed (md : Region.Mode) (ops : Array Oper) (listed : Array Bool) : Prop :=
  ∀ j oj, ops[j]? = some oj → listed.getD j false = true → ∀ e ∈ oj.after, Region.binds md e = true → listed.getD e.on false = true

theorem waits_listed {listed : Array Bool} {j i : Nat} (hc : Closed md ops listed) (hw : Region.waitsFor md ops j i = true) (hj : listed.getD j false = true) : listed.getD i false = true := by
  obtain ⟨oj, hoj, e, he, hb, hon⟩ := Region.waitsFor_spec hw
  rw [← hon]; exact hc j oj hoj hj e he hb

theorem waits_ready {listed : Array Bool} {j i : Nat} (hw : Region.waitsFor md ops j i = true) (hj : j ∈ Region.ready md ops listed) : listed.getD i false = true := by
  obtain ⟨oj, hoj, e, he, hb, hon⟩ := Region.waitsFor_spec hw
  obtain ⟨_, o, ho, hall⟩ := mem_ready.1 hj
  have : o = oj := Option.some.inj (ho.symm.trans hoj)
  subst this
  rw [← hon]; exact hall e he hb

theorem sink_all {listed : Array Bool} {t0 : Nat} (hc : Closed md ops listed) (hr : t0 ∈ Region.ready md ops listed) : ∀ (H : List Nat), sink md ops t0 H = true → ∀ i ∈ H, listed.getD i false = true
  | [], _, i, hi => by cases hi
  | h :: H, hs, i, hi => by
    simp only [sink, Bool.and_eq_true, Bool.or_eq_true] at hs
    rcases List.mem_cons.1 hi with rfl | hi
    · rcases hs.1 with h1 | h1
      · exact waits_ready h1 hr
      · obtain ⟨j, hj, hw⟩ := List.any_eq_true.1 h1
        exact waits_listed hc hw (sink_all hc hr H hs.2 j hj)
    · exact sink_all hc hr H hs.2 i hi

theorem chain_not {listed : Array Bool} : ∀ (T : List Nat) (t0 : Nat), chain md ops (t0 :: T) = true → (∀ t ∈ t0 :: T, listed.getD t false = false) → ∀ t ∈ T, t ∉ Region.ready md ops listed
  | [], _, _, _, t, ht => by cases ht
  | t1 :: T, t0, hc, hun, t, ht => by
    simp only [chain, Bool.and_eq_true] at hc
    rcases List.mem_cons.1 ht with rfl | ht
    · intro hr
      have h1 := waits_ready hc.1 hr
      rw [hun t0 (by simp)] at h1
      cases h1
    · exact chain_not T t1 hc.2 (fun t h => hun t (List.mem_cons_of_mem _ h)) t ht

/-- Taken in this order each comes up in time and is free; then the others are forced. -/
def lexL (md : Region.Mode) (ops : Array Oper) (T : List Nat) : List Nat → Array Bool → Bool
  | [], listed => seqL T listed
  | k :: H, listed => (Region.ready md ops listed).contains k && Region.free md ops listed k && lexL md ops T H (listed.setIfInBounds k true)
where
  seqL : List Nat → Array Bool → Bool
  | [], listed => (Region.ready md ops listed).isEmpty
  | k :: T, listed => decide (Region.ready md ops listed = [k]) && seqL T (listed.setIfInBounds k true)

def frontB (md : Region.Mode) (ops : Array Oper) (ms : List Bool) : Bool :=
  let H := idxs true ms 0
  let T := idxs false ms 0
  Region.noSelect ops && decide (ms.length = ops.size) && (match T with | [] => false | t0 :: _ => sink md ops t0 H && chain md ops T) && lexL md ops T H (Array.replicate ops.size false)

/-- The head: all that comes up is of H. -/
def wpHead (P : Program) (md : Region.Mode) (ops : Array Oper) (C : World → Prop) (H : List Nat) (L : Array Bool → Act → Prop) : Nat → Array Bool → Act → Prop
  | 0, listed, a => L listed a
  | f + 1, listed, a =>
    Region.ready md ops listed ≠ [] ∧ ∀ i ∈ Region.ready md ops listed, i ∈ H ∧ qOp P ops C i (wpHead P md ops C H L f (listed.setIfInBounds i true)) a

theorem wpAny_of_wpHead {H : List Nat} {g : Nat} {L : Array Bool → Act → Prop} {Q' : Exit → Act → World → Prop} (hL : ∀ listed a w, C w → L listed a → wpAny P md ops Q' g listed a w) :
    ∀ (f : Nat) (listed : Array Bool) (a : Act) (w : World), C w → wpHead P md ops C H L f listed a → wpAny P md ops Q' (f + g) listed a w
  | 0, listed, a, w, hw, h => by rw [Nat.zero_add]; exact hL _ _ _ hw h
  | f + 1, listed, a, w, hw, h => by
    rw [show f + 1 + g = (f + g) + 1 by omega]
    exact ⟨fun h0 => absurd h0 h.1, fun i hi => wpOp_of_qOp hw (fun a' w' hw' h' => wpAny_of_wpHead hL f _ a' w' hw' h') (h.2 i hi).2⟩

structure Inv (md : Region.Mode) (ops : Array Oper) (T : List Nat) (listed : Array Bool) : Prop where
  size : listed.size = ops.size
  closed : Closed md ops listed
  tail : ∀ t ∈ T, listed.getD t false = false

theorem Inv.set {T : List Nat} {listed : Array Bool} {i : Nat} (inv : Inv md ops T listed) (hi : i ∈ Region.ready md ops listed) (hiT : i ∉ T) : Inv md ops T (listed.setIfInBounds i true) := by
  obtain ⟨_, oi, hoi, hall⟩ := mem_ready.1 hi
  refine ⟨by simp [inv.size], fun j oj hj hl e he hb => ?_, fun t ht => by
    rw [getD_set_ne false (fun (h : i = t) => hiT (by rw [h]; exact ht))]; exact inv.tail t ht⟩
  by_cases hij : i = j
  · subst hij
    have : oj = oi := Option.some.inj (hj.symm.trans hoi)
    subst this
    exact getD_set_true (hall e he hb)
  · rw [getD_set_ne false hij] at hl
    exact getD_set_true (inv.closed j oj hj hl e he hb)

/-- While one of H has not come up nothing but what is of H comes up. -/
theorem ready_in {H T : List Nat} {t0 : Nat} {listed : Array Bool} (hs : sink md ops t0 H = true) (hc : chain md ops (t0 :: T) = true)
    (hcov : ∀ k, k < ops.size → k ∈ H ∨ k ∈ t0 :: T) (inv : Inv md ops (t0 :: T) listed) {i : Nat} (hi : i ∈ H) (hun : listed.getD i true = false) :
    ∀ j ∈ Region.ready md ops listed, j ∈ H := by
  intro j hj
  obtain ⟨_, oj, hoj, _⟩ := mem_ready.1 hj
  rcases hcov j (Array.getElem?_eq_some_iff.1 hoj).1 with h | h
  · exact h
  · rcases List.mem_cons.1 h with rfl | h
    · have := sink_all inv.closed hj H hs i hi
      rw [getD_both hun] at this
      cases this
    · exact absurd hj (chain_not T t0 hc inv.tail j h)

theorem wpHead_first {H T : List Nat} {t0 i : Nat} {oi : Oper} {v : Value} {L : Array Bool → Act → Prop} (hi : ops[i]? = some oi) (hsel : ∀ (j : Nat) (o : Oper) cs b, ops[j]? = some o → o.op ≠ .select cs b)
    (hs : sink md ops t0 H = true) (hc : chain md ops (t0 :: T) = true) (hcov : ∀ k, k < ops.size → k ∈ H ∨ k ∈ t0 :: T) (hdisj : ∀ k ∈ H, k ∉ t0 :: T)
    (hiH : i ∈ H) (hdone : ∀ listed a, L listed a → ∀ j ∈ Region.ready md ops listed, j ∈ t0 :: T) :
    ∀ (f : Nat) (listed : Array Bool) (a : Act), Inv md ops (t0 :: T) listed →
      (∀ j oj, ops[j]? = some oj → j ≠ i → listed.getD j true = false → (∀ e ∈ oj.after, Region.binds md e = true → e.on ≠ i) → oi.apart ops oj = true) →
      i ∈ Region.ready md ops listed → YieldsIn P ops C oi v a →
      wpHead P md ops C H L f (listed.setIfInBounds i true) (a.put oi.dst v) → wpHead P md ops C H L (f + 1) listed a := by
  intro f
  induction f with
  | zero =>
    intro listed a inv _ hr hy Hd
    have hun := (mem_ready.1 hr).1
    refine ⟨fun h => (by rw [h] at hr; cases hr), fun j hj => ?_⟩
    have hjH := ready_in hs hc hcov inv hiH hun j hj
    refine ⟨hjH, ?_⟩
    by_cases hji : j = i
    · subst hji; exact hy.qOp hi Hd
    · exact absurd (hdone _ _ Hd j (ready_mono hj hji)) (hdisj j hjH)
  | succ f ih =>
    intro listed a inv hfree hr hy Hd
    have hun := (mem_ready.1 hr).1
    refine ⟨fun h => (by rw [h] at hr; cases hr), fun j hj => ?_⟩
    have hjH := ready_in hs hc hcov inv hiH hun j hj
    refine ⟨hjH, ?_⟩
    by_cases hji : j = i
    · subst hji; exact hy.qOp hi Hd
    · have h1 := (Hd.2 j (ready_mono hj hji)).2
      obtain ⟨hjun, oj, hoj, hall⟩ := mem_ready.1 hj
      have hnot : ∀ e ∈ oj.after, Region.binds md e = true → e.on ≠ i := fun e he hb heq => by
        have h1 := hall e he hb
        rw [heq, getD_both hun] at h1
        cases h1
      have h2 := qOp_put hoj (hfree j oj hoj hji hjun hnot) (fun cs b => hsel i oi cs b hi) (fun cs b => hsel j oj cs b hoj) hy h1
      have hfree' : ∀ k ok, ops[k]? = some ok → k ≠ i → (listed.setIfInBounds j true).getD k true = false →
          (∀ e ∈ ok.after, Region.binds md e = true → e.on ≠ i) → oi.apart ops ok = true := fun k ok hk hki hun hno => by
        refine hfree k ok hk hki ?_ hno
        by_cases hjk : j = k
        · subst hjk; exact hjun
        · rw [getD_set_ne true hjk] at hun; exact hun
      refine qOp_mono (fun a' h3 => ih (listed.setIfInBounds j true) a' (inv.set hj (hdisj j hjH)) hfree' (ready_mono hr (Ne.symm hji)) h3.1 ?_) h2
      rw [Array.setIfInBounds_comm _ _ hji]
      exact h3.2

theorem seqL_ready {T : List Nat} {listed : Array Bool} (h : lexL.seqL md ops T listed = true) : ∀ j ∈ Region.ready md ops listed, j ∈ T := by
  cases T with
  | nil => intro j hj; simp only [lexL.seqL, List.isEmpty_iff] at h; rw [h] at hj; cases hj
  | cons k T =>
    intro j hj
    simp only [lexL.seqL, Bool.and_eq_true, decide_eq_true_eq] at h
    rw [h.1] at hj
    have : j = k := by simpa using hj
    simp [this]

theorem wpHead_lex {T : List Nat} {t0 : Nat} {Lq : Act → Prop} (H0 : List Nat) (hsel : Region.noSelect ops = true)
    (hs : sink md ops t0 H0 = true) (hc : chain md ops (t0 :: T) = true) (hcov : ∀ k, k < ops.size → k ∈ H0 ∨ k ∈ t0 :: T) (hdisj : ∀ k ∈ H0, k ∉ t0 :: T) :
    ∀ (H : List Nat) (l : List Oper) (listed : Array Bool) (a : Act), H.map (fun i => ops[i]?) = l.map some → (∀ k ∈ H, k ∈ H0) → Inv md ops (t0 :: T) listed →
    lexL md ops (t0 :: T) H listed = true → wpQuiet P ops C Lq l a →
    wpHead P md ops C H0 (fun listed' a' => lexL.seqL md ops (t0 :: T) listed' = true ∧ Lq a') H.length listed a
  | [], l, listed, a, hl, _, _, hB, h => by
    cases l with
    | nil => exact ⟨by simpa [lexL] using hB, h⟩
    | cons _ _ => simp at hl
  | k :: H, l, listed, a, hl, hsub, inv, hB, h => by
    cases l with
    | nil => simp at hl
    | cons o l =>
      simp only [List.map_cons, List.cons.injEq] at hl
      obtain ⟨h0, hl⟩ := hl
      simp only [lexL, Bool.and_eq_true] at hB
      obtain ⟨⟨hr, hf⟩, hB'⟩ := hB
      have hr' : k ∈ Region.ready md ops listed := by simpa using hr
      have hst : qOp P ops C k (wpQuiet P ops C Lq l) a := by unfold qOp; simp only [h0]; exact h
      obtain ⟨v, hy, hK⟩ := yieldsIn_of_qOp h0 hst
      exact wpHead_first h0 (Region.noSelect_spec hsel) hs hc hcov hdisj (hsub k (by simp)) (fun listed' a' hL => seqL_ready hL.1) H.length listed a inv (Region.free_spec h0 hf) hr' hy
        (wpHead_lex H0 hsel hs hc hcov hdisj H l _ _ hl (fun k hk => hsub k (by simp [hk])) (inv.set hr' (hdisj k (hsub k (by simp)))) hB' hK)

theorem wpAny_of_seqL {Q' : Exit → Act → World → Prop} : ∀ (T : List Nat) (l : List Oper) (listed : Array Bool) (a : Act) (w : World), T.map (fun i => ops[i]?) = l.map some →
    lexL.seqL md ops T listed = true → wpList P ops Q' l a w → wpAny P md ops Q' T.length listed a w
  | [], l, listed, a, w, hl, hB, h => by
    cases l with
    | nil => exact ⟨by simpa [lexL.seqL] using hB, h⟩
    | cons _ _ => simp at hl
  | k :: T, l, listed, a, w, hl, hB, h => by
    cases l with
    | nil => simp at hl
    | cons o l =>
      simp only [List.map_cons, List.cons.injEq] at hl
      obtain ⟨h0, hl⟩ := hl
      simp only [lexL.seqL, Bool.and_eq_true, decide_eq_true_eq] at hB
      refine ⟨fun h1 => (by rw [hB.1] at h1; cases h1), fun i hi => ?_⟩
      rw [hB.1] at hi
      have hik : i = k := by simpa using hi
      subst hik
      have hw : wpOp P ops Q' i (wpList P ops Q' l) a w := by unfold wpOp; simp only [h0]; exact h
      exact wpOp_mono (fun a' w' h' => wpAny_of_seqL T l _ a' w' hl hB.2 h') hw

theorem mem_idxs {b : Bool} : ∀ (ms : List Bool) (k i : Nat), i ∈ idxs b ms k ↔ k ≤ i ∧ ms[i - k]? = some b
  | [], k, i => by simp [idxs]
  | m :: ms, k, i => by
    have ih := mem_idxs (b := b) ms (k + 1) i
    have e : i ∈ idxs b (m :: ms) k ↔ (m = b ∧ i = k) ∨ i ∈ idxs b ms (k + 1) := by
      show i ∈ (if m == b then k :: idxs b ms (k + 1) else idxs b ms (k + 1)) ↔ _
      by_cases hm : m = b
      · simp [hm]
      · simp [hm]
    rw [e, ih]
    by_cases hik : i = k
    · subst hik
      simp
      intro h; omega
    · by_cases hlt : k < i
      · rw [show i - k = (i - (k + 1)) + 1 by omega, List.getElem?_cons_succ]
        constructor
        · rintro (h | h)
          · exact absurd h.2 hik
          · exact ⟨by omega, h.2⟩
        · rintro ⟨h1, h2⟩
          exact Or.inr ⟨by omega, h2⟩
      · constructor
        · rintro (h | h)
          · exact absurd h.2 hik
          · omega
        · rintro ⟨h1, h2⟩; omega

theorem idxs_nodup {b : Bool} : ∀ (ms : List Bool) (k : Nat), (idxs b ms k).Nodup
  | [], _ => by simp [idxs]
  | m :: ms, k => by
    have ih := idxs_nodup (b := b) ms (k + 1)
    unfold idxs
    split
    · exact List.nodup_cons.2 ⟨fun h => by have := ((mem_idxs ms (k + 1) k).1 h).1; omega, ih⟩
    · exact ih

theorem idxs_len : ∀ (ms : List Bool) (k : Nat), (idxs true ms k).length + (idxs false ms k).length = ms.length
  | [], _ => rfl
  | m :: ms, k => by
    have := idxs_len ms (k + 1)
    cases m <;> simp [idxs] <;> omega

theorem wp_region_front {id : Nat} {Q : Exit → Act → World → Prop} {a : Act} {w : World} {l : List Oper} (ms : List Bool) (hm : P.follows .mixedOrders = true) (hB : frontB .any l.toArray ms = true)
    (h : wpQuiet P l.toArray (fun w' => ∃ n, w' = w.drewN n) (fun a' => ∀ n, wpList P l.toArray Q (back ms l) a' (w.drewN n)) (front ms l) a) : (Code.region id l.toArray true).wp P Q a w := by
  unfold frontB at hB
  simp only [Bool.and_eq_true, decide_eq_true_eq] at hB
  obtain ⟨⟨⟨hsel, hlen⟩, hsc⟩, hlex⟩ := hB
  generalize hT : idxs false ms 0 = T at hsc hlex
  cases T with
  | nil => cases hsc
  | cons t0 T =>
    simp only [Bool.and_eq_true] at hsc
    obtain ⟨hs, hc⟩ := hsc
    have hlen' : ms.length = l.length := by simpa using hlen
    have hf := front_spec l ms l 0 (by simp) hlen'
    have hb := back_spec l ms l 0 (by simp) hlen'
    rw [hT] at hb
    have hcov : ∀ k, k < l.toArray.size → k ∈ idxs true ms 0 ∨ k ∈ t0 :: T := by
      intro k hk
      rw [← hT, mem_idxs, mem_idxs]
      have hk' : k < ms.length := by rw [hlen]; exact hk
      simp only [Nat.zero_le, true_and, Nat.sub_zero, List.getElem?_eq_getElem hk', Option.some.injEq]
      cases ms[k] <;> simp
    have hdisj : ∀ k ∈ idxs true ms 0, k ∉ t0 :: T := by
      intro k hk
      rw [← hT, mem_idxs]
      rw [mem_idxs] at hk
      rw [hk.2]; simp
    have inv0 : Inv .any l.toArray (t0 :: T) (Array.replicate l.toArray.size false) :=
      ⟨by simp, fun j oj _ hl => (by rw [getD_replicate_false] at hl; cases hl), fun t _ => getD_replicate_false _ _⟩
    have Hd := wpHead_lex (P := P) (C := fun w' => ∃ n, w' = w.drewN n) (md := .any) (idxs true ms 0) hsel hs hc hcov hdisj (idxs true ms 0) (front ms l) _ a (by simpa using hf) (fun _ h => h) inv0 hlex h
    refine wp_region_any hm ?_
    have := wpAny_of_wpHead (Q' := Q) (g := (t0 :: T).length) (fun listed a' w' hw' hL => by
      obtain ⟨n, rfl⟩ := hw'
      exact wpAny_of_seqL (t0 :: T) (back ms l) listed a' _ (by simpa using hb) hL.1 (hL.2 n)) _ _ _ w.drew ⟨1, rfl⟩ Hd
    have hsz : (idxs true ms 0).length + (t0 :: T).length = l.toArray.size := by rw [← hT, idxs_len]; simpa using hlen
    rw [hsz] at this
    exact this

theorem front_pre : ∀ (n : Nat) (l : List Oper), n ≤ l.length → front (List.replicate n true ++ List.replicate (l.length - n) false) l = l.take n
  | 0, l, _ => by
    have : ∀ (k : Nat) (l : List Oper), front (List.replicate k false) l = [] := by
      intro k; induction k with
      | zero => intro l; cases l <;> rfl
      | succ k ih => intro l; cases l with
        | nil => rfl
        | cons o l => simpa [List.replicate_succ, front] using ih l
    simpa using this l.length l
  | n + 1, [], h => by simp at h
  | n + 1, o :: l, h => by
    have ih := front_pre n l (by simpa using h)
    simpa [List.replicate_succ, front] using ih
theorem back_pre : ∀ (n : Nat) (l : List Oper), n ≤ l.length → back (List.replicate n true ++ List.replicate (l.length - n) false) l = l.drop n
  | 0, l, _ => by
    have : ∀ (l : List Oper), back (List.replicate l.length false) l = l := by
      intro l; induction l with
      | nil => rfl
      | cons o l ih => simpa [List.replicate_succ, back] using ih
    simpa using this l
  | n + 1, [], h => by simp at h
  | n + 1, o :: l, h => by
    have ih := back_pre n l (by simpa using h)
    simpa [List.replicate_succ, back] using ih

/-- The first n operations are taken first. -/
theorem wp_region_pre {id : Nat} {Q : Exit → Act → World → Prop} {a : Act} {w : World} {l : List Oper} (n : Nat) (hm : P.follows .mixedOrders = true)
    (hB : (decide (n ≤ l.length) && frontB .any l.toArray (List.replicate n true ++ List.replicate (l.length - n) false)) = true)
    (h : wpQuiet P l.toArray (fun w' => ∃ n, w' = w.drewN n) (fun a' => ∀ k, wpList P l.toArray Q (l.drop n) a' (w.drewN k)) (l.take n) a) : (Code.region id l.toArray true).wp P Q a w := by
  simp only [Bool.and_eq_true, decide_eq_true_eq] at hB
  refine wp_region_front _ hm hB.2 ?_
  rw [front_pre n l hB.1, back_pre n l hB.1]
  exact h
end
end Kreg
end Go
