/-
  A region's rule where the operations that write come up in more than one order: a tree of the orders.
-/
import Derived.Test.YtkaecdkmalppcaaDoorKmix
namespace Go
namespace Kreg
open Kw
section
variable {P : Program} {ops : Array Oper} {md : Region.Mode} {C : World → Prop} {Q : Exit → Act → World → Prop}

/-- The orders in which the first of the others come up. -/
inductive Tr where
  | done : Tr
  | one : Nat → Tr → Tr
  | two : Nat → Tr → Nat → Tr → Tr

def trB (md : Region.Mode) (ops : Array Oper) (T2 : List Nat) : Nat → Tr → Array Bool → Bool
  | 0, .done, listed => lexL.seqL md ops T2 listed
  | n + 1, .one k t, listed => decide (Region.ready md ops listed = [k]) && trB md ops T2 n t (listed.setIfInBounds k true)
  | n + 1, .two k t j u, listed => decide (Region.ready md ops listed = [k, j]) && trB md ops T2 n t (listed.setIfInBounds k true) && trB md ops T2 n u (listed.setIfInBounds j true)
  | _, _, _ => false

def at' (P : Program) (ops : Array Oper) (C : World → Prop) (Q : Exit → Act → World → Prop) (K : Act → World → Prop) (k : Nat) (a : Act) (w : World) : Prop :=
  match ops[k]? with
  | some o => wpList P ops (segQ C Q K) [o] a w
  | none => False
def wpTr (P : Program) (ops : Array Oper) (C : World → Prop) (Q : Exit → Act → World → Prop) (l2 : List Oper) : Tr → Act → World → Prop
  | .done, a, w => wpList P ops Q l2 a w
  | .one k t, a, w => at' P ops C Q (wpTr P ops C Q l2 t) k a w
  | .two k t j u, a, w => at' P ops C Q (wpTr P ops C Q l2 t) k a w ∧ at' P ops C Q (wpTr P ops C Q l2 u) j a w

theorem at'_of {K : Act → World → Prop} {k : Nat} {o : Oper} {a : Act} {w : World} (ho : ops[k]? = some o) (h : wpList P ops (segQ C Q K) [o] a w) : at' P ops C Q K k a w := by
  unfold at'; rw [ho]; exact h
theorem wpOp_at' {K : Act → World → Prop} {i : Nat} {a : Act} {w : World} (h : at' P ops C Q K i a w) : wpOp P ops Q i (fun a' w' => C w' ∧ K a' w') a w := by
  unfold at' at h
  split at h
  · rename_i o ho
    exact wpOp_of_seg ho h
  · exact h.elim

theorem wpG_tr {t0 : Nat} {T : List Nat} {l2 : List Oper} (ht0 : t0 < ops.size) (hl2 : (t0 :: T).map (fun i => ops[i]?) = l2.map some) :
    ∀ (n : Nat) (t : Tr) (listed : Array Bool) (a : Act) (w : World), listed.size = ops.size → C w → trB md ops (t0 :: T) n t listed = true → wpTr P ops C Q l2 t a w →
    wpG P md ops C Q t0 (n + (T.length + 1)) listed a w
  | 0, .done, listed, a, w, hsz, hC, hB, h => by
    cases l2 with
    | nil => simp at hl2
    | cons o l2 =>
      simp only [List.map_cons, List.cons.injEq] at hl2
      obtain ⟨h0, hl2⟩ := hl2
      simp only [trB, lexL.seqL, Bool.and_eq_true, decide_eq_true_eq] at hB
      simp only [Nat.zero_add]
      refine ⟨fun _ => hC, fun h1 => (by rw [hB.1] at h1; cases h1), fun i hi => ?_⟩
      rw [hB.1] at hi
      have hik : i = t0 := by simpa using hi
      subst hik
      unfold wpTr at h
      have hw : wpOp P ops Q i (wpList P ops Q l2) a w := by unfold wpOp; simp only [h0]; exact h
      refine wpOp_mono (fun a' w' h' => wpG_of_seqL T l2 _ a' w' hl2 ?_ hB.2 h') hw
      simp [hsz, ht0]
  | 0, .one .., _, _, _, _, _, hB, _ => by simp [trB] at hB
  | 0, .two .., _, _, _, _, _, hB, _ => by simp [trB] at hB
  | _ + 1, .done, _, _, _, _, _, hB, _ => by simp [trB] at hB
  | n + 1, .one k t, listed, a, w, hsz, hC, hB, h => by
    simp only [trB, Bool.and_eq_true, decide_eq_true_eq] at hB
    rw [show n + 1 + (T.length + 1) = (n + (T.length + 1)) + 1 by omega]
    refine ⟨fun _ => hC, fun h1 => (by rw [hB.1] at h1; cases h1), fun i hi => ?_⟩
    rw [hB.1] at hi
    have hik : i = k := by simpa using hi
    subst hik
    unfold wpTr at h
    exact wpOp_mono (fun a' w' h' => wpG_tr ht0 hl2 n t _ a' w' (by simp [hsz]) h'.1 hB.2 h'.2) (wpOp_at' h)
  | n + 1, .two k t j u, listed, a, w, hsz, hC, hB, h => by
    simp only [trB, Bool.and_eq_true, decide_eq_true_eq] at hB
    rw [show n + 1 + (T.length + 1) = (n + (T.length + 1)) + 1 by omega]
    refine ⟨fun _ => hC, fun h1 => (by rw [hB.1.1] at h1; cases h1), fun i hi => ?_⟩
    rw [hB.1.1] at hi
    unfold wpTr at h
    have hik : i = k ∨ i = j := by simpa using hi
    rcases hik with rfl | rfl
    · exact wpOp_mono (fun a' w' h' => wpG_tr ht0 hl2 n t _ a' w' (by simp [hsz]) h'.1 hB.1.2 h'.2) (wpOp_at' h.1)
    · exact wpOp_mono (fun a' w' h' => wpG_tr ht0 hl2 n u _ a' w' (by simp [hsz]) h'.1 hB.2 h'.2) (wpOp_at' h.2)

def lexT (md : Region.Mode) (ops : Array Oper) (n : Nat) (t : Tr) (T2 : List Nat) : List Nat → Array Bool → Bool
  | [], listed => trB md ops T2 n t listed
  | k :: H, listed => (Region.ready md ops listed).contains k && Region.free md ops listed k && lexT md ops n t T2 H (listed.setIfInBounds k true)

def treeB (md : Region.Mode) (ops : Array Oper) (ms : List Bool) (n : Nat) (t : Tr) : Bool :=
  let H := idxs true ms 0
  let T2 := (idxs false ms 0).drop n
  Region.noSelect ops && decide (ms.length = ops.size) && decide (n ≤ (idxs false ms 0).length) && (match T2 with | [] => false | t0 :: _ => decide (t0 < ops.size) && let N := need md ops (t0 + 1) [t0]; H.all fun i => !(i == t0) && (!(readAt ops i) || N.contains i)) && (H.all fun i => plainAt ops i) && lexT md ops n t T2 H (Array.replicate ops.size false)

theorem wpG_lexT {n : Nat} {t : Tr} {T : List Nat} {t0 : Nat} {l2 : List Oper} (hsel : Region.noSelect ops = true)
    (hQ : ∀ c a b w, Q (.panic c) a w → Q (.panic c) b w) (ht0 : t0 < ops.size) (hl2 : (t0 :: T).map (fun i => ops[i]?) = l2.map some) :
    ∀ (H : List Nat) (l : List Oper) (listed : Array Bool) (a : Act) (w : World), H.map (fun i => ops[i]?) = l.map some →
    (∀ i ∈ H, i ≠ t0 ∧ (readAt ops i = true → i ∈ need md ops (t0 + 1) [t0])) → (∀ k ∈ H, plainAt ops k = true) → InvG md ops listed → C w →
    lexT md ops n t (t0 :: T) H listed = true → wpFront P ops C (fun a' => wpTr P ops C Q l2 t a' w) l a →
    wpG P md ops C Q t0 (H.length + (n + (T.length + 1))) listed a w
  | [], l, listed, a, w, hl, _, _, inv, hC, hB, h => by
    cases l with
    | nil =>
      simp only [List.length_nil, Nat.zero_add]
      exact wpG_tr ht0 hl2 n t listed a w inv.size hC (by simpa [lexT] using hB) h
    | cons _ _ => simp at hl
  | k :: H, l, listed, a, w, hl, hnd, hpl, inv, hC, hB, h => by
    cases l with
    | nil => simp at hl
    | cons o l =>
      simp only [List.map_cons, List.cons.injEq] at hl
      obtain ⟨h0, hl⟩ := hl
      simp only [lexT, Bool.and_eq_true] at hB
      obtain ⟨⟨hr, hf⟩, hB'⟩ := hB
      have hr' : k ∈ Region.ready md ops listed := by simpa using hr
      have hst : qOp P ops (cls C o.op) k (wpFront P ops C (fun a' => wpTr P ops C Q l2 t a' w) l) a := by
        unfold wpFront at h
        unfold wpQuiet at h
        unfold qOp; simp only [h0]
        split
        · rename_i hw
          rw [if_pos hw] at h
          obtain ⟨v, h1, h2⟩ := h
          exact ⟨v, h1, h2⟩
        · rename_i hw
          rw [if_neg hw] at h
          exact h
      have hpk : plain o.op = true := by have := hpl k (by simp); simpa [plainAt, h0] using this
      obtain ⟨v, hy, hK⟩ := yieldsP_of_qOp hpk h0 hst
      rw [show (k :: H).length + (n + (T.length + 1)) = (H.length + (n + (T.length + 1))) + 1 by simp; omega]
      obtain ⟨hne, hrd⟩ := hnd k (by simp)
      refine wpG_first (Ci := cls C o.op) h0 (Region.noSelect_spec hsel) (fun c a w => hQ c _ _ w) hne ?_ _ listed a w inv (Region.free_spec h0 hf) hr' hy
        (wpG_lexT hsel hQ ht0 hl2 H l _ _ w hl (fun k hk => hnd k (by simp [hk])) (fun k hk => hpl k (by simp [hk])) (inv.set hr') hC hB' hK)
      cases hrk : isRead o.op with
      | false => exact .inl (cls_of hrk C)
      | true => exact .inr ⟨cls_read hrk C, hrd (by simp [readAt, h0, hrk])⟩

/-- As 'wp_region_mix', where the first n of the others come up in the orders of the tree. -/
theorem wp_region_tree {id : Nat} {a : Act} {w : World} {l : List Oper} (ms : List Bool) (n : Nat) (t : Tr) (F : Nat → Prop) (hm : P.follows .mixedOrders = true) (hB : treeB .any l.toArray ms n t = true)
    (h : wpFront P l.toArray (fun w' => ∃ u, w' = ext w F u) (fun a' => wpTr P l.toArray (fun w' => Keeps F w w') (NoPanic Q) ((back ms l).drop n) t a' w.drew) (front ms l) a) : (Code.region id l.toArray true).wp P Q a w := by
  refine wp_region_noPanic ?_
  unfold treeB at hB
  simp only [Bool.and_eq_true, decide_eq_true_eq] at hB
  obtain ⟨⟨⟨⟨⟨hsel, hlen⟩, hnl⟩, hsc⟩, hpl⟩, hlex⟩ := hB
  have hpl' : ∀ i ∈ idxs true ms 0, plainAt l.toArray i = true := by simpa using hpl
  have hlen' : ms.length = l.length := by simpa using hlen
  have hf := front_spec l ms l 0 (by simp) hlen'
  have hb := back_spec l ms l 0 (by simp) hlen'
  have hb2 : ((idxs false ms 0).drop n).map (fun i => l[i]?) = ((back ms l).drop n).map some := by rw [List.map_drop, hb, List.map_drop]
  have hlt : n + ((idxs false ms 0).drop n).length = (idxs false ms 0).length := by rw [List.length_drop]; omega
  generalize hT : (idxs false ms 0).drop n = T at *
  cases T with
  | nil => cases hsc
  | cons t0 T =>
    simp only [Bool.and_eq_true, decide_eq_true_eq, List.all_eq_true, Bool.or_eq_true, Bool.not_eq_true', beq_eq_false_iff_ne] at hsc
    obtain ⟨ht0, hnd⟩ := hsc
    have inv0 : InvG .any l.toArray (Array.replicate l.toArray.size false) :=
      ⟨by simp, fun j oj _ hl => (by rw [getD_replicate_false] at hl; cases hl)⟩
    have hfr : wpFront P l.toArray (fun w' => Keeps F w w') (fun a' => wpTr P l.toArray (fun w' => Keeps F w w') (NoPanic Q) ((back ms l).drop n) t a' w.drew) (front ms l) a :=
      wpFront_class (fun w' hw' => ⟨w', ext_of hw'⟩) hpl' (by simpa using hf) h
    have Hd := wpG_lexT (P := P) (C := fun w' => Keeps F w w') (Q := NoPanic Q) (md := .any) hsel (fun c a b w h => (h : False).elim) ht0 (by simpa using hb2) (idxs true ms 0) (front ms l) _ a w.drew (by simpa using hf)
      (fun i hi => ⟨(hnd i hi).1, fun hr => by rcases (hnd i hi).2 with h | h; rw [hr] at h; cases h; simpa using h⟩) hpl' inv0 (Keeps.refl _ _).drew hlex hfr
    refine wp_region_any hm ?_
    have := wpAny_of_wpG _ _ _ _ Hd
    have hsz : (idxs true ms 0).length + (n + (T.length + 1)) = l.toArray.size := by
      have := idxs_len ms 0
      simp only [List.size_toArray, ← hlen']
      simp only [List.length_cons] at hlt
      omega
    rw [hsz] at this
    exact this
end

/-- 'append([]T{}, x..)': whatever x reads. -/
theorem wpList_app_row {P : Program} {w : World} {ops : Array Oper} {rest : List Oper} {o : Oper} {a : Act} {Q : Exit → Act → World → Prop} (s x : Operand) (t : TypeId) (e : TypeId) (z : Value) (bytes : Nat)
    (hinfo : (P.info? e).map (fun i => (i.zero, i.size, i.bytes)) = some (some z, 1, bytes)) (ht : P.underlying t = some (.slice e)) (hzs : z.cells.size = 1)
    (hgd : o.guard = none) (ho : o.op = .call { callee := .builtin .append, args := #[s, x], argTypes := #[t, t] })
    (g : Nat) (hs : a.eval s = .slice (some ⟨g, 0, none⟩) 0 0) (hown : Own w e 1 (.slice (some ⟨g, 0, none⟩) 0 0) 0 [])
    (ao : Option Addr) (m c : Nat) (news : List Value) (hx : a.eval x = .slice ao m c) (hl : news.length = m) (hnone : ao = none → m = 0 ∧ c = 0)
    (hc : ∀ ad, ao = some ad → ∀ j u, news[j]? = some u → w.cell? (ad.add j) = some u) (h1 : ∀ u ∈ news, u.oneCell' = true) (h63 : m ≤ maxLen) (hbytes : m * bytes ≤ 140737488355328)
    (hK : ∀ g' cap w', Own w' e 1 (.slice (some ⟨g', 0, none⟩) m cap) m news → Keeps (fun b => b = g) w w' → (g' = g ∨ g' = w.heap.size) → wpList P ops Q rest (a.put o.dst (.slice (some ⟨g', 0, none⟩) m cap)) w') :
    wpList P ops Q (o :: rest) a w := by
  obtain ⟨i0, hi, hz0, hz1, hz2⟩ := info_parts hinfo
  by_cases hm : m = 0
  · subst hm
    refine wpList_append_fits_any w hgd s x t ho 0 e i0 1 ht hi hz1 g 0 0 [] hs hown ao 0 c news hx (by simpa using hl) hnone hc h1 (by omega) fun w' h2 h3 => ?_
    simp only [Nat.zero_add, List.nil_append] at h2 ⊢
    exact hK g 0 w' h2 ((Keeps.refl _ _).grown h3 (fun k hk => by cases hk; exact .inl rfl)) (.inl rfl)
  · obtain ⟨ad, rfl⟩ : ∃ ad, ao = some ad := by
      cases ao with
      | none => exact absurd (hnone rfl).1 hm
      | some ad => exact ⟨ad, rfl⟩
    refine wpList_append_lies w hgd s x t ho 0 e i0 z 1 bytes ht hi hz0 hz1 hz2 hzs (by omega) _ 0 [] hs hown ad m c news hx (by omega) (hc ad rfl) h1 (by omega) (by omega) (by rw [Nat.zero_add]; exact hbytes) (Nat.zero_le _) _ rfl fun g' cap w' h2 h3 h4 _ => ?_
    simp only [Nat.zero_add, List.nil_append] at h2 ⊢
    refine hK g' cap w' h2 ((Keeps.refl _ _).grown h3 (fun k hk => by simp only [Value.ownBlock] at hk; cases hk; exact .inl rfl)) ?_
    rcases h4 with h4 | h4
    · simp only [Value.ownBlock] at h4; cases h4; exact .inl rfl
    · exact .inr h4
end Kreg
end Go
