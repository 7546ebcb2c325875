/-
  Package tasks, walked: slices.Clone, New, Check, Add.
-/
import Derived.Test.YtkaecdkmalppcaaDoorTw
namespace Go.Proofs.YtkaecdkmalppcaaDoor
open Go.RowKit Go.Kw Go.Kreg Go.Tm

/-- A slice value that reads as a list of numbers. -/
def SlIn (w : World) (v : Value) (l : List Int) : Prop :=
  ∃ ao c, v = .slice ao l.length c ∧ l.length ≤ 140737488351232 ∧ l.length ≤ c ∧ c ≤ maxLen ∧
    (∀ (j : Nat) x, l[j]? = some x → ∃ b o, ao = some ⟨b, o, none⟩ ∧ w.cell? ⟨b, o + j, none⟩ = some (.int .i64 x)) ∧ (ao = none → c = 0)
theorem SlIn.keeps {w w' : World} {v : Value} {l : List Int} {F : Nat → Prop} (h : SlIn w v l) (hk : Keeps F w w') (hF : ∀ b, b < w.heap.size → (∃ o n c, v = .slice (some ⟨b, o, none⟩) n c) → ¬ F b) : SlIn w' v l := by
  obtain ⟨ao, c, rfl, hl, hlc, hcm, hc, h0⟩ := h
  refine ⟨ao, c, rfl, hl, hlc, hcm, fun j x hj => ?_, h0⟩
  obtain ⟨b, o, rfl, h1⟩ := hc j x hj
  have hb := hk.block b (World.block_lt_of_cell? w _ h1) (hF b (World.block_lt_of_cell? w _ h1) ⟨o, _, c, rfl⟩)
  exact ⟨b, o, rfl, (World.cell?_of_block (w := w) hb).trans h1⟩
theorem SlIn.new {w w' : World} {v : Value} {l : List Int} (h : SlIn w v l) (hk : Keeps (fun _ => False) w w') : SlIn w' v l := h.keeps hk fun _ _ _ => id
theorem SlIn.blk {w : World} {b : Nat} {l : List Int} (h : Blk w b TI' (intsC l)) (hl : l.length ≤ 1000000) : SlIn w (.slice (some ⟨b, 0, none⟩) l.length l.length) l :=
  ⟨_, _, rfl, by omega, Nat.le_refl _, by unfold maxLen; omega, fun j x hj => ⟨b, 0, rfl, by rw [Nat.zero_add]; exact h.at (intsC_at hj)⟩, fun e => by cases e⟩

theorem slin_src {w : World} {ao : Option Addr} {l : List Int} (hc : ∀ (j : Nat) x, l[j]? = some x → ∃ b o, ao = some ⟨b, o, none⟩ ∧ w.cell? ⟨b, o + j, none⟩ = some (.int .i64 x)) : ∀ ad, ao = some ad → ∀ (j : Nat) u, (intsC l)[j]? = some u → w.cell? (ad.add j) = some u := by
  intro ad had j u hu
  simp only [intsC, List.getElem?_map] at hu
  cases hx : l[j]? with
  | none => rw [hx] at hu; cases hu
  | some x =>
    rw [hx] at hu
    obtain ⟨b, o, e, h1⟩ := hc j x hx
    rw [e] at had; cases had
    rw [add_at, h1]; simpa using hu
theorem slnd_src {w : World} {ao : Option Addr} {l : List Need} (hc : ∀ (j : Nat) x, l[j]? = some x → ∃ b o, ao = some ⟨b, o, none⟩ ∧ w.cell? ⟨b, o + j * 2, none⟩ = some (.int .i64 x.res) ∧ w.cell? ⟨b, o + j * 2 + 1, none⟩ = some (.int .i64 x.units)) : ∀ ad, ao = some ad → ∀ (j : Nat) u, (needsC l)[j]? = some u → w.cell? (ad.add j) = some u := by
  intro ad had j u hu
  have hj : j / 2 < l.length := by
    have := (List.getElem?_eq_some_iff.1 hu).1
    rw [needsC_len] at this; omega
  have hx := List.getElem?_eq_getElem hj
  obtain ⟨h0, h1⟩ := needsC_at hx
  obtain ⟨b, o, e, g0, g1⟩ := hc _ _ hx
  rw [e] at had; cases had
  rw [add_at]
  obtain hm | hm : j = j / 2 * 2 ∨ j = j / 2 * 2 + 1 := by omega
  · rw [hm] at hu ⊢
    rw [h0] at hu
    rw [g0]; exact hu
  · rw [hm] at hu ⊢
    rw [h1] at hu
    rw [← Nat.add_assoc, g1]; exact hu

theorem eqN_nil (w : World) (a : Option Addr) (n c : Nat) : (binOp .eql TNds (.slice a n c) (.slice none 0 0)).run Tryd.prog w = .ok (.bool a.isNone) w := by
  have h : ∀ d : Nat, (Op.equalIn (d + 1) TNds (.slice a n c) (.slice none 0 0)).run Tryd.prog w = .ok a.isNone w := fun d => by
    cases a <;> simp [Op.equalIn, run_underlying Tryd.underlying28]
  simp only [binOp]
  simp [Op.equal, Op.maxDepth, h 9999]
theorem eqI_nil (w : World) (a : Option Addr) (n c : Nat) : (binOp .eql 36 (.slice a n c) (.slice none 0 0)).run Tryd.prog w = .ok (.bool a.isNone) w := by
  have h : ∀ d : Nat, (Op.equalIn (d + 1) 36 (.slice a n c) (.slice none 0 0)).run Tryd.prog w = .ok a.isNone w := fun d => by
    cases a <;> simp [Op.equalIn, run_underlying Tryd.underlying36]
  simp only [binOp]
  simp [Op.equal, Op.maxDepth, h 9999]
section
variable {w : World} {v : Value}
set_option maxRecDepth 100000 in
set_option maxHeartbeats 1000000 in
theorem cloneN_any {l : List Need} (hv : SlNd w v l) (hl : l.length ≤ 1000000) : Calls Tryd.prog 28 #[v] w fun e w' => ∃ v', e = .returned v' ∧ St (fun _ => False) w [.row TNd 2 v' l.length (needsC l)] w' := by
  obtain ⟨ao, c, rfl, _, hlc, hcm, hc, h0, _⟩ := hv
  cases ao with
  | none =>
    have hl0 : l = [] := by
      cases l with
      | nil => rfl
      | cons x l => obtain ⟨_, _, e, _⟩ := hc 0 x rfl; cases e
    subst hl0
    obtain rfl := h0 rfl
    have hS := (St.start w).add (Keeps.refl (fun _ => False) w) (G := fun _ => False) (c := .row TNd 2 (.slice none 0 0) 0 []) ⟨⟨rfl, .inl ⟨rfl, rfl⟩⟩, fun b => by simp [Value.ownBlock]⟩ (fun _ h => h.elim)
    have heq := fun w => eqN_nil w none 0 0
    clear hc h0
    go_enter Tryd.func28, Tryd.ntmps28
    go_wp2_with fail
    go_ret
    exact ⟨_, rfl, hS⟩
  | some ad =>
    have hsrc := slnd_src hc
    have hS := (St.start w).add ((Keeps.refl (fun _ => False) w).alloc (.cells #[] TNd)) (G := fun b => b = w.heap.size) (c := .row TNd 2 (.slice (some ⟨w.heap.size, 0, none⟩) 0 0) 0 []) ⟨⟨rfl, .inr ⟨w.heap.size, 0, #[], rfl, Nat.zero_le _, heap_alloc_new w _, Nat.le_refl _, by simp [maxLen], by simp, by simp⟩⟩, fun b => by simp only [Value.ownBlock, Option.some.injEq]; exact eq_comm⟩ (fun b hb => by rw [hb]; exact Nat.le_refl _)
    have HS := hid hS
    have Hsrc := hid hsrc
    have heq := fun w => eqN_nil w (some ad) l.length c
    clear hc h0 hS hsrc
    go_enter Tryd.func28, Tryd.ntmps28
    go_wp2_with (at_builtin; refine wpList_appX 0 _ _ TNds TNd (.agg #[.int .i64 0, .int .i64 0]) 2 16 infoNd Tryd.underlying28 rfl (by decide) rfl rfl HS.out rfl rfl (some ad) l.length c (needsC l) rfl (needsC_len l) (fun e => by cases e) (fun a ha j u hu => cellIn ((Keeps.refl (fun _ => False) w).alloc (.cells #[] TNd)) (Hsrc.out a ha j u hu)) (needsC_one l) (by unfold maxLen; omega) (by omega) ?_; intro v' w2 hS2 hor)
    all_goals
      go_ret
      have hS3 := hS2
      simp only [List.set_cons_zero, Nat.zero_add, List.nil_append] at hS3
      exact ⟨_, rfl, hS3⟩
set_option maxRecDepth 100000 in
set_option maxHeartbeats 1000000 in
theorem cloneI_any {l : List Int} (hv : SlIn w v l) (hl : l.length ≤ 1000000) : Calls Tryd.prog 24 #[v] w fun e w' => ∃ v', e = .returned v' ∧ St (fun _ => False) w [.row TI' 1 v' l.length (intsC l)] w' := by
  obtain ⟨ao, c, rfl, _, hlc, hcm, hc, h0⟩ := hv
  cases ao with
  | none =>
    have hl0 : l = [] := by
      cases l with
      | nil => rfl
      | cons x l => obtain ⟨_, _, e, _⟩ := hc 0 x rfl; cases e
    subst hl0
    obtain rfl := h0 rfl
    have hS := (St.start w).add (Keeps.refl (fun _ => False) w) (G := fun _ => False) (c := .row TI' 1 (.slice none 0 0) 0 []) ⟨⟨rfl, .inl ⟨rfl, rfl⟩⟩, fun b => by simp [Value.ownBlock]⟩ (fun _ h => h.elim)
    have heq := fun w => eqI_nil w none 0 0
    clear hc h0
    go_enter Tryd.func24, Tryd.ntmps24
    go_wp2_with fail
    go_ret
    exact ⟨_, rfl, hS⟩
  | some ad =>
    have hsrc := slin_src hc
    have hS := (St.start w).add ((Keeps.refl (fun _ => False) w).alloc (.cells #[] TI')) (G := fun b => b = w.heap.size) (c := .row TI' 1 (.slice (some ⟨w.heap.size, 0, none⟩) 0 0) 0 []) ⟨⟨rfl, .inr ⟨w.heap.size, 0, #[], rfl, Nat.zero_le _, heap_alloc_new w _, Nat.le_refl _, by simp [maxLen], by simp, by simp⟩⟩, fun b => by simp only [Value.ownBlock, Option.some.injEq]; exact eq_comm⟩ (fun b hb => by rw [hb]; exact Nat.le_refl _)
    have HS := hid hS
    have Hsrc := hid hsrc
    have heq := fun w => eqI_nil w (some ad) l.length c
    clear hc h0 hS hsrc
    go_enter Tryd.func24, Tryd.ntmps24
    go_wp2_with (at_builtin; refine wpList_appX 0 _ _ 36 TI' (.int .i64 0) 1 8 infoI Tryd.underlying36 rfl (by decide) rfl rfl HS.out rfl rfl (some ad) l.length c (intsC l) rfl (by rw [intsC_len, Nat.mul_one]) (fun e => by cases e) (fun a ha j u hu => cellIn ((Keeps.refl (fun _ => False) w).alloc (.cells #[] TI')) (Hsrc.out a ha j u hu)) (intsC_one l) (by unfold maxLen; omega) (by omega) ?_; intro v' w2 hS2 hor)
    all_goals
      go_ret
      have hS3 := hS2
      simp only [List.set_cons_zero, Nat.zero_add, List.nil_append] at hS3
      exact ⟨_, rfl, hS3⟩

theorem tabx_new {words : Int} {us : List Int} {uv : Value} : TabOk ⟨words, us, []⟩ ⟨uv, .slice none 0 0, .slice none 0 0, [], []⟩ ↔ begins words us = 0 := by
  constructor
  · intro h; exact h.ok.begins
  · intro h
    refine ⟨⟨h, by simp, by simp, by simp, by simp, ?_⟩, rfl, ?_, rfl⟩
    · show bound [] ≤ words
      have : bound [] = 0 := by decide
      rw [this]
      unfold begins at h
      split at h <;> omega
    · exact Tn.Rows.nil
end
end Go.Proofs.YtkaecdkmalppcaaDoor
