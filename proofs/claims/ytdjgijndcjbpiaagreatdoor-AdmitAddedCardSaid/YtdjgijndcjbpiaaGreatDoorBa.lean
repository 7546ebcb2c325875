/-
  Package admit, walked: sections in memory; Cost.
-/
import Derived.Test.YtdjgijndcjbpiaaGreatDoorG25
import Derived.Test.YtdjgijndcjbpiaaGreatDoorAc
import Derived.Test.YtdjgijndcjbpiaaGreatDoorKk
import Derived.Deep.Cut
import Derived.Deep.DeepCutAuto
namespace Go.Proofs.YtdjgijndcjbpiaaGreatDoor
open Go.RowKit Go.Kw Go.Kreg Go.Tm Go.Ad
set_option linter.unusedSimpArgs false
set_option linter.unusedVariables false

abbrev TSe : Nat := 98
abbrev TOw : Nat := 206
theorem infoSe : (Tryz.prog.info? TSe).map (fun i => (i.zero, i.size, i.bytes)) = some (some (.agg #[.int .i64 0, .int .i64 0, .int .i64 0, .int .i64 0, .int .i64 0]), 5, 40) := by kernel_rfl
def secC (s : Sec) : List Value := [.int .i64 s.res, .int .i64 s.units, .int .i64 s.held, .int .i64 s.frm, .int .i64 s.upto]
def secV (s : Sec) : Value := .agg #[.int .i64 s.res, .int .i64 s.units, .int .i64 s.held, .int .i64 s.frm, .int .i64 s.upto]
def secsC (l : List Sec) : List Value := l.flatMap secC
theorem secsC_len (l : List Sec) : (secsC l).length = l.length * 5 := by
  induction l with
  | nil => rfl
  | cons n l ih => simp only [secsC, secC, List.flatMap_cons, List.length_append, List.length_cons, List.length_nil] at *; omega
theorem secsC_app (l r : List Sec) : secsC (l ++ r) = secsC l ++ secsC r := by simp [secsC]
theorem secC_one (s : Sec) : ∀ u ∈ secC s, u.oneCell' = true := by
  intro u hu
  simp only [secC, List.mem_cons, List.not_mem_nil, or_false] at hu
  rcases hu with rfl | rfl | rfl | rfl | rfl <;> rfl
theorem secsC_cut {l : List Sec} {i : Nat} {s : Sec} (h : l[i]? = some s) : secsC l = secsC (l.take i) ++ (secC s ++ secsC (l.drop (i + 1))) ∧ (secsC (l.take i)).length = i * 5 := by
  have hs : l = l.take i ++ (s :: l.drop (i + 1)) := by
    have := (List.getElem?_eq_some_iff.1 h)
    rw [← this.2, List.getElem_cons_drop, List.take_append_drop]
  refine ⟨?_, by rw [secsC_len, List.length_take]; have := (List.getElem?_eq_some_iff.1 h).1; omega⟩
  conv => lhs; rw [hs]
  simp [secsC]
theorem secsC_at {l : List Sec} {i : Nat} {s : Sec} (h : l[i]? = some s) : (secsC l)[i * 5]? = some (.int .i64 s.res) ∧ (secsC l)[i * 5 + 1]? = some (.int .i64 s.units) ∧ (secsC l)[i * 5 + 2]? = some (.int .i64 s.held) ∧ (secsC l)[i * 5 + 3]? = some (.int .i64 s.frm) ∧ (secsC l)[i * 5 + 4]? = some (.int .i64 s.upto) := by
  obtain ⟨e, hl⟩ := secsC_cut h
  rw [e]
  refine ⟨?_, ?_, ?_, ?_, ?_⟩
  all_goals
    rw [List.getElem?_append_right (by omega), hl]
    simp [secC]
theorem secsC_set {l : List Sec} {i : Nat} {s : Sec} (h : l[i]? = some s) (t : Nat) : (secsC l).set (i * 5 + 4) (.int .i64 t) = secsC (l.set i ⟨s.res, s.units, s.held, s.frm, t⟩) := by
  obtain ⟨e, hl⟩ := secsC_cut h
  have hi := (List.getElem?_eq_some_iff.1 h).1
  have h2 : (l.set i ⟨s.res, s.units, s.held, s.frm, t⟩)[i]? = some ⟨s.res, s.units, s.held, s.frm, t⟩ := by rw [List.getElem?_set, if_pos rfl, if_pos hi]
  obtain ⟨e2, _⟩ := secsC_cut h2
  rw [e2, List.take_set_of_le (Nat.le_refl _), List.drop_set_of_lt (Nat.lt_succ_self _), e, List.set_append_right _ _ (by omega), hl]
  simp [secC]

/-- The cells of a task's own run. -/
def ownL (h : List Int) (ov sv : Value) : List Value := intsC h ++ [ov, sv]
section
variable {h : List Int} {ov sv : Value}
theorem ownL_held (hl : h.length = 16) {j : Nat} (hj : j < 16) : (ownL h ov sv)[j]? = some (.int .i64 (h.getD j 0)) := by
  unfold ownL
  rw [List.getElem?_append_left (by rw [intsC_len]; omega)]
  refine intsC_at ?_
  rw [List.getD_eq_getElem?_getD, List.getElem?_eq_getElem (by omega)]; rfl
theorem ownL_ov (hl : h.length = 16) : (ownL h ov sv)[16]? = some ov := by
  unfold ownL
  rw [List.getElem?_append_right (by rw [intsC_len]; omega), intsC_len, hl]; rfl
theorem ownL_sv (hl : h.length = 16) : (ownL h ov sv)[17]? = some sv := by
  unfold ownL
  rw [List.getElem?_append_right (by rw [intsC_len]; omega), intsC_len, hl]; rfl
theorem ownL_setH (hl : h.length = 16) {j : Nat} (hj : j < 16) (n : Int) : (ownL h ov sv).set j (.int .i64 n) = ownL (h.set j n) ov sv := by
  unfold ownL
  rw [List.set_append_left _ _ (by rw [intsC_len]; omega)]
  congr 1
  simp [intsC, List.map_set]
theorem ownL_setO (hl : h.length = 16) (v : Value) : (ownL h ov sv).set 16 v = ownL h v sv := by
  unfold ownL
  rw [List.set_append_right _ _ (by rw [intsC_len]; omega), intsC_len, hl]; rfl
theorem ownL_setS (hl : h.length = 16) (v : Value) : (ownL h ov sv).set 17 v = ownL h ov v := by
  unfold ownL
  rw [List.set_append_right _ _ (by rw [intsC_len]; omega), intsC_len, hl]; rfl
end
def opnI (l : List Nat) : List Int := l.reverse.map fun (k : Nat) => (k : Int)
theorem opnI_len (l : List Nat) : (opnI l).length = l.length := by simp [opnI]
theorem opnI_top (k : Nat) (l : List Nat) : (opnI (k :: l))[l.length]? = some (k : Int) := by
  unfold opnI
  simp
theorem opnI_cons (k : Nat) (l : List Nat) : opnI (k :: l) = opnI l ++ [(k : Int)] := by simp [opnI]
theorem opnI_take (k : Nat) (l : List Nat) : (opnI (k :: l)).take l.length = opnI l := by
  rw [opnI_cons, List.take_append_of_le_length (by rw [opnI_len]; exact Nat.le_refl _), List.take_of_length_le (by rw [opnI_len]; exact Nat.le_refl _)]
def ownCs (g : Nat) (o : OW) (ov sv : Value) : List Ch := [.pt g TOw (ownL o.held ov sv), .row TI' 1 ov o.opn.length (intsC (opnI o.opn)), .row TSe 5 sv o.out.length (secsC o.out)]
def ownC (g : Nat) (o : OW) : Ch := .ex fun v : Value × Value => .stars (ownCs g o v.1 v.2)

/-- An element's cell of an owned row is written. -/
theorem own_setInN {w : World} {T : TypeId} {sz n : Nat} {v : Value} {xs : List Value} (h : Own w T sz v n xs) {g : Nat} (hg : v.ownBlock = some g) (j : Nat) (u : Value) : Own (w.setCell ⟨g, j, none⟩ u) T sz v n (xs.set j u) := by
  obtain ⟨h1, h2⟩ := h
  refine ⟨by simp [h1], ?_⟩
  rcases h2 with ⟨rfl, _⟩ | ⟨g', cap, cur, rfl, hb, hh, hn, hm, hs, ht⟩
  · cases hg
  · obtain rfl : g' = g := by simpa [Value.ownBlock] using hg
    refine .inr ⟨g', cap, cur.setIfInBounds j u, rfl, hb, ?_, hn, hm, by simp [hs], ?_⟩
    · have hB : Blk w g' T cur.toList := by unfold Blk; simpa using hh
      have := hB.set j u
      unfold Blk at this
      rw [this]; simp [← List.setIfInBounds_toArray]
    · rw [← ht]; simp [List.take_set]
theorem st_setRowN {F0 : Nat → Prop} {w0 w : World} {cs : List Ch} (i : Nat) {T : TypeId} {sz n g : Nat} {v : Value} {xs : List Value} (hS : St F0 w0 cs w) (hg : v.ownBlock = some g) (j : Nat) (u : Value) (hi : cs.getD i .emp = .row T sz v n xs := by rfl) : St F0 w0 (cs.set i (.row T sz v n (xs.set j u))) (w.setCell ⟨g, j, none⟩ u) :=
  hS.turn i hi fun F h => ⟨F, ⟨own_setInN h.1 hg j u, h.2⟩, (Keeps.refl F w).setCell (.inl ((h.2 g).2 hg)) u, fun _ => .inl⟩
theorem id_cases (ts : List Task) (id : Int) : (id < 0 ∨ (ts.length : Int) ≤ id) ∨ ∃ (i : Nat) (t : Task), id = i ∧ ts[i]? = some t := by
  by_cases h0 : id < 0
  · exact .inl (.inl h0)
  · by_cases h1 : (ts.length : Int) ≤ id
    · exact .inl (.inr h1)
    · obtain ⟨i, rfl⟩ := Int.eq_ofNat_of_zero_le (show 0 ≤ id by omega)
      exact .inr ⟨i, ts[i], rfl, List.getElem?_eq_getElem (by omega)⟩
theorem out_none {ts : List Task} {id : Int} (h : id < 0 ∨ (ts.length : Int) ≤ id) : taskI ts id = none := by
  unfold taskI
  split
  · rfl
  · rename_i h0
    exact List.getElem?_eq_none (by omega)
theorem in_some {ts : List Task} {i : Nat} {t : Task} (h : ts[i]? = some t) : taskI ts i = some t := by
  unfold taskI
  rw [if_neg (by omega), Int.toNat_natCast, h]
section
variable {w : World} {p : Nat} {m : TM} {x : TabX}
set_option maxRecDepth 100000 in
set_option maxHeartbeats 2000000 in
theorem cost_any (h : TabAt w p m x) (id : Int) : Calls Tryz.prog 61 #[.pointer (some ⟨p, 0, none⟩), .int .i64 id] w fun e w' => e = .returned (.int .i64 (cost m.ts id)) ∧ Keeps (fun _ => False) w w' := by
  rcases id_cases m.ts id with ho | ⟨i, t, rfl, ht⟩
  · have HS := hid (tsteps_out h id ho)
    have e : cost m.ts id = 0 := by
      have := out_none ho
      unfold taskI at this
      unfold cost
      split
      · rfl
      · rename_i h0
        rw [if_neg h0] at this
        rw [this]
    rw [e]
    clear h e ho
    go_enter Tryz.func61, Tryz.ntmps61
    go_wp2_with fail
    refine HS.out.mono ?_; rintro e w1 ⟨rfl, k1⟩
    go_wp2_with fail
    go_ret
    exact ⟨rfl, k1⟩
  · have HS := hid (tsteps_in h ht (Cm.prog_le _))
    have e : cost m.ts i = (prog t).1.length := by
      unfold cost
      rw [if_neg (by omega), Int.toNat_natCast, ht]
    rw [e]
    generalize (prog t).1 = P at *
    clear h e ht
    go_enter Tryz.func61, Tryz.ntmps61
    go_wp2_with fail
    refine HS.out.mono ?_; rintro e w1 ⟨g, rfl, hS⟩
    go_wp2_with fail
    go_ret
    exact ⟨rfl, hS.keeps⟩
set_option maxRecDepth 100000 in
theorem cost_nil (w : World) (id : Int) : Calls Tryz.prog 61 #[.pointer none, .int .i64 id] w fun e w' => e = .returned (.int .i64 0) ∧ Keeps (fun _ => False) w w' := by
  go_enter Tryz.func61, Tryz.ntmps61
  go_wp2_with fail
  go_ret
  exact ⟨rfl, Keeps.refl _ _⟩
end
end Go.Proofs.YtdjgijndcjbpiaaGreatDoor
