/-
  Texts Ba Bb Bc Bd in one.
-/
import Derived.Test.YtnkjjhenfhnajaaGreatDoorG25
import Derived.Test.YtnkjjhenfhnajaaGreatDoorG26
import Derived.Test.YtnkjjhenfhnajaaGreatDoorG31
import Derived.Deep.Cut
import Derived.Deep.DeepCutAuto
/-
  Package admit, walked: sections in memory; Cost.
-/
namespace Go.Proofs.YtnkjjhenfhnajaaGreatDoor
open Go.RowKit Go.Kw Go.Kreg Go.Tm Go.Ad
set_option linter.unusedSimpArgs false
set_option linter.unusedVariables false

abbrev TSe : Nat := 66
abbrev TOw : Nat := 160
theorem infoSe : (Tryz.prog.info? TSe).map (fun i => (i.zero, i.size, i.bytes)) = some (some (.agg #[.int .i64 0, .int .i64 0, .int .i64 0, .int .i64 0, .int .i64 0]), 5, 40) := by kernel_rfl
def secC (s : Sec) : List Value := [.int .i64 s.res, .int .i64 s.units, .int .i64 s.held, .int .i64 s.frm, .int .i64 s.upto]
def secV (s : Sec) : Value := .agg #[.int .i64 s.res, .int .i64 s.units, .int .i64 s.held, .int .i64 s.frm, .int .i64 s.upto]
def secsC (l : List Sec) : List Value := l.flatMap secC
theorem secsC_len (l : List Sec) : (secsC l).length = l.length * 5 := by
  induction l with
  | nil => rfl
  | cons n l ih => simp only [secsC, secC, List.flatMap_cons, List.length_append, List.length_cons, List.length_nil] at *; omega
theorem secsC_app (l r : List Sec) : secsC (l ++ r) = secsC l ++ secsC r := by simp [secsC]
theorem secC_one (s : Sec) : ∀ u ∈ secC s, u.oneCell' = true := by
  intro u hu
  simp only [secC, List.mem_cons, List.not_mem_nil, or_false] at hu
  rcases hu with rfl | rfl | rfl | rfl | rfl <;> rfl
theorem secsC_cut {l : List Sec} {i : Nat} {s : Sec} (h : l[i]? = some s) : secsC l = secsC (l.take i) ++ (secC s ++ secsC (l.drop (i + 1))) ∧ (secsC (l.take i)).length = i * 5 := by
  have hs : l = l.take i ++ (s :: l.drop (i + 1)) := by
    have := (List.getElem?_eq_some_iff.1 h)
    rw [← this.2, List.getElem_cons_drop, List.take_append_drop]
  refine ⟨?_, by rw [secsC_len, List.length_take]; have := (List.getElem?_eq_some_iff.1 h).1; omega⟩
  conv => lhs; rw [hs]
  simp [secsC]
theorem secsC_at {l : List Sec} {i : Nat} {s : Sec} (h : l[i]? = some s) : (secsC l)[i * 5]? = some (.int .i64 s.res) ∧ (secsC l)[i * 5 + 1]? = some (.int .i64 s.units) ∧ (secsC l)[i * 5 + 2]? = some (.int .i64 s.held) ∧ (secsC l)[i * 5 + 3]? = some (.int .i64 s.frm) ∧ (secsC l)[i * 5 + 4]? = some (.int .i64 s.upto) := by
  obtain ⟨e, hl⟩ := secsC_cut h
  rw [e]
  refine ⟨?_, ?_, ?_, ?_, ?_⟩
  all_goals
    rw [List.getElem?_append_right (by omega), hl]
    simp [secC]
theorem secsC_set {l : List Sec} {i : Nat} {s : Sec} (h : l[i]? = some s) (t : Nat) : (secsC l).set (i * 5 + 4) (.int .i64 t) = secsC (l.set i ⟨s.res, s.units, s.held, s.frm, t⟩) := by
  obtain ⟨e, hl⟩ := secsC_cut h
  have hi := (List.getElem?_eq_some_iff.1 h).1
  have h2 : (l.set i ⟨s.res, s.units, s.held, s.frm, t⟩)[i]? = some ⟨s.res, s.units, s.held, s.frm, t⟩ := by rw [List.getElem?_set, if_pos rfl, if_pos hi]
  obtain ⟨e2, _⟩ := secsC_cut h2
  rw [e2, List.take_set_of_le (Nat.le_refl _), List.drop_set_of_lt (Nat.lt_succ_self _), e, List.set_append_right _ _ (by omega), hl]
  simp [secC]

/-- The cells of a task's own run. -/
def ownL (h : List Int) (ov sv : Value) : List Value := intsC h ++ [ov, sv]
section
variable {h : List Int} {ov sv : Value}
theorem ownL_held (hl : h.length = 16) {j : Nat} (hj : j < 16) : (ownL h ov sv)[j]? = some (.int .i64 (h.getD j 0)) := by
  unfold ownL
  rw [List.getElem?_append_left (by rw [intsC_len]; omega)]
  refine intsC_at ?_
  rw [List.getD_eq_getElem?_getD, List.getElem?_eq_getElem (by omega)]; rfl
theorem ownL_ov (hl : h.length = 16) : (ownL h ov sv)[16]? = some ov := by
  unfold ownL
  rw [List.getElem?_append_right (by rw [intsC_len]; omega), intsC_len, hl]; rfl
theorem ownL_sv (hl : h.length = 16) : (ownL h ov sv)[17]? = some sv := by
  unfold ownL
  rw [List.getElem?_append_right (by rw [intsC_len]; omega), intsC_len, hl]; rfl
theorem ownL_setH (hl : h.length = 16) {j : Nat} (hj : j < 16) (n : Int) : (ownL h ov sv).set j (.int .i64 n) = ownL (h.set j n) ov sv := by
  unfold ownL
  rw [List.set_append_left _ _ (by rw [intsC_len]; omega)]
  congr 1
  simp [intsC, List.map_set]
theorem ownL_setO (hl : h.length = 16) (v : Value) : (ownL h ov sv).set 16 v = ownL h v sv := by
  unfold ownL
  rw [List.set_append_right _ _ (by rw [intsC_len]; omega), intsC_len, hl]; rfl
theorem ownL_setS (hl : h.length = 16) (v : Value) : (ownL h ov sv).set 17 v = ownL h ov v := by
  unfold ownL
  rw [List.set_append_right _ _ (by rw [intsC_len]; omega), intsC_len, hl]; rfl
end
def opnI (l : List Nat) : List Int := l.reverse.map fun (k : Nat) => (k : Int)
theorem opnI_len (l : List Nat) : (opnI l).length = l.length := by simp [opnI]
theorem opnI_top (k : Nat) (l : List Nat) : (opnI (k :: l))[l.length]? = some (k : Int) := by
  unfold opnI
  simp
theorem opnI_cons (k : Nat) (l : List Nat) : opnI (k :: l) = opnI l ++ [(k : Int)] := by simp [opnI]
theorem opnI_take (k : Nat) (l : List Nat) : (opnI (k :: l)).take l.length = opnI l := by
  rw [opnI_cons, List.take_append_of_le_length (by rw [opnI_len]; exact Nat.le_refl _), List.take_of_length_le (by rw [opnI_len]; exact Nat.le_refl _)]
def ownCs (g : Nat) (o : OW) (ov sv : Value) : List Ch := [.pt g TOw (ownL o.held ov sv), .row TI' 1 ov o.opn.length (intsC (opnI o.opn)), .row TSe 5 sv o.out.length (secsC o.out)]
def ownC (g : Nat) (o : OW) : Ch := .ex fun v : Value × Value => .stars (ownCs g o v.1 v.2)

/-- An element's cell of an owned row is written. -/
theorem own_setInN {w : World} {T : TypeId} {sz n : Nat} {v : Value} {xs : List Value} (h : Own w T sz v n xs) {g : Nat} (hg : v.ownBlock = some g) (j : Nat) (u : Value) : Own (w.setCell ⟨g, j, none⟩ u) T sz v n (xs.set j u) := by
  obtain ⟨h1, h2⟩ := h
  refine ⟨by simp [h1], ?_⟩
  rcases h2 with ⟨rfl, _⟩ | ⟨g', cap, cur, rfl, hb, hh, hn, hm, hs, ht⟩
  · cases hg
  · obtain rfl : g' = g := by simpa [Value.ownBlock] using hg
    refine .inr ⟨g', cap, cur.setIfInBounds j u, rfl, hb, ?_, hn, hm, by simp [hs], ?_⟩
    · have hB : Blk w g' T cur.toList := by unfold Blk; simpa using hh
      have := hB.set j u
      unfold Blk at this
      rw [this]; simp [← List.setIfInBounds_toArray]
    · rw [← ht]; simp [List.take_set]
theorem st_setRowN {F0 : Nat → Prop} {w0 w : World} {cs : List Ch} (i : Nat) {T : TypeId} {sz n g : Nat} {v : Value} {xs : List Value} (hS : St F0 w0 cs w) (hg : v.ownBlock = some g) (j : Nat) (u : Value) (hi : cs.getD i .emp = .row T sz v n xs := by rfl) : St F0 w0 (cs.set i (.row T sz v n (xs.set j u))) (w.setCell ⟨g, j, none⟩ u) :=
  hS.turn i hi fun F h => ⟨F, ⟨own_setInN h.1 hg j u, h.2⟩, (Keeps.refl F w).setCell (.inl ((h.2 g).2 hg)) u, fun _ => .inl⟩
theorem id_cases (ts : List Task) (id : Int) : (id < 0 ∨ (ts.length : Int) ≤ id) ∨ ∃ (i : Nat) (t : Task), id = i ∧ ts[i]? = some t := by
  by_cases h0 : id < 0
  · exact .inl (.inl h0)
  · by_cases h1 : (ts.length : Int) ≤ id
    · exact .inl (.inr h1)
    · obtain ⟨i, rfl⟩ := Int.eq_ofNat_of_zero_le (show 0 ≤ id by omega)
      exact .inr ⟨i, ts[i], rfl, List.getElem?_eq_getElem (by omega)⟩
theorem out_none {ts : List Task} {id : Int} (h : id < 0 ∨ (ts.length : Int) ≤ id) : taskI ts id = none := by
  unfold taskI
  split
  · rfl
  · rename_i h0
    exact List.getElem?_eq_none (by omega)
theorem in_some {ts : List Task} {i : Nat} {t : Task} (h : ts[i]? = some t) : taskI ts i = some t := by
  unfold taskI
  rw [if_neg (by omega), Int.toNat_natCast, h]
section
variable {w : World} {p : Nat} {m : TM} {x : TabX}
set_option maxRecDepth 100000 in
set_option maxHeartbeats 2000000 in
theorem cost_any (h : TabAt w p m x) (id : Int) : Calls Tryz.prog 32 #[.pointer (some ⟨p, 0, none⟩), .int .i64 id] w fun e w' => e = .returned (.int .i64 (cost m.ts id)) ∧ Keeps (fun _ => False) w w' := by
  rcases id_cases m.ts id with ho | ⟨i, t, rfl, ht⟩
  · have HS := hid (tsteps_out h id ho)
    have e : cost m.ts id = 0 := by
      have := out_none ho
      unfold taskI at this
      unfold cost
      split
      · rfl
      · rename_i h0
        rw [if_neg h0] at this
        rw [this]
    rw [e]
    clear h e ho
    go_enter Tryz.func32, Tryz.ntmps32
    go_wp2_with fail
    refine HS.out.mono ?_; rintro e w1 ⟨rfl, k1⟩
    go_wp2_with fail
    go_ret
    exact ⟨rfl, k1⟩
  · have HS := hid (tsteps_in h ht (Cm.prog_le _))
    have e : cost m.ts i = (prog t).1.length := by
      unfold cost
      rw [if_neg (by omega), Int.toNat_natCast, ht]
    rw [e]
    generalize (prog t).1 = P at *
    clear h e ht
    go_enter Tryz.func32, Tryz.ntmps32
    go_wp2_with fail
    refine HS.out.mono ?_; rintro e w1 ⟨g, rfl, hS⟩
    go_wp2_with fail
    go_ret
    exact ⟨rfl, hS.keeps⟩
set_option maxRecDepth 100000 in
theorem cost_nil (w : World) (id : Int) : Calls Tryz.prog 32 #[.pointer none, .int .i64 id] w fun e w' => e = .returned (.int .i64 0) ∧ Keeps (fun _ => False) w w' := by
  go_enter Tryz.func32, Tryz.ntmps32
  go_wp2_with fail
  go_ret
  exact ⟨rfl, Keeps.refl _ _⟩
end
end Go.Proofs.YtnkjjhenfhnajaaGreatDoor

/-
  Package admit, walked: the end of a section.
-/
namespace Go.Proofs.YtnkjjhenfhnajaaGreatDoor
open Go.RowKit Go.Kw Go.Kreg Go.Tm Go.Ad
set_option linter.unusedSimpArgs false
set_option linter.unusedVariables false

abbrev TA16 : Nat := 158
theorem run_idxA (w : World) (g o : Nat) {j : Nat} (hj : j < 16) : (Instr.indexAt TA16 (.pointer (some ⟨g, o, none⟩)) (.int .i64 j)).run Tryz.prog w = .ok (.pointer (some ⟨g, o + j, none⟩)) w := by
  have hal : Tryz.prog.arrayLen TA16 = 16 := by kernel_rfl
  have hel : Tryz.prog.elem TA16 = 3 := by kernel_rfl
  have hz : (Go.sizeOf 3).run Tryz.prog w = .ok 1 w := by
    have hi : (Tryz.prog.info? 3).map (·.size) = some 1 := by kernel_rfl
    cases hq : Tryz.prog.info? 3 with
    | none => simp [hq] at hi
    | some i =>
      simp only [hq, Option.map_some, Option.some.injEq] at hi
      simp [sizeOf, typeInfo, hq, hi]
  rw [run_indexAt_array w TA16 _ _ _ (by kernel_rfl), hal, hel, if_pos ⟨by omega, by omega⟩, hz]
  simp [Result.andThen, add_at]
theorem wpFront_idxA {ops : Array Oper} {C : World → Prop} {Lq : Act → Prop} {a : Act} {o : Oper} {rest : List Oper} {x ix : Operand} {g f j : Nat}
    (hgd : o.guard = none) (ho : o.op = .indexAddr TA16 x ix) (hx : a.eval x = .pointer (some ⟨g, f, none⟩)) (hix : a.eval ix = .int .i64 j) (hj : j < 16)
    (h : wpFront Tryz.prog ops C Lq rest (a.put o.dst (.pointer (some ⟨g, f + j, none⟩)))) : wpFront Tryz.prog ops C Lq (o :: rest) a := by
  refine wpFront_other (by rw [ho]; rfl) ?_
  refine wpQuiet_step fun K hK => ?_
  have hw : Region.wanted o (yielded ops a.tmps) = true := by unfold Region.wanted; rw [hgd]
  rw [if_pos hw]
  refine ⟨.pointer (some ⟨g, f + j, none⟩), fun w' hw' => ?_, hK _ h⟩
  unfold Oper.quietAt
  simp [execOp, ho, hx, hix, run_idxA w' g f hj, Oper.quietUpon, Result.andThen]
theorem wpList_idxA {ops : Array Oper} {w : World} {Q : Exit → Act → World → Prop} {a : Act} {o : Oper} {rest : List Oper} {x ix : Operand} {g f j : Nat}
    (hgd : o.guard = none) (ho : o.op = .indexAddr TA16 x ix) (hx : a.eval x = .pointer (some ⟨g, f, none⟩)) (hix : a.eval ix = .int .i64 j) (hj : j < 16)
    (h : wpList Tryz.prog ops Q rest (a.put o.dst (.pointer (some ⟨g, f + j, none⟩))) w) : wpList Tryz.prog ops Q (o :: rest) a w := by
  refine wpList_plain hgd fun K hK => ?_
  unfold Oper.wp execOp
  simp only [ho, hx, hix, Sem.run_bind, Sem.run_pure, Result.andThen_ok, run_idxA w g f hj]
  exact hK _ _ h
theorem wpKeep_idxA {ops : Array Oper} {C : World → Prop} {Lq : Act → Prop} {a : Act} {o : Oper} {rest : List Oper} {x ix : Operand} {g f j : Nat}
    (hgd : o.guard = none) (ho : o.op = .indexAddr TA16 x ix) (hx : a.eval x = .pointer (some ⟨g, f, none⟩)) (hix : a.eval ix = .int .i64 j) (hj : j < 16)
    (h : wpQuiet Tryz.prog ops C Lq rest (a.put o.dst (.pointer (some ⟨g, f + j, none⟩)))) : wpQuiet Tryz.prog ops C Lq (o :: rest) a := by
  refine wpQuiet_step fun K hK => ?_
  have hw : Region.wanted o (yielded ops a.tmps) = true := by unfold Region.wanted; rw [hgd]
  rw [if_pos hw]
  refine ⟨.pointer (some ⟨g, f + j, none⟩), fun w' hw' => ?_, hK _ h⟩
  unfold Oper.quietAt
  simp [execOp, ho, hx, hix, run_idxA w' g f hj, Oper.quietUpon, Result.andThen]
theorem intsC_take (l : List Int) (n : Nat) : (intsC l).take n = intsC (l.take n) := by simp [intsC, List.map_take]
section
variable {w : World} {F : Nat → Prop} {g : Nat} {o : OW} {ov sv : Value} {nd : Int → Int} {l : List Cm.Op} {t b : Nat}
theorem heldOf_bd (hi : Inv nd l t b o) (hn : ∀ r, nd r ≤ 255) (ht : t ≤ 5000) {r : Int} (h0 : 0 ≤ r) (h1 : r < 16) : 0 ≤ o.heldOf r ∧ o.heldOf r ≤ 1275000 := by
  refine ⟨hi.nneg h0 h1, ?_⟩
  have h2 := openSum_le hi.each hn r hi.lt
  have h3 := hi.opn_le
  have h4 := hi.few
  rw [hi.held r h0 h1]; omega
set_option maxRecDepth 100000 in
set_option maxHeartbeats 4000000 in
theorem end_any (hi : Inv nd l t b o) (hn : ∀ r, nd r ≤ 255) (ht : t ≤ 5000) (H : Sts (ownCs g o ov sv) F w) {k : Nat} {r : List Nat} (he : o.opn = k :: r) (at_ : Nat) :
    Calls Tryz.prog 96 #[.pointer (some ⟨g, 0, none⟩), .int .i64 at_] w fun e w' => e = .returned (.tuple #[]) ∧ ∃ ov', St F w (ownCs g (o.endOne at_) ov' sv) w' := by
  have hk : k < o.out.length := hi.lt k (by rw [he]; simp)
  have hs := sec_at hk
  have hnew : o.endOne at_ = ⟨o.held.set (o.sec k).res.toNat (o.heldOf (o.sec k).res - (o.sec k).units), r, o.out.set k ⟨(o.sec k).res, (o.sec k).units, (o.sec k).held, (o.sec k).frm, at_⟩⟩ := by
    unfold OW.endOne; rw [he]
  obtain ⟨hok, -⟩ := hi.each k _ hs
  have hres := hok.res
  have hun := hok.units
  have hhd := hok.held
  have hnn := hn (o.sec k).res
  obtain ⟨hb0, hb1⟩ := heldOf_bd hi hn ht hres.1 hres.2
  have hl := hi.hl
  have hfew := hi.few
  have hol := hi.opn_le
  unfold OW.heldOf at hb0 hb1 hnew
  generalize o.sec k = s at *
  obtain ⟨q, hq⟩ := Int.eq_ofNat_of_zero_le hres.1
  rw [hq, Int.toNat_natCast] at hb0 hb1 hnew
  have q16 : q < 16 := by omega
  rw [hnew]
  obtain ⟨o2, ho2⟩ : ∃ o2 : List Sec, o.out.set k ⟨(q : Int), s.units, s.held, s.frm, at_⟩ = o2 := ⟨_, rfl⟩
  rw [ho2]
  have Hk2 := hid (show o2[k]? = some ⟨(q : Int), s.units, s.held, s.frm, at_⟩ by rw [← ho2, List.getElem?_set, if_pos rfl, if_pos hk])
  have Hset := hid (show (secsC o.out).set (k * 5 + 4) (.int .i64 at_) = secsC o2 by rw [secsC_set hs, hq, ho2])
  have Hlen := hid (show o.out.length = o2.length by rw [← ho2, List.length_set])
  have hS := St.of H
  unfold ownCs at hS
  rw [he] at hS
  obtain ⟨gs, cs, rfl, -⟩ := (hS.own 2).form (by omega)
  obtain ⟨go, co, rfl, -⟩ := (hS.own 1).form (by simp)
  have hco : r.length + 1 ≤ co := by
    obtain ⟨a, c, e, h⟩ := (hS.own 1).shape
    injection e with _ _ e3
    rw [e3]; exact h
  have hlen : (k :: r).length = r.length + 1 := rfl
  have hrl : r.length + 1 ≤ 5000 := by
    have h1 : o.opn.length = r.length + 1 := by rw [he]; rfl
    omega
  have c16 := (hS.blk 0).at (ownL_ov hl)
  have c17 := (hS.blk 0).at (ownL_sv hl)
  have cq := (hS.blk 0).at (ownL_held (ov := .slice (some ⟨go, 0, none⟩) (k :: r).length co) (sv := .slice (some ⟨gs, 0, none⟩) o.out.length cs) hl q16)
  have ck := (hS.own 1).cells' (g := go) rfl (intsC_at (opnI_top k r))
  obtain ⟨e0, e1, -, -, e4⟩ := secsC_at hs
  have s0 := (hS.own 2).cells' (g := gs) rfl e0
  have s1 := (hS.own 2).cells' (g := gs) rfl e1
  have s4 := (hS.own 2).cells' (g := gs) rfl e4
  have sz := (hS.own 2).fz (g := gs) rfl (k * 5 + 4)
  have s4z := (hS.own 2).fz (g := gs) rfl (k * 5 + 4)
  rw [hlen] at *
  have HS := hid hS
  have Hs := hid hs
  have Hq := hid hq
  generalize hHQ : o.held.getD q 0 = HQ at *
  rw [hq] at s0
  clear H hS he hnew hs e0 e1 e4 hq hok ho2 sz
  go_enter Tryz.func96, Tryz.ntmps96
  have i0 : (0 : Int) ≤ (r.length : Int) := by omega
  have i1 : (r.length : Int) < (r.length : Int) + 1 := by omega
  have j0 : (0 : Int) ≤ (k : Int) := by omega
  have j1 : (k : Int) < (o.out.length : Int) := by omega
  go_wp2_with fail
  refine wp_region_mix [true, true, true, true, true, true, true, true, true, true, true, true, true, true, true, true, true, false] 0 (fun _ => False) (by kernel_rfl) (by decide +kernel) ?_
  simp only [front, back, List.take_zero, List.drop_zero]
  repeat ((first | refine wpFront_load rfl ?_ | refine wpFront_other rfl ?_); (first | go_big_quiet_step (fail) | quiet_step (fail)); refine wpQuiet_nil ?_)
  refine wpFront_nil ?_
  simp only [wpSegs]
  go_wp2_with fail
  refine NoPanic.normal ?_
  go_wp2_with fail
  have hS2 := (st_setRowN 2 HS.out (v := .slice (some ⟨gs, 0, none⟩) o.out.length cs) rfl (k * 5 + 4) (.int .i64 at_)).drew
  simp only [Kw.red] at hS2
  rw [Hset.out] at hS2
  obtain ⟨e0, e1, -⟩ := secsC_at Hk2.out
  simp only at e0 e1
  generalize hw2 : (w.setCell ⟨gs, k * 5 + 4, none⟩ (.int .i64 at_)).drew = w2 at *
  have s0 := (hS2.own 2).cells' (g := gs) rfl e0
  have s1 := (hS2.own 2).cells' (g := gs) rfl e1
  have cq := (hS2.blk 0).at (ownL_held (ov := .slice (some ⟨go, 0, none⟩) (r.length + 1) co) (sv := .slice (some ⟨gs, 0, none⟩) o.out.length cs) hl q16)
  have cz := (hS2.blk 0).fz q
  rw [hHQ] at cq
  have HS2 := hid hS2
  clear hS2 hw2 e0 e1
  refine wp_region_mix [true, true, true, true, true, true, true, true, true, true, true, true, true, true, true, true, false, false] 0 (fun _ => False) (by kernel_rfl) (by decide +kernel) ?_
  simp only [front, back, List.take_zero, List.drop_zero]
  repeat (first | (refine wpFront_idxA (g := g) (f := 0) (j := q) rfl rfl rfl rfl q16 ?_) | ((first | refine wpFront_load rfl ?_ | refine wpFront_other rfl ?_); (first | go_big_quiet_step (fail) | quiet_step (fail)); refine wpQuiet_nil ?_))
  refine wpFront_nil ?_
  simp only [wpSegs]
  go_wp2_with (refine wpList_idxA (g := g) (f := 0) (j := q) rfl rfl rfl rfl q16 ?_)
  refine NoPanic.normal ?_
  go_wp2_with fail
  have hS3 := (HS2.out.set 0 q (.int .i64 (HQ - s.units))).drew
  simp only [Kw.red] at hS3
  rw [ownL_setH hl q16] at hS3
  generalize (w2.setCell ⟨g, q, none⟩ (.int .i64 (HQ - s.units))).drew = w3 at *
  have hl3 : (o.held.set q (HQ - s.units)).length = 16 := by rw [List.length_set]; exact hl
  have c16 := (hS3.blk 0).at (ownL_ov hl3)
  have z3 := (hS3.blk 0).fz
  have t4 : (r.length : Int) ≤ (co : Int) := by have h := hco; omega
  have HS3 := hid hS3
  have Hl3 := hid hl3
  clear hS3 HS2 hl3 cq cz
  refine wp_region_mix [true, true, true, true, true, true, true, true, true, true, true, true, false, false, false] 0 (fun _ => False) (by kernel_rfl) (by decide +kernel) ?_
  simp only [front, back, List.take_zero, List.drop_zero]
  repeat ((first | refine wpFront_load rfl ?_ | refine wpFront_other rfl ?_); (first | go_big_quiet_step (fail) | quiet_step (fail)); refine wpQuiet_nil ?_)
  refine wpFront_nil ?_
  simp only [wpSegs]
  go_wp2_with fail
  refine NoPanic.normal ?_
  go_wp2_with fail
  go_end0
  refine ⟨rfl, .slice (some ⟨go, 0, none⟩) r.length co, ?_⟩
  have hS4 := (HS3.out.set 0 16 (.slice (some ⟨go, 0, none⟩) r.length co)).drew
  simp only [Kw.red] at hS4
  rw [ownL_setO Hl3.out] at hS4
  have hS5 := hS4.imp 1 (c := .row TI' 1 (.slice (some ⟨go, 0, none⟩) (r.length + 1) co) (r.length + 1) (intsC (opnI (k :: r)))) (.row TI' 1 (.slice (some ⟨go, 0, none⟩) r.length co) r.length (intsC (opnI r))) (fun F h => ⟨by
    have h5 := h.1.shorter r.length (by omega)
    rw [Nat.mul_one, intsC_take, opnI_take] at h5
    exact h5, h.2⟩)
  simp only [Kw.red] at hS5
  unfold ownCs
  rw [Hlen.out] at hS5 ⊢
  exact hS5
end
end Go.Proofs.YtnkjjhenfhnajaaGreatDoor

/-
  admit.Sections, walked.
-/
namespace Go.Proofs.YtnkjjhenfhnajaaGreatDoor
open Go.RowKit Go.Kw Go.Kreg Go.Tm Go.Ad
set_option linter.unusedSimpArgs false
set_option linter.unusedVariables false

abbrev zOwn : List Value := [.int .i64 0, .int .i64 0, .int .i64 0, .int .i64 0, .int .i64 0, .int .i64 0, .int .i64 0, .int .i64 0, .int .i64 0, .int .i64 0, .int .i64 0, .int .i64 0, .int .i64 0, .int .i64 0, .int .i64 0, .int .i64 0, .slice none 0 0, .slice none 0 0]
abbrev TSes : Nat := 61
theorem own_zero {w w0 : World} {F0 : Nat → Prop} {sg g : Nat} {l : List Value} (hS : St F0 w0 [.pt sg TOp l, .pt g TOw zOwn] w) : St F0 w0 [.pt sg TOp l, ownC g zeroO] w := by
  have hS3 := hS.add (Keeps.refl (fun _ => False) _) (G := fun _ => False) (c := .row TI' 1 (.slice none 0 0) 0 (intsC (opnI []))) ⟨⟨rfl, .inl ⟨rfl, rfl⟩⟩, fun b => by simp [Value.ownBlock]⟩ (fun _ h => h.elim)
  have hS4 := hS3.add (Keeps.refl (fun _ => False) _) (G := fun _ => False) (c := .row TSe 5 (.slice none 0 0) 0 (secsC [])) ⟨⟨rfl, .inl ⟨rfl, rfl⟩⟩, fun b => by simp [Value.ownBlock]⟩ (fun _ h => h.elim)
  exact (hS4.fold [1, 2, 3] (ownC g zeroO) (fun F h => ⟨(.slice none 0 0, .slice none 0 0), h⟩)).sub [0, 1]
theorem own_fold {w w0 : World} {F0 : Nat → Prop} {sg g : Nat} {l : List Value} {o : OW} {ov sv : Value} (hS : St F0 w0 [.pt sg TOp l, .pt g TOw (ownL o.held ov sv), .row TI' 1 ov o.opn.length (intsC (opnI o.opn)), .row TSe 5 sv o.out.length (secsC o.out)] w) : St F0 w0 [.pt sg TOp l, ownC g o] w :=
  (hS.fold [1, 2, 3] (ownC g o) (fun F h => ⟨(ov, sv), h⟩)).sub [0, 1]
theorem own_open {w w0 : World} {F0 : Nat → Prop} {sg g : Nat} {l : List Value} {o : OW} (hS : St F0 w0 [.pt sg TOp l, ownC g o] w) : ∃ ov sv, St F0 w0 [.pt sg TOp l, .pt g TOw (ownL o.held ov sv), .row TI' 1 ov o.opn.length (intsC (opnI o.opn)), .row TSe 5 sv o.out.length (secsC o.out)] w := by
  obtain ⟨⟨ov, sv⟩, hS⟩ := hS.opens 1 (fun v : Value × Value => ownCs g o v.1 v.2) (fun F h => h)
  exact ⟨ov, sv, hS.sub [0, 2, 3, 4]⟩
theorem own_open3 {w w0 : World} {F0 : Nat → Prop} {sg g : Nat} {l : List Value} {o : OW} {c : Ch} (hS : St F0 w0 [.pt sg TOp l, ownC g o, c] w) : ∃ ov sv, St F0 w0 [.pt sg TOp l, .pt g TOw (ownL o.held ov sv), .row TI' 1 ov o.opn.length (intsC (opnI o.opn)), .row TSe 5 sv o.out.length (secsC o.out), c] w := by
  obtain ⟨⟨ov, sv⟩, hS⟩ := hS.opens 1 (fun v : Value × Value => ownCs g o v.1 v.2) (fun F h => h)
  exact ⟨ov, sv, hS.sub [0, 3, 4, 5, 2]⟩
theorem end_st {w w0 : World} {F0 : Nat → Prop} {sg g : Nat} {lv : List Value} {o : OW} {nd : Int → Int} {l : List Cm.Op} {t b : Nat} (hi : Inv nd l t b o) (hn : ∀ r, nd r ≤ 255) (ht : t ≤ 5000) (hS : St F0 w0 [.pt sg TOp lv, ownC g o] w) (he : o.opn ≠ []) (at_ : Nat) :
    Calls Tryz.prog 96 #[.pointer (some ⟨g, 0, none⟩), .int .i64 at_] w fun e w' => e = .returned (.tuple #[]) ∧ St F0 w0 [.pt sg TOp lv, ownC g (o.endOne at_)] w' := by
  obtain ⟨ov, sv, hS⟩ := own_open hS
  obtain ⟨F1, h1, _, _, back⟩ := hS.sel [1, 2, 3]
  have h1' : Sts (ownCs g o ov sv) F1 w := h1
  cases hq : o.opn with
  | nil => exact absurd hq he
  | cons k r =>
    refine (end_any hi hn ht h1' hq at_).mono ?_
    rintro e w' ⟨rfl, ov', hS'⟩
    exact ⟨rfl, own_fold (back hS')⟩
/-- How long the list of open sections is, as memory tells. -/
def opnLen (w : World) (g : Nat) : Nat := match w.cell? ⟨g, 16, none⟩ with | some (.slice _ n _) => n | _ => 0
theorem opn_len {w w0 : World} {F0 : Nat → Prop} {sg g : Nat} {lv : List Value} {o : OW} (hl : o.held.length = 16) (hS : St F0 w0 [.pt sg TOp lv, ownC g o] w) : opnLen w g = o.opn.length ∧ ∃ a c, w.cell? ⟨g, 16, none⟩ = some (.slice a o.opn.length c) := by
  obtain ⟨ov, sv, hS⟩ := own_open hS
  have c16 := (hS.blk 1).at (ownL_ov hl)
  obtain ⟨a, c, rfl, -⟩ := (hS.own 2).shape
  unfold opnLen
  rw [c16]
  exact ⟨rfl, a, c, rfl⟩
theorem Vec.clip {w : World} {T : TypeId} {sz n c : Nat} {a : Option Addr} {xs : List Value} (h : Own w T sz (.slice a n c) n xs) : Vec w T sz (.slice a n n) n xs := by
  obtain ⟨h1, h2⟩ := h
  refine ⟨h1, ?_⟩
  rcases h2 with ⟨e, rfl⟩ | ⟨g, cap, cur, e, _, hh, hn, hm, hs, ht⟩
  · cases e; exact .inl ⟨rfl, rfl⟩
  · cases e
    exact .inr ⟨g, n, cur, rfl, hh, Nat.le_refl _, by omega, .inr ⟨rfl, by rw [hs]; exact Nat.mul_le_mul_right _ hn⟩, ht⟩
section
variable {w : World} {p : Nat} {m : TM} {x : TabX}
theorem secs_eq {ts : List Task} {i : Nat} {t : Task} (ht : ts[i]? = some t) : secsI ts i = sections (needOf t.needs) (prog t).1 := by
  unfold secsI secsAt
  rw [if_neg (by omega), Int.toNat_natCast, ht]; rfl
theorem secs_no {ts : List Task} {id : Int} (h : id < 0 ∨ (ts.length : Int) ≤ id) : secsI ts id = [] := by
  unfold secsI secsAt
  by_cases h0 : id < 0
  · rw [if_pos h0]
  · rw [if_neg h0, List.getElem?_eq_none (by omega)]
set_option maxRecDepth 100000 in
theorem sections_nil (w : World) (id : Int) : Calls Tryz.prog 27 #[.pointer none, .int .i64 id] w fun e w' => e = .returned (.slice none 0 0) ∧ Keeps (fun _ => False) w w' := by
  go_enter Tryz.func27, Tryz.ntmps27
  go_wp2_with fail
  go_ret
  exact ⟨rfl, Keeps.refl _ _⟩
set_option maxRecDepth 100000 in
set_option maxHeartbeats 2000000 in
theorem sections_out (h : TabAt w p m x) (id : Int) (ho : id < 0 ∨ (m.ts.length : Int) ≤ id) : Calls Tryz.prog 27 #[.pointer (some ⟨p, 0, none⟩), .int .i64 id] w fun e w' => e = .returned (.slice none 0 0) ∧ Keeps (fun _ => False) w w' := by
  have HT := hid (tsteps_out h id ho)
  clear h ho
  go_enter Tryz.func27, Tryz.ntmps27
  go_wp2_with fail
  refine HT.out.mono ?_; rintro e w1 ⟨rfl, k1⟩
  have HS := hid ((St.start w).step k1)
  have HS1 := hid (HS.out.new TOw zOwn)
  clear HS k1 HT
  go_wp2_with fail
  go_loopw [23] (fun y wr => y = .int .i64 0 ∧ St (fun _ => False) w [.pt w1.heap.size TOw zOwn] wr) (fun y _ => 0)
  case atStart => exact ⟨rfl, HS1.out⟩
  case round =>
    obtain ⟨rfl, hS⟩ := hrel
    have c17 := (hS.blk 0).cell 17
    simp only [List.getElem?_cons_succ, List.getElem?_cons_zero] at c17
    have HS2 := hid hS
    clear hS HS1
    go_wp2_with fail
    refine wp_region_mix [true, true, true, true, true, true, true, true, true, true, true, true, true, true, true, false] 0 (fun _ => False) (by kernel_rfl) (by decide +kernel) ?_
    simp only [front, back, List.take_zero, List.drop_zero]
    repeat ((first | refine wpFront_load rfl ?_ | refine wpFront_other rfl ?_); (first | go_big_quiet_step (fail) | quiet_step (fail)); refine wpQuiet_nil ?_)
    refine wpFront_nil ?_
    simp only [wpSegs]
    go_wp2_with fail
    refine NoPanic.normal ?_
    go_wp2_with fail
    go_ret
    exact ⟨rfl, HS2.out.keeps.drew⟩
set_option maxRecDepth 100000 in
set_option maxHeartbeats 8000000 in
theorem sections_in (h : TabAt w p m x) {i : Nat} {t : Task} (ht : m.ts[i]? = some t) : Calls Tryz.prog 27 #[.pointer (some ⟨p, 0, none⟩), .int .i64 i] w fun e w' => ∃ v, e = .returned v ∧ St (fun _ => False) w [.vec TSe 5 v (secsOf t).length (secsC (secsOf t))] w' := by
  have hmem := List.mem_of_getElem? ht
  have hfit := h.tok.ok.fit t hmem
  have hnd : ∀ r, needOf t.needs r ≤ 255 := fun r => (need_255 h.tok.ok hmem r).2
  obtain ⟨Q, lo, hPe, -, -, hst⟩ := Cm.program_sound hfit.code
  have hle : (prog t).1.length ≤ 4096 := Cm.prog_le _
  have hPs : ∀ y ∈ (prog t).1, Cm.StepOk y := by
    have e : (prog t).1 = Q ++ [lo] := hPe
    rw [e]; exact hst
  have HT := hid (tsteps_in h ht hle)
  have hneed : ∀ (w9 : World) (r : Int), Keeps (fun _ => False) w w9 → Calls Tryz.prog 71 #[.pointer (some ⟨p, 0, none⟩), .int .i64 i, .int .i64 r] w9 fun e w' => e = .returned (.int .i64 (needOf t.needs r)) ∧ Keeps (fun _ => False) w9 w' := fun w9 r k => by
    have := need_any (h.keeps k) i r
    rw [show Tm.need m.ts i r = needOf t.needs r by unfold Tm.need; rw [if_neg (by omega), Int.toNat_natCast, ht]] at this
    exact this
  unfold secsOf sections
  generalize (prog t).1 = P at *
  generalize needOf t.needs = nd at *
  obtain ⟨oE, hoE⟩ : ∃ o, runS nd P 0 zeroO = o := ⟨_, rfl⟩
  rw [hoE]
  have HoE := hid hoE
  have HN := hid hneed
  have HPs := hid hPs
  have Hnd := hid hnd
  clear h ht hmem hfit hPe hst hneed hPs hnd hoE
  go_enter Tryz.func27, Tryz.ntmps27
  go_wp2_with fail
  refine HT.out.mono ?_; rintro e w1 ⟨sg, rfl, hS⟩
  have hS1 := hS.new TOw zOwn
  have HS1 := hid (own_zero hS1)
  clear hS hS1 HT
  go_wp2_with fail
  generalize w1.heap.size = g at *
  go_loopw [23] (fun y wr => ∃ k : Nat, k ≤ P.length ∧ y = .int .i64 k ∧ St (fun _ => False) w [.pt sg TOp (opsC P), ownC g (runS nd (P.take k) 0 zeroO)] wr) (fun y _ => P.length - (intOf y).toNat)
  case atStart => exact ⟨0, Nat.zero_le _, rfl, HS1.out⟩
  case round =>
    clear HS1
    obtain ⟨k, hk, rfl, hS⟩ := hrel
    have hI := inv_take (nd := nd) HPs.out k hk
    by_cases hlt : k < P.length
    · have a1 : decide (k < P.length) = true := by simpa using hlt
      have hx := List.getElem?_eq_getElem hlt
      have hso := HPs.out _ (List.getElem_mem hlt)
      have hstep := runS_take (nd := nd) hx zeroO
      generalize runS nd (P.take k) 0 zeroO = o at *
      obtain ⟨e0, e1, e2, e3⟩ := opsC_at hx
      generalize P[k] = x at *
      have d0 := (hS.blk 0).at e0
      have d1 := (hS.blk 0).at e1
      have d2 := (hS.blk 0).at e2
      have d3 := (hS.blk 0).at e3
      have i0 : (0 : Int) ≤ (k : Int) := by omega
      have i1 : (k : Int) < (P.length : Int) := by omega
      have hl := hI.hl
      have HI := hid hI
      have Hx := hid hx
      have Hso := hid hso
      have Hstep := hid hstep
      have HSr := hid hS
      clear e0 e1 e2 e3 hS hI hx hso hstep
      have hSx := HSr.out.new TOp [.int .i64 x.kind, .int .i64 x.res, .int .i64 x.n, .int .i64 x.v]
      simp only [Kw.red] at hSx
      have HSx := hid hSx
      clear hSx
      by_cases hk1 : x.kind = 1
      · have b1 : (x.kind == 1) = true := by simpa using hk1
        obtain ⟨q, hq⟩ := Int.eq_ofNat_of_zero_le Hso.out.res.1
        have q16 : q < 16 := by have := Hso.out.res.2; omega
        obtain ⟨hb0, hb1⟩ := heldOf_bd HI.out Hnd.out (by omega) Hso.out.res.1 Hso.out.res.2
        have hn1 := Hso.out.lock hk1
        have hn2 := Hso.out.n
        have hst : stepS nd k x o = if o.heldOf x.res + x.n ≤ nd x.res then o.lock k x else o := by unfold stepS; rw [if_pos hk1]
        have hlk : o.lock k x = ⟨o.held.set q (o.held.getD q 0 + x.n), o.out.length :: o.opn, o.out ++ [⟨(q : Int), x.n, o.held.getD q 0 + x.n, k, 0⟩]⟩ := by
          unfold OW.lock OW.heldOf; rw [hq, Int.toNat_natCast]
        rw [hst, hlk] at Hstep
        unfold OW.heldOf at Hstep hb0 hb1
        rw [hq, Int.toNat_natCast] at Hstep hb0 hb1
        rw [hq] at d1 HSx
        obtain ⟨ov, sv, hSo⟩ := own_open3 HSx.out
        obtain ⟨va, vc, rfl, -⟩ := (hSo.own 2).shape
        obtain ⟨sa, sc, rfl, -⟩ := (hSo.own 3).shape
        have cq := (hSo.blk 1).at (ownL_held (ov := .slice va o.opn.length vc) (sv := .slice sa o.out.length sc) hl q16)
        have x1 := (hSo.blk 4).cell 1
        have x2 := (hSo.blk 4).cell 2
        simp only [List.getElem?_cons_zero, List.getElem?_cons_succ] at x1 x2
        have HNq := hid (fun w9 (k9 : Keeps (fun _ => False) (wr.alloc (.cells #[.int .i64 x.kind, .int .i64 (q : Int), .int .i64 x.n, .int .i64 x.v] TOp)) w9) => HN.out w9 q (HSx.out.keeps.trans k9))
        have HSo := hid hSo
        obtain ⟨ND, hND⟩ : ∃ ND, nd q = ND := ⟨_, rfl⟩
        rw [hND] at HNq Hstep
        generalize hHQ : o.held.getD q 0 = HQ at *
        have hop := HI.out.opn_le
        have hfew := HI.out.few
        have hl1 : (o.held.set q (HQ + x.n)).length = 16 := by rw [List.length_set]; exact hl
        have Hl1 := hid hl1
        clear hst hlk hSo hk1 hND HSx hl1
        go_wp2_with fail
        generalize wr.alloc (.cells #[.int .i64 x.kind, .int .i64 (q : Int), .int .i64 x.n, .int .i64 x.v] TOp) = wx at *
        generalize wr.heap.size = xb at *
        by_cases hf : HQ + x.n ≤ ND
        · have bf : decide (HQ + x.n ≤ ND) = true := by simpa using hf
          rw [if_pos hf] at Hstep
          clear hf
          refine wp_region_keep (by kernel_rfl) (by kernel_rfl) ?_
          repeat (first | go_big_quiet_skip | (refine wpKeep_idxA (g := g) (f := 0) (j := q) rfl rfl rfl rfl q16 ?_) | ((first | refine wpKeep_load rfl ?_ | refine wpKeep_other rfl ?_); (first | go_big_quiet_step (fail) | quiet_step (fail)); refine wpQuiet_nil ?_; refine Shut.mk ?_) | (refine wpQuiet_step (fun K hK => ?_); go_simp; first | (refine hK _ ?_; clear hK K) | (apply Exists.intro; refine ⟨fun w9 k9 => ?_, hK _ ?_⟩; (exact (HNq.out w9 k9).mono fun e w' h => ⟨h.1, k9.trans h.2⟩); clear hK K)))
          refine wpQuiet_nil ?_
          intro w9 k9
          have HS1 := hid (HSo.out.step k9)
          have cq := cellIn k9 cq
          have x1 := cellIn k9 x1
          have x2 := cellIn k9 x2
          have cz := (HS1.out.blk 1).fz q
          clear HNq HSo k9
          go_wp2_with fail
          refine wp_region_mix [true, true, true, true, true, true, true, true, true, true, true, true, false, false] 0 (fun _ => False) (by kernel_rfl) (by decide +kernel) ?_
          simp only [front, back, List.take_zero, List.drop_zero]
          repeat (first | (refine wpFront_idxA (g := g) (f := 0) (j := q) rfl rfl rfl rfl q16 ?_) | ((first | refine wpFront_load rfl ?_ | refine wpFront_other rfl ?_); (first | go_big_quiet_step (fail) | quiet_step (fail)); refine wpQuiet_nil ?_))
          refine wpFront_nil ?_
          simp only [wpSegs]
          go_wp2_with (refine wpList_idxA (g := g) (f := 0) (j := q) rfl rfl rfl rfl q16 ?_)
          refine NoPanic.normal ?_
          have hS2 := (HS1.out.set 1 q (.int .i64 (HQ + x.n))).drew
          simp only [Kw.red] at hS2
          rw [ownL_setH hl q16] at hS2
          go_wp2_with fail
          generalize (w9.setCell ⟨g, q, none⟩ (.int .i64 (HQ + x.n))).drew = w2 at *
          have c16 := (hS2.blk 1).at (ownL_ov Hl1.out)
          have c17 := (hS2.blk 1).at (ownL_sv Hl1.out)
          have HS2 := hid hS2
          clear hS2 HS1 cq x1 x2 cz
          refine wp_region_mix [true, true, true, true, true, true, true, true, true, true, false, false, false, false, false] 1 (fun _ => False) (by kernel_rfl) (by decide +kernel) ?_
          simp only [front, back, List.take_succ_cons, List.take_zero, List.drop_succ_cons, List.drop_zero]
          repeat ((first | refine wpFront_load rfl ?_ | refine wpFront_other rfl ?_); (first | go_big_quiet_step (fail) | quiet_step (fail)); refine wpQuiet_nil ?_)
          refine wpFront_nil ?_
          simp only [wpSegs]
          go_wp2_with fail
          refine segQ_normal (((Keeps.refl _ _).alloc _).drew) ?_
          have hSb := (HS2.out.new TI' [.int .i64 o.out.length]).drew
          simp only [Kw.red] at hSb
          refine wpList_appS 2 5 _ _ 22 TI' (.int .i64 0) 1 8 infoI Tryz.underlying22 rfl (by decide) rfl rfl hSb rfl rfl rfl rfl rfl (intsC_one [(o.out.length : Int)]) (by omega) (by unfold maxLen; omega) (by omega) ?_
          intro gb gc w7 hSc hat
          have c16 := (hSc.blk 1).at (ownL_ov Hl1.out)
          have cz := (hSc.blk 1).fz 16
          have HSc := hid (hSc.sub [0, 1, 2, 3, 4])
          clear hSc hSb HS2 c17
          go_wp2_with fail
          refine NoPanic.normal ?_
          go_wp2_with fail
          have hS3 := HSc.out.set 1 16 (.slice (some ⟨gb, 0, none⟩) (o.opn.length + 1) gc)
          simp only [Kw.red] at hS3
          rw [ownL_setO Hl1.out] at hS3
          generalize w7.setCell ⟨g, 16, none⟩ (.slice (some ⟨gb, 0, none⟩) (o.opn.length + 1) gc) = w8 at *
          have c17 := (hS3.blk 1).at (ownL_sv Hl1.out)
          have cq := (hS3.blk 1).at (ownL_held (ov := .slice (some ⟨gb, 0, none⟩) (o.opn.length + 1) gc) (sv := .slice sa o.out.length sc) Hl1.out q16)
          rw [show (o.held.set q (HQ + x.n)).getD q 0 = HQ + x.n by rw [List.getD_eq_getElem?_getD, List.getElem?_set, if_pos rfl, if_pos (by omega)]; rfl] at cq
          have x1 := (hS3.blk 4).cell 1
          have x2 := (hS3.blk 4).cell 2
          simp only [List.getElem?_cons_zero, List.getElem?_cons_succ] at x1 x2
          have HS3 := hid hS3
          clear hS3 HSc c16 cz
          refine wp_region_mix [true, true, true, true, true, true, true, true, true, true, true, true, true, true, true, true, true, true, false, false, false, false, false] 1 (fun _ => False) (by kernel_rfl) (by decide +kernel) ?_
          simp only [front, back, List.take_succ_cons, List.take_zero, List.drop_succ_cons, List.drop_zero]
          repeat (first | (refine wpFront_idxA (g := g) (f := 0) (j := q) rfl rfl rfl rfl q16 ?_) | ((first | refine wpFront_load rfl ?_ | refine wpFront_other rfl ?_); (first | go_big_quiet_step (fail) | quiet_step (fail)); refine wpQuiet_nil ?_))
          refine wpFront_nil ?_
          simp only [wpSegs]
          go_wp2_with fail
          refine segQ_normal (((Keeps.refl _ _).alloc _).drew) ?_
          have hSb := (HS3.out.new TSe [.int .i64 (q : Int), .int .i64 x.n, .int .i64 (HQ + x.n), .int .i64 k, .int .i64 0]).drew
          simp only [Kw.red] at hSb
          refine wpList_appS 3 5 _ _ TSes TSe (.agg #[.int .i64 0, .int .i64 0, .int .i64 0, .int .i64 0, .int .i64 0]) 5 40 infoSe Tryz.underlying61 rfl (by decide) rfl rfl hSb rfl rfl rfl rfl rfl (secC_one ⟨(q : Int), x.n, HQ + x.n, k, 0⟩) (by omega) (by unfold maxLen; omega) (by omega) ?_
          intro gd gf w10 hSd hat2
          have c17 := (hSd.blk 1).at (ownL_sv Hl1.out)
          have cz := (hSd.blk 1).fz 17
          have HSd := hid (hSd.sub [0, 1, 2, 3, 4])
          clear hSd hSb HS3 cq x1 x2
          go_wp2_with fail
          refine NoPanic.normal ?_
          go_wp2_with fail
          go_roundw
          case rel =>
            refine ⟨k + 1, by omega, by go_num, ?_⟩
            rw [Hstep.out]
            have h4 := HSd.out.set 1 17 (.slice (some ⟨gd, 0, none⟩) (o.out.length + 1) gf)
            simp only [Kw.red] at h4
            rw [ownL_setS Hl1.out] at h4
            have h5 := h4.sub [0, 1, 2, 3]
            simp only [Kw.red] at h5
            refine own_fold (ov := .slice (some ⟨gb, 0, none⟩) (o.opn.length + 1) gc) (sv := .slice (some ⟨gd, 0, none⟩) (o.out.length + 1) gf) ?_
            simp only [List.length_cons, List.length_append, List.length_nil, opnI_cons, secsC_app]
            rw [show intsC (opnI o.opn ++ [(o.out.length : Int)]) = intsC (opnI o.opn) ++ [.int .i64 o.out.length] by simp [intsC], show secsC [⟨(q : Int), x.n, HQ + x.n, k, 0⟩] = [.int .i64 (q : Int), .int .i64 x.n, .int .i64 (HQ + x.n), .int .i64 k, .int .i64 0] by simp [secsC, secC]]
            exact h5
          case measure => simp [intOf]; omega
        · have bf : decide (HQ + x.n ≤ ND) = false := by simpa using hf
          rw [if_neg hf] at Hstep
          clear hf
          refine wp_region_keep (by kernel_rfl) (by kernel_rfl) ?_
          repeat (first | go_big_quiet_skip | (refine wpKeep_idxA (g := g) (f := 0) (j := q) rfl rfl rfl rfl q16 ?_) | ((first | refine wpKeep_load rfl ?_ | refine wpKeep_other rfl ?_); (first | go_big_quiet_step (fail) | quiet_step (fail)); refine wpQuiet_nil ?_; refine Shut.mk ?_) | (refine wpQuiet_step (fun K hK => ?_); go_simp; first | (refine hK _ ?_; clear hK K) | (apply Exists.intro; refine ⟨fun w9 k9 => ?_, hK _ ?_⟩; (exact (HNq.out w9 k9).mono fun e w' h => ⟨h.1, k9.trans h.2⟩); clear hK K)))
          refine wpQuiet_nil ?_
          intro w9 k9
          have HS1 := hid (HSo.out.step k9)
          clear HNq HSo k9
          go_wp2_with fail
          go_roundw
          case rel => exact ⟨k + 1, by omega, by go_num, by rw [Hstep.out]; exact own_fold (HS1.out.sub [0, 1, 2, 3])⟩
          case measure => simp [intOf]; omega
      · have b1 : (x.kind == 1) = false := by simpa using hk1
        by_cases hk2 : x.kind = 2
        · have b2 : (x.kind == 2) = true := by simpa using hk2
          have hst : stepS nd k x o = if o.isTop x.res then o.endOne k else o := by unfold stepS; rw [if_neg hk1, if_pos hk2]
          rw [hst] at Hstep
          obtain ⟨ov, sv, hSo⟩ := own_open3 HSx.out
          obtain ⟨va, vc, rfl, -⟩ := (hSo.own 2).shape
          obtain ⟨sa, sc, rfl, -⟩ := (hSo.own 3).shape
          have c16 := (hSo.blk 1).at (ownL_ov hl)
          have c17 := (hSo.blk 1).at (ownL_sv hl)
          have hop := HI.out.opn_le
          have hfew := HI.out.few
          cases hq : o.opn with
          | nil =>
            have hnt : o.isTop x.res = false := by unfold OW.isTop; rw [hq]
            rw [hnt] at Hstep
            simp only [Bool.false_eq_true, if_false] at Hstep
            rw [hq] at c16
            have n0 : decide ((0 : Int) < 0) = false := by decide
            clear hst hSo hk1 hk2 hnt
            go_wp2_with fail
            go_quiet (fail)
            go_wp2_with fail
            go_roundw
            case rel => exact ⟨k + 1, by omega, by go_num, by rw [Hstep.out]; exact (HSx.out.sub [0, 1]).drewN _⟩
            case measure => simp [intOf]; omega
          | cons kk r =>
            have hkl := HI.out.lt kk (by rw [hq]; simp)
            have hks := sec_at hkl
            have htop : o.isTop x.res = decide ((o.sec kk).res = x.res) := by unfold OW.isTop; rw [hq]
            have hne : o.opn ≠ [] := by rw [hq]; simp
            have hrl : r.length + 1 ≤ k := by
              have h1 : o.opn.length = r.length + 1 := by rw [hq]; rfl
              omega
            have ho2 := hSo.own 2
            rw [hq, List.length_cons] at ho2
            obtain ⟨go, co, e1, -⟩ := ho2.form (by omega)
            rw [hq, List.length_cons, e1] at c16
            have ck := ho2.cells' (g := go) (by rw [e1]; rfl) (intsC_at (opnI_top kk r))
            obtain ⟨gs, cs, e2, -⟩ := (hSo.own 3).form (by omega)
            rw [e2] at c17
            have s0 := (hSo.own 3).cells' (g := gs) (by rw [e2]; rfl) (secsC_at hks).1
            rw [htop] at Hstep
            generalize o.sec kk = s at *
            have n0 : decide ((0 : Int) < (r.length : Int) + 1) = true := decide_eq_true (by omega)
            have m0 : (0 : Int) ≤ (r.length : Int) := by omega
            have m1 : (r.length : Int) < (r.length : Int) + 1 := by omega
            have j0 : (0 : Int) ≤ (kk : Int) := by omega
            have j1 : (kk : Int) < (o.out.length : Int) := by omega
            have Hne := hid hne
            clear hst hSo hk1 hk2 htop hks ho2 hq hne e1 e2
            by_cases hr : s.res = x.res
            · have b4 : (s.res == x.res) = true := by simpa using hr
              rw [if_pos (by simpa using hr)] at Hstep
              clear hr
              go_wp2_with fail
              go_quiet (fail)
              go_wp2_with fail
              refine (end_st HI.out Hnd.out (by omega) ((HSx.out.sub [0, 1]).drewN _) Hne.out k).mono ?_
              rintro e w2 ⟨rfl, hS2⟩
              have HS2 := hid hS2
              clear hS2
              go_wp2_with fail
              go_roundw
              case rel => exact ⟨k + 1, by omega, by go_num, by rw [Hstep.out]; exact HS2.out⟩
              case measure => simp [intOf]; omega
            · have b4 : (s.res == x.res) = false := by simpa using hr
              rw [if_neg (by simpa using hr)] at Hstep
              clear hr
              go_wp2_with fail
              go_quiet (fail)
              go_wp2_with fail
              go_roundw
              case rel => exact ⟨k + 1, by omega, by go_num, by rw [Hstep.out]; exact (HSx.out.sub [0, 1]).drewN _⟩
              case measure => simp [intOf]; omega
        · have b2 : (x.kind == 2) = false := by simpa using hk2
          by_cases hk9 : x.kind = 9
          · have b3 : (x.kind == 9) = true := by simpa using hk9
            have hst : stepS nd k x o = ends k o.opn.length o := by unfold stepS; rw [if_neg hk1, if_neg hk2, if_pos hk9]
            rw [hst] at Hstep
            have HE := hid (fun j => ((HI.out.later (Nat.le_succ k) (Nat.le_succ k)).ends (fun i s hs => (HI.out.each i s hs).2) Hx.out hk9 j).1)
            have hop := HI.out.opn_le
            have hfew := HI.out.few
            have HSy := hid (show St (fun _ => False) w [.pt sg TOp (opsC P), ownC g (ends k 0 o)] _ from HSx.out.sub [0, 1])
            clear hst hk1 hk2 hk9 HSx
            go_wp2_with fail
            go_loopw [] (fun wy => ∃ j : Nat, j ≤ o.opn.length ∧ St (fun _ => False) w [.pt sg TOp (opsC P), ownC g (ends k j o)] wy) (fun wy => opnLen wy g)
            case atStart => exact ⟨0, Nat.zero_le _, HSy.out⟩
            case round =>
              clear HSy
              obtain ⟨j, hj, hS⟩ := hrel
              obtain ⟨hm, aa, cc, c16⟩ := opn_len (HE.out j).hl hS
              have hon := ends_opn k j o
              have hlen : (ends k j o).opn.length = o.opn.length - j := by rw [hon, List.length_drop]
              rw [hlen] at c16 hm
              by_cases hjl : j < o.opn.length
              · have n0 : decide (0 < o.opn.length - j) = true := decide_eq_true (by omega)
                have hne : (ends k j o).opn ≠ [] := by intro e; rw [e] at hlen; simp at hlen; omega
                have hee := end_st (HE.out j) Hnd.out (by omega) hS hne k
                have HEE := hid hee
                have Hm := hid hm
                clear hee hS hon hlen hne hm
                go_wp2_with fail
                refine HEE.out.mono ?_
                rintro e w2 ⟨rfl, hS2⟩
                have hm2 := (opn_len (HE.out (j + 1)).hl hS2).1
                have hlen : (ends k (j + 1) o).opn.length = o.opn.length - (j + 1) := by rw [ends_opn, List.length_drop]
                rw [hlen] at hm2
                have HS2 := hid hS2
                have Hm2 := hid hm2
                clear hS2 hm2 hlen HEE
                go_wp2_with fail
                go_roundw
                case rel => exact ⟨j + 1, by omega, HS2.out⟩
                case measure => rw [Hm.out, Hm2.out]; omega
              · have n0 : decide (0 < o.opn.length - j) = false := decide_eq_false (by omega)
                have hjj : j = o.opn.length := by omega
                subst hjj
                have HS2 := hid hS
                clear hS hon hlen hm
                go_wp2_with fail
                go_roundw
                case rel => exact ⟨k + 1, by omega, by go_num, by rw [Hstep.out]; exact HS2.out⟩
                case measure => simp [intOf]; omega
          · have b3 : (x.kind == 9) = false := by simpa using hk9
            have hst : stepS nd k x o = o := by unfold stepS; rw [if_neg hk1, if_neg hk2, if_neg hk9]
            rw [hst] at Hstep
            clear hk1 hk2 hk9 hst
            go_wp2_with fail
            go_roundw
            case rel => exact ⟨k + 1, by omega, by go_num, by rw [Hstep.out]; exact HSx.out.sub [0, 1]⟩
            case measure => simp [intOf]; omega
    · have a1 : decide (k < P.length) = false := by simpa using hlt
      rw [List.take_of_length_le (show P.length ≤ k by omega), HoE.out] at hS hI
      obtain ⟨ov, sv, hS⟩ := own_open hS
      obtain ⟨sa, sc, rfl, hsc⟩ := (hS.own 3).shape
      have hl := hI.hl
      have c17 := (hS.blk 1).at (ownL_sv hl)
      have HS2 := hid hS
      have i0 : (oE.out.length : Int) ≤ (sc : Int) := by omega
      clear hS hI
      go_wp2_with fail
      refine wp_region_mix [true, true, true, true, true, true, true, true, true, true, true, true, true, true, true, false] 0 (fun _ => False) (by kernel_rfl) (by decide +kernel) ?_
      simp only [front, back, List.take_zero, List.drop_zero]
      repeat ((first | refine wpFront_load rfl ?_ | refine wpFront_other rfl ?_); (first | go_big_quiet_step (fail) | quiet_step (fail)); refine wpQuiet_nil ?_)
      refine wpFront_nil ?_
      simp only [wpSegs]
      go_wp2_with fail
      refine NoPanic.normal ?_
      go_wp2_with fail
      go_ret
      refine ⟨_, rfl, ?_⟩
      have h3 := HS2.out.drew.imp 3 (c := .row TSe 5 (.slice sa oE.out.length sc) oE.out.length (secsC oE.out)) (.vec TSe 5 (.slice sa oE.out.length oE.out.length) oE.out.length (secsC oE.out)) (fun F h => ⟨Vec.clip h.1, fun b => (h.2 b).trans (by cases sa <;> exact Iff.rfl)⟩)
      exact h3.sub [3]
end
end Go.Proofs.YtnkjjhenfhnajaaGreatDoor

/-
  admit.lower, walked for any closure; Term, Longest, Greatest.
-/
namespace Go.Proofs.YtnkjjhenfhnajaaGreatDoor
open Go.RowKit Go.Kw Go.Kreg Go.Tm Go.Ad
set_option linter.unusedSimpArgs false
set_option linter.unusedVariables false

theorem lowsTo_snoc {lev : Int} {ts : List Task} {k : Nat} {t : Task} (ht : ts[k]? = some t) : lowsTo lev ts (k + 1) = if t.level < lev then lowsTo lev ts k ++ (secsOf t).map (Prod.mk k) else lowsTo lev ts k := by
  conv => lhs; unfold lowsTo lowOne
  rw [ht]
  simp only
  split
  · rfl
  · rw [List.append_nil]
theorem map_take_snoc {q : List Sec} {i k : Nat} {s : Sec} (h : q[i]? = some s) : (q.take (i + 1)).map (Prod.mk k) = (q.take i).map (Prod.mk k) ++ [(k, s)] := by
  obtain ⟨hi, rfl⟩ := List.getElem?_eq_some_iff.1 h
  rw [List.take_succ_eq_append_getElem hi, List.map_append]; rfl
theorem sections_any {w : World} {p : Nat} {m : TM} {x : TabX} (h : TabAt w p m x) (id : Int) : Calls Tryz.prog 27 #[.pointer (some ⟨p, 0, none⟩), .int .i64 id] w fun e w' => ∃ v, e = .returned v ∧ St (fun _ => False) w [.vec TSe 5 v (secsI m.ts id).length (secsC (secsI m.ts id))] w' := by
  rcases id_cases m.ts id with ho | ⟨i, t, rfl, ht⟩
  · rw [secs_no ho]
    refine (sections_out h id ho).mono ?_
    rintro e w' ⟨rfl, k⟩
    refine ⟨_, rfl, ?_⟩
    exact ((St.start w).step k).add (Keeps.refl (fun _ => False) _) (G := fun _ => False) (c := .vec TSe 5 (.slice none 0 0) 0 (secsC [])) ⟨⟨rfl, .inl ⟨rfl, rfl⟩⟩, fun b => by simp [Value.ownBlock]⟩ (fun _ h => h.elim)
  · rw [secs_eq ht]
    exact sections_in h ht
theorem enter_term (args : Array Value) (w : World) : (callFunc 105 args).run Tryz.prog w = .ok (.enter 105 args) w := by
  have h1 : (Tryz.f105.name == "runtime.NumGoroutine") = false := by kernel_rfl
  have h2 : Tryz.f105.body.isNone = false := by kernel_rfl
  simp only [beq_eq_false_iff_ne, ne_eq] at h1
  have h3 : ¬ Tryz.f105.body = none := fun e => by rw [e] at h2; simp at h2
  simp [callFunc, go_sem, Tryz.func105, h1, h3]
theorem enter_long (args : Array Value) (w : World) : (callFunc 107 args).run Tryz.prog w = .ok (.enter 107 args) w := by
  have h1 : (Tryz.f107.name == "runtime.NumGoroutine") = false := by kernel_rfl
  have h2 : Tryz.f107.body.isNone = false := by kernel_rfl
  simp only [beq_eq_false_iff_ne, ne_eq] at h1
  have h3 : ¬ Tryz.f107.body = none := fun e => by rw [e] at h2; simp at h2
  simp [callFunc, go_sem, Tryz.func107, h1, h3]
set_option maxRecDepth 100000 in
set_option maxHeartbeats 8000000 in
theorem lower1_any {w0 w : World} {p : Nat} {m : TM} {x : TabX} {a1 : Value} (T : TabAt w0 p m x) (id : Int) (c : List (Nat × Sec) → Ch) (K : Nat) (hcf : ∀ args w, (callFunc K args).run Tryz.prog w = .ok (.enter K args) w)
    (hstep : ∀ lev, levAt m.ts id = some lev → ∀ (l : List (Nat × Sec)) (j : Nat) (t : Task) (s : Sec) (w : World) (F : Nat → Prop), m.ts[j]? = some t → s ∈ secsOf t → (c l).holds F w → TabAt w p m x → Calls Tryz.prog K #[.int .i64 j, secV s, .int .i64 lev, a1] w fun e w' => e = .returned (.tuple #[]) ∧ St F w [c (l ++ [(j, s)])] w')
    (HS : St (fun _ => False) w0 [c []] w) : Calls Tryz.prog 101 #[.pointer (some ⟨p, 0, none⟩), .int .i64 id, .func (.func K) #[] #[a1]] w fun e w' => e = .returned (.tuple #[]) ∧ St (fun _ => False) w0 [c (lowsId m.ts id)] w' := by
  have T1 := hid (T.keeps HS.keeps)
  have HT := hid T
  have HS0 := hid HS
  have hfew := T.few
  unfold lowsId
  rcases id_cases m.ts id with ho | ⟨i, t, rfl, ht⟩
  · have e : levAt m.ts id = none := by
      have := out_none ho
      unfold taskI at this
      unfold levAt
      split
      · rfl
      · rename_i h0
        rw [if_neg h0] at this
        rw [this]; rfl
    rw [e]
    have HG := hid (get_out T1.out id ho)
    clear hstep e ho T HS
    go_enter Tryz.func101, Tryz.ntmps101
    go_wp2_with fail
    refine HG.out.mono ?_; rintro e w2 ⟨rfl, k2⟩
    have HS2 := hid ((HS0.out.step k2).new TTk ztask)
    clear k2 HG
    go_wp2_with fail
    refine bodyPost_ret (v := .tuple #[]) (by simp [results, Tryz.results101]) rfl ?_
    refine ⟨rfl, ?_⟩
    exact HS2.out.sub [0]
  · have e : levAt m.ts i = some t.level := by
      unfold levAt
      rw [if_neg (by omega), Int.toNat_natCast, ht]; rfl
    rw [e]
    have hst := hstep t.level e
    have hlevs := fun (t : Task) (h : t ∈ m.ts) => T.tok.ok.fit t h
    have HG := hid (get_in T1.out ht)
    have Hst := hid hst
    have Hfit := hid hlevs
    simp only
    unfold lows
    unfold taskV at HG
    generalize t.level = lev at *
    clear hstep e hst ht hlevs T HS
    go_enter Tryz.func101, Tryz.ntmps101
    go_wp2_with fail
    refine HG.out.mono ?_; rintro e w2 ⟨gn, rfl, hS⟩
    obtain ⟨xl, hxl⟩ : ∃ xl : List Value, xl = [.string t.name, .int .i64 lev, .int .i64 t.frame, .slice (some ⟨gn, 0, none⟩) t.needs.length t.needs.length, .string t.code, .int .i64 t.period, .int .i64 t.first, .int .i64 t.gap] := ⟨_, rfl⟩
    have hS2 := (HS0.out.step hS.keeps).new TTk xl
    simp only [Kw.red] at hS2
    have hl1 : xl[1]? = some (.int .i64 lev) := by rw [hxl]; rfl
    have HL1 := hid hl1
    have hln := tlen_any (HT.out.keeps hS2.keeps)
    have HS2 := hid hS2
    have HLn := hid hln
    rw [hxl] at HLn
    clear hS hS2 HG HS0 hl1 hln
    go_wp2_with fail
    refine HLn.out.mono ?_; rintro e w3 ⟨rfl, rfl⟩
    rw [← hxl]
    clear hxl HLn
    generalize w2.heap.size = xb at *
    generalize w2.alloc (.cells xl.toArray TTk) = w3 at *
    go_wp2_with fail
    go_loopw [25] (fun y wr => ∃ k : Nat, k ≤ m.ts.length ∧ y = .int .i64 k ∧ St (fun _ => False) w0 [c (lowsTo lev m.ts k), .pt xb TTk xl] wr) (fun y _ => m.ts.length - (intOf y).toNat)
    case atStart => exact ⟨0, Nat.zero_le _, rfl, HS2.out⟩
    case round =>
      clear HS2
      obtain ⟨k, hk, rfl, hS⟩ := hrel
      by_cases hlt : k < m.ts.length
      · have a1 : decide (k < m.ts.length) = true := by simpa using hlt
        have hy := List.getElem?_eq_getElem hlt
        have hfy := Hfit.out _ (List.getElem_mem hlt)
        have hcons := lowsTo_snoc (lev := lev) hy
        have TK := hid (HT.out.keeps hS.keeps)
        have HG2 := hid (get_in TK.out hy)
        generalize m.ts[k] = y at *
        have HSr := hid hS
        have Hcons := hid hcons
        have Hy := hid hy
        unfold taskV at HG2
        clear hS hcons hy TK
        go_wp2_with fail
        refine HG2.out.mono ?_; rintro e w4 ⟨gy, rfl, hS4⟩
        have hS5 := (HSr.out.step hS4.keeps).new TTk [.string y.name, .int .i64 y.level, .int .i64 y.frame, .slice (some ⟨gy, 0, none⟩) y.needs.length y.needs.length, .string y.code, .int .i64 y.period, .int .i64 y.first, .int .i64 y.gap]
        simp only [Kw.red] at hS5
        have d1 := (hS5.blk 1).at HL1.out
        have HS5 := hid (hS5.sub [0, 1])
        clear hS4 hS5 HG2 HSr
        by_cases hge : lev ≤ y.level
        · have b1 : decide (lev ≤ y.level) = true := by simpa using hge
          rw [if_neg (by omega)] at Hcons
          clear hge
          go_wp2_with fail
          go_roundw
          case rel => exact ⟨k + 1, by omega, by go_num, by rw [Hcons.out]; exact HS5.out⟩
          case measure => simp [intOf]; omega
        · have b1 : decide (lev ≤ y.level) = false := by simpa using hge
          rw [if_pos (by omega)] at Hcons
          have HSc := hid (sections_in (HT.out.keeps HS5.out.keeps) Hy.out)
          have hql : (secsOf y).length ≤ 4096 := Nat.le_trans (secs_ok hfy).few (Cm.prog_le _)
          obtain ⟨q, hq⟩ : ∃ q, secsOf y = q := ⟨_, rfl⟩
          have hmem : ∀ s ∈ q, s ∈ secsOf y := by rw [hq]; exact fun _ h => h
          have Hmem := hid hmem
          rw [hq] at Hcons HSc hql
          clear hge hfy hmem hq
          go_wp2_with fail
          refine HSc.out.mono ?_; rintro e w6 ⟨sv, rfl, hS⟩
          obtain ⟨sa, sc, rfl, hsc⟩ := (hS.vec 0).shape
          have hS6 := HS5.out.adds hS
          simp only [Kw.red] at hS6
          have HS6 := hid hS6
          clear hS hS6 HS5 HSc d1
          go_wp2_with fail
          go_loopw [43] (fun z wx => ∃ i : Nat, i ≤ q.length ∧ z = .int .i64 i ∧ St (fun _ => False) w0 [c (lowsTo lev m.ts k ++ (q.take i).map (Prod.mk k)), .pt xb TTk xl, .vec TSe 5 (.slice sa q.length sc) q.length (secsC q)] wx) (fun z _ => q.length - (intOf z).toNat)
          case atStart => exact ⟨0, Nat.zero_le _, rfl, by have h := HS6.out; simpa using h⟩
          case round =>
            clear HS6
            obtain ⟨i, hi, rfl, hS⟩ := hrel
            by_cases hil : i < q.length
            · have b2 : decide (i < q.length) = true := by simpa using hil
              have hs := List.getElem?_eq_getElem hil
              have hsm := Hmem.out _ (List.getElem_mem hil)
              obtain ⟨gs, cs, e1, -, -⟩ := (hS.vec 2).form (by omega)
              cases e1
              obtain ⟨e0, e1, e2, e3, e4⟩ := secsC_at hs
              have s0 := (hS.vec 2).cells' (g := gs) rfl e0
              have s1 := (hS.vec 2).cells' (g := gs) rfl e1
              have s2 := (hS.vec 2).cells' (g := gs) rfl e2
              have s3 := (hS.vec 2).cells' (g := gs) rfl e3
              have s4 := (hS.vec 2).cells' (g := gs) rfl e4
              have htk := map_take_snoc (k := k) hs
              generalize q[i] = s at *
              have i0 : (0 : Int) ≤ (i : Int) := by omega
              have i1 : (i : Int) < (q.length : Int) := by omega
              have d1 := (hS.blk 1).at HL1.out
              have hS7 := hS.new TSe [.int .i64 s.res, .int .i64 s.units, .int .i64 s.held, .int .i64 s.frm, .int .i64 s.upto]
              simp only [Kw.red] at hS7
              obtain ⟨F1, h1, _, _, bk⟩ := hS7.sel [0]
              have HC := hid (Hst.out _ k y s _ F1 Hy.out hsm (Sts.of_one h1) (HT.out.keeps hS7.keeps))
              have Htk := hid htk
              unfold secV at HC
              clear hS hS7 h1 htk hs e0 e1 e2 e3 e4 hsm
              go_wp2_with fail
              refine HC.out.mono ?_; rintro e w7 ⟨rfl, hS8⟩
              have hS8 := bk hS8
              simp only [Kw.red] at hS8
              have HS8 := hid hS8
              clear hS8 HC bk s0 s1 s2 s3 s4 d1
              go_wp2_with fail
              go_roundw
              case rel => exact ⟨i + 1, by omega, by go_num, by rw [Htk.out, ← List.append_assoc]; exact HS8.out.sub [0, 1, 2]⟩
              case measure => simp [intOf]; omega
            · have b2 : decide (i < q.length) = false := by simpa using hil
              rw [List.take_of_length_le (show q.length ≤ i by omega)] at hS
              have HS8 := hid hS
              clear hS
              go_wp2_with fail
              go_roundw
              case rel => exact ⟨k + 1, by omega, by go_num, by rw [Hcons.out]; exact HS8.out.sub [0, 1]⟩
              case measure => simp [intOf]; omega
      · have a1 : decide (k < m.ts.length) = false := by simpa using hlt
        have hkk : k = m.ts.length := by omega
        subst hkk
        have HS8 := hid hS
        clear hS
        go_wp2_with fail
        go_end0
        exact ⟨rfl, HS8.out.sub [0]⟩
set_option maxRecDepth 100000 in
set_option maxHeartbeats 8000000 in
theorem lower2_any {w0 w : World} {p : Nat} {m : TM} {x : TabX} {a1 a2 : Value} (T : TabAt w0 p m x) (id : Int) (c : List (Nat × Sec) → Ch) (K : Nat) (hcf : ∀ args w, (callFunc K args).run Tryz.prog w = .ok (.enter K args) w)
    (hstep : ∀ lev, levAt m.ts id = some lev → ∀ (l : List (Nat × Sec)) (j : Nat) (t : Task) (s : Sec) (w : World) (F : Nat → Prop), m.ts[j]? = some t → s ∈ secsOf t → (c l).holds F w → TabAt w p m x → Calls Tryz.prog K #[.int .i64 j, secV s, .int .i64 lev, a1, a2] w fun e w' => e = .returned (.tuple #[]) ∧ St F w [c (l ++ [(j, s)])] w')
    (HS : St (fun _ => False) w0 [c []] w) : Calls Tryz.prog 101 #[.pointer (some ⟨p, 0, none⟩), .int .i64 id, .func (.func K) #[] #[a1, a2]] w fun e w' => e = .returned (.tuple #[]) ∧ St (fun _ => False) w0 [c (lowsId m.ts id)] w' := by
  have T1 := hid (T.keeps HS.keeps)
  have HT := hid T
  have HS0 := hid HS
  have hfew := T.few
  unfold lowsId
  rcases id_cases m.ts id with ho | ⟨i, t, rfl, ht⟩
  · have e : levAt m.ts id = none := by
      have := out_none ho
      unfold taskI at this
      unfold levAt
      split
      · rfl
      · rename_i h0
        rw [if_neg h0] at this
        rw [this]; rfl
    rw [e]
    have HG := hid (get_out T1.out id ho)
    clear hstep e ho T HS
    go_enter Tryz.func101, Tryz.ntmps101
    go_wp2_with fail
    refine HG.out.mono ?_; rintro e w2 ⟨rfl, k2⟩
    have HS2 := hid ((HS0.out.step k2).new TTk ztask)
    clear k2 HG
    go_wp2_with fail
    refine bodyPost_ret (v := .tuple #[]) (by simp [results, Tryz.results101]) rfl ?_
    refine ⟨rfl, ?_⟩
    exact HS2.out.sub [0]
  · have e : levAt m.ts i = some t.level := by
      unfold levAt
      rw [if_neg (by omega), Int.toNat_natCast, ht]; rfl
    rw [e]
    have hst := hstep t.level e
    have hlevs := fun (t : Task) (h : t ∈ m.ts) => T.tok.ok.fit t h
    have HG := hid (get_in T1.out ht)
    have Hst := hid hst
    have Hfit := hid hlevs
    simp only
    unfold lows
    unfold taskV at HG
    generalize t.level = lev at *
    clear hstep e hst ht hlevs T HS
    go_enter Tryz.func101, Tryz.ntmps101
    go_wp2_with fail
    refine HG.out.mono ?_; rintro e w2 ⟨gn, rfl, hS⟩
    obtain ⟨xl, hxl⟩ : ∃ xl : List Value, xl = [.string t.name, .int .i64 lev, .int .i64 t.frame, .slice (some ⟨gn, 0, none⟩) t.needs.length t.needs.length, .string t.code, .int .i64 t.period, .int .i64 t.first, .int .i64 t.gap] := ⟨_, rfl⟩
    have hS2 := (HS0.out.step hS.keeps).new TTk xl
    simp only [Kw.red] at hS2
    have hl1 : xl[1]? = some (.int .i64 lev) := by rw [hxl]; rfl
    have HL1 := hid hl1
    have hln := tlen_any (HT.out.keeps hS2.keeps)
    have HS2 := hid hS2
    have HLn := hid hln
    rw [hxl] at HLn
    clear hS hS2 HG HS0 hl1 hln
    go_wp2_with fail
    refine HLn.out.mono ?_; rintro e w3 ⟨rfl, rfl⟩
    rw [← hxl]
    clear hxl HLn
    generalize w2.heap.size = xb at *
    generalize w2.alloc (.cells xl.toArray TTk) = w3 at *
    go_wp2_with fail
    go_loopw [25] (fun y wr => ∃ k : Nat, k ≤ m.ts.length ∧ y = .int .i64 k ∧ St (fun _ => False) w0 [c (lowsTo lev m.ts k), .pt xb TTk xl] wr) (fun y _ => m.ts.length - (intOf y).toNat)
    case atStart => exact ⟨0, Nat.zero_le _, rfl, HS2.out⟩
    case round =>
      clear HS2
      obtain ⟨k, hk, rfl, hS⟩ := hrel
      by_cases hlt : k < m.ts.length
      · have a1 : decide (k < m.ts.length) = true := by simpa using hlt
        have hy := List.getElem?_eq_getElem hlt
        have hfy := Hfit.out _ (List.getElem_mem hlt)
        have hcons := lowsTo_snoc (lev := lev) hy
        have TK := hid (HT.out.keeps hS.keeps)
        have HG2 := hid (get_in TK.out hy)
        generalize m.ts[k] = y at *
        have HSr := hid hS
        have Hcons := hid hcons
        have Hy := hid hy
        unfold taskV at HG2
        clear hS hcons hy TK
        go_wp2_with fail
        refine HG2.out.mono ?_; rintro e w4 ⟨gy, rfl, hS4⟩
        have hS5 := (HSr.out.step hS4.keeps).new TTk [.string y.name, .int .i64 y.level, .int .i64 y.frame, .slice (some ⟨gy, 0, none⟩) y.needs.length y.needs.length, .string y.code, .int .i64 y.period, .int .i64 y.first, .int .i64 y.gap]
        simp only [Kw.red] at hS5
        have d1 := (hS5.blk 1).at HL1.out
        have HS5 := hid (hS5.sub [0, 1])
        clear hS4 hS5 HG2 HSr
        by_cases hge : lev ≤ y.level
        · have b1 : decide (lev ≤ y.level) = true := by simpa using hge
          rw [if_neg (by omega)] at Hcons
          clear hge
          go_wp2_with fail
          go_roundw
          case rel => exact ⟨k + 1, by omega, by go_num, by rw [Hcons.out]; exact HS5.out⟩
          case measure => simp [intOf]; omega
        · have b1 : decide (lev ≤ y.level) = false := by simpa using hge
          rw [if_pos (by omega)] at Hcons
          have HSc := hid (sections_in (HT.out.keeps HS5.out.keeps) Hy.out)
          have hql : (secsOf y).length ≤ 4096 := Nat.le_trans (secs_ok hfy).few (Cm.prog_le _)
          obtain ⟨q, hq⟩ : ∃ q, secsOf y = q := ⟨_, rfl⟩
          have hmem : ∀ s ∈ q, s ∈ secsOf y := by rw [hq]; exact fun _ h => h
          have Hmem := hid hmem
          rw [hq] at Hcons HSc hql
          clear hge hfy hmem hq
          go_wp2_with fail
          refine HSc.out.mono ?_; rintro e w6 ⟨sv, rfl, hS⟩
          obtain ⟨sa, sc, rfl, hsc⟩ := (hS.vec 0).shape
          have hS6 := HS5.out.adds hS
          simp only [Kw.red] at hS6
          have HS6 := hid hS6
          clear hS hS6 HS5 HSc d1
          go_wp2_with fail
          go_loopw [43] (fun z wx => ∃ i : Nat, i ≤ q.length ∧ z = .int .i64 i ∧ St (fun _ => False) w0 [c (lowsTo lev m.ts k ++ (q.take i).map (Prod.mk k)), .pt xb TTk xl, .vec TSe 5 (.slice sa q.length sc) q.length (secsC q)] wx) (fun z _ => q.length - (intOf z).toNat)
          case atStart => exact ⟨0, Nat.zero_le _, rfl, by have h := HS6.out; simpa using h⟩
          case round =>
            clear HS6
            obtain ⟨i, hi, rfl, hS⟩ := hrel
            by_cases hil : i < q.length
            · have b2 : decide (i < q.length) = true := by simpa using hil
              have hs := List.getElem?_eq_getElem hil
              have hsm := Hmem.out _ (List.getElem_mem hil)
              obtain ⟨gs, cs, e1, -, -⟩ := (hS.vec 2).form (by omega)
              cases e1
              obtain ⟨e0, e1, e2, e3, e4⟩ := secsC_at hs
              have s0 := (hS.vec 2).cells' (g := gs) rfl e0
              have s1 := (hS.vec 2).cells' (g := gs) rfl e1
              have s2 := (hS.vec 2).cells' (g := gs) rfl e2
              have s3 := (hS.vec 2).cells' (g := gs) rfl e3
              have s4 := (hS.vec 2).cells' (g := gs) rfl e4
              have htk := map_take_snoc (k := k) hs
              generalize q[i] = s at *
              have i0 : (0 : Int) ≤ (i : Int) := by omega
              have i1 : (i : Int) < (q.length : Int) := by omega
              have d1 := (hS.blk 1).at HL1.out
              have hS7 := hS.new TSe [.int .i64 s.res, .int .i64 s.units, .int .i64 s.held, .int .i64 s.frm, .int .i64 s.upto]
              simp only [Kw.red] at hS7
              obtain ⟨F1, h1, _, _, bk⟩ := hS7.sel [0]
              have HC := hid (Hst.out _ k y s _ F1 Hy.out hsm (Sts.of_one h1) (HT.out.keeps hS7.keeps))
              have Htk := hid htk
              unfold secV at HC
              clear hS hS7 h1 htk hs e0 e1 e2 e3 e4 hsm
              go_wp2_with fail
              refine HC.out.mono ?_; rintro e w7 ⟨rfl, hS8⟩
              have hS8 := bk hS8
              simp only [Kw.red] at hS8
              have HS8 := hid hS8
              clear hS8 HC bk s0 s1 s2 s3 s4 d1
              go_wp2_with fail
              go_roundw
              case rel => exact ⟨i + 1, by omega, by go_num, by rw [Htk.out, ← List.append_assoc]; exact HS8.out.sub [0, 1, 2]⟩
              case measure => simp [intOf]; omega
            · have b2 : decide (i < q.length) = false := by simpa using hil
              rw [List.take_of_length_le (show q.length ≤ i by omega)] at hS
              have HS8 := hid hS
              clear hS
              go_wp2_with fail
              go_roundw
              case rel => exact ⟨k + 1, by omega, by go_num, by rw [Hcons.out]; exact HS8.out.sub [0, 1]⟩
              case measure => simp [intOf]; omega
      · have a1 : decide (k < m.ts.length) = false := by simpa using hlt
        have hkk : k = m.ts.length := by omega
        subst hkk
        have HS8 := hid hS
        clear hS
        go_wp2_with fail
        go_end0
        exact ⟨rfl, HS8.out.sub [0]⟩
set_option maxRecDepth 100000 in
set_option maxHeartbeats 8000000 in
theorem lower4_any {w0 w : World} {p : Nat} {m : TM} {x : TabX} {a1 a2 a3 a4 : Value} (T : TabAt w0 p m x) (id : Int) (c : List (Nat × Sec) → Ch) (K : Nat) (hcf : ∀ args w, (callFunc K args).run Tryz.prog w = .ok (.enter K args) w)
    (hstep : ∀ lev, levAt m.ts id = some lev → ∀ (l : List (Nat × Sec)) (j : Nat) (t : Task) (s : Sec) (w : World) (F : Nat → Prop), m.ts[j]? = some t → s ∈ secsOf t → (c l).holds F w → TabAt w p m x → Calls Tryz.prog K #[.int .i64 j, secV s, .int .i64 lev, a1, a2, a3, a4] w fun e w' => e = .returned (.tuple #[]) ∧ St F w [c (l ++ [(j, s)])] w')
    (HS : St (fun _ => False) w0 [c []] w) : Calls Tryz.prog 101 #[.pointer (some ⟨p, 0, none⟩), .int .i64 id, .func (.func K) #[] #[a1, a2, a3, a4]] w fun e w' => e = .returned (.tuple #[]) ∧ St (fun _ => False) w0 [c (lowsId m.ts id)] w' := by
  have T1 := hid (T.keeps HS.keeps)
  have HT := hid T
  have HS0 := hid HS
  have hfew := T.few
  unfold lowsId
  rcases id_cases m.ts id with ho | ⟨i, t, rfl, ht⟩
  · have e : levAt m.ts id = none := by
      have := out_none ho
      unfold taskI at this
      unfold levAt
      split
      · rfl
      · rename_i h0
        rw [if_neg h0] at this
        rw [this]; rfl
    rw [e]
    have HG := hid (get_out T1.out id ho)
    clear hstep e ho T HS
    go_enter Tryz.func101, Tryz.ntmps101
    go_wp2_with fail
    refine HG.out.mono ?_; rintro e w2 ⟨rfl, k2⟩
    have HS2 := hid ((HS0.out.step k2).new TTk ztask)
    clear k2 HG
    go_wp2_with fail
    refine bodyPost_ret (v := .tuple #[]) (by simp [results, Tryz.results101]) rfl ?_
    refine ⟨rfl, ?_⟩
    exact HS2.out.sub [0]
  · have e : levAt m.ts i = some t.level := by
      unfold levAt
      rw [if_neg (by omega), Int.toNat_natCast, ht]; rfl
    rw [e]
    have hst := hstep t.level e
    have hlevs := fun (t : Task) (h : t ∈ m.ts) => T.tok.ok.fit t h
    have HG := hid (get_in T1.out ht)
    have Hst := hid hst
    have Hfit := hid hlevs
    simp only
    unfold lows
    unfold taskV at HG
    generalize t.level = lev at *
    clear hstep e hst ht hlevs T HS
    go_enter Tryz.func101, Tryz.ntmps101
    go_wp2_with fail
    refine HG.out.mono ?_; rintro e w2 ⟨gn, rfl, hS⟩
    obtain ⟨xl, hxl⟩ : ∃ xl : List Value, xl = [.string t.name, .int .i64 lev, .int .i64 t.frame, .slice (some ⟨gn, 0, none⟩) t.needs.length t.needs.length, .string t.code, .int .i64 t.period, .int .i64 t.first, .int .i64 t.gap] := ⟨_, rfl⟩
    have hS2 := (HS0.out.step hS.keeps).new TTk xl
    simp only [Kw.red] at hS2
    have hl1 : xl[1]? = some (.int .i64 lev) := by rw [hxl]; rfl
    have HL1 := hid hl1
    have hln := tlen_any (HT.out.keeps hS2.keeps)
    have HS2 := hid hS2
    have HLn := hid hln
    rw [hxl] at HLn
    clear hS hS2 HG HS0 hl1 hln
    go_wp2_with fail
    refine HLn.out.mono ?_; rintro e w3 ⟨rfl, rfl⟩
    rw [← hxl]
    clear hxl HLn
    generalize w2.heap.size = xb at *
    generalize w2.alloc (.cells xl.toArray TTk) = w3 at *
    go_wp2_with fail
    go_loopw [25] (fun y wr => ∃ k : Nat, k ≤ m.ts.length ∧ y = .int .i64 k ∧ St (fun _ => False) w0 [c (lowsTo lev m.ts k), .pt xb TTk xl] wr) (fun y _ => m.ts.length - (intOf y).toNat)
    case atStart => exact ⟨0, Nat.zero_le _, rfl, HS2.out⟩
    case round =>
      clear HS2
      obtain ⟨k, hk, rfl, hS⟩ := hrel
      by_cases hlt : k < m.ts.length
      · have a1 : decide (k < m.ts.length) = true := by simpa using hlt
        have hy := List.getElem?_eq_getElem hlt
        have hfy := Hfit.out _ (List.getElem_mem hlt)
        have hcons := lowsTo_snoc (lev := lev) hy
        have TK := hid (HT.out.keeps hS.keeps)
        have HG2 := hid (get_in TK.out hy)
        generalize m.ts[k] = y at *
        have HSr := hid hS
        have Hcons := hid hcons
        have Hy := hid hy
        unfold taskV at HG2
        clear hS hcons hy TK
        go_wp2_with fail
        refine HG2.out.mono ?_; rintro e w4 ⟨gy, rfl, hS4⟩
        have hS5 := (HSr.out.step hS4.keeps).new TTk [.string y.name, .int .i64 y.level, .int .i64 y.frame, .slice (some ⟨gy, 0, none⟩) y.needs.length y.needs.length, .string y.code, .int .i64 y.period, .int .i64 y.first, .int .i64 y.gap]
        simp only [Kw.red] at hS5
        have d1 := (hS5.blk 1).at HL1.out
        have HS5 := hid (hS5.sub [0, 1])
        clear hS4 hS5 HG2 HSr
        by_cases hge : lev ≤ y.level
        · have b1 : decide (lev ≤ y.level) = true := by simpa using hge
          rw [if_neg (by omega)] at Hcons
          clear hge
          go_wp2_with fail
          go_roundw
          case rel => exact ⟨k + 1, by omega, by go_num, by rw [Hcons.out]; exact HS5.out⟩
          case measure => simp [intOf]; omega
        · have b1 : decide (lev ≤ y.level) = false := by simpa using hge
          rw [if_pos (by omega)] at Hcons
          have HSc := hid (sections_in (HT.out.keeps HS5.out.keeps) Hy.out)
          have hql : (secsOf y).length ≤ 4096 := Nat.le_trans (secs_ok hfy).few (Cm.prog_le _)
          obtain ⟨q, hq⟩ : ∃ q, secsOf y = q := ⟨_, rfl⟩
          have hmem : ∀ s ∈ q, s ∈ secsOf y := by rw [hq]; exact fun _ h => h
          have Hmem := hid hmem
          rw [hq] at Hcons HSc hql
          clear hge hfy hmem hq
          go_wp2_with fail
          refine HSc.out.mono ?_; rintro e w6 ⟨sv, rfl, hS⟩
          obtain ⟨sa, sc, rfl, hsc⟩ := (hS.vec 0).shape
          have hS6 := HS5.out.adds hS
          simp only [Kw.red] at hS6
          have HS6 := hid hS6
          clear hS hS6 HS5 HSc d1
          go_wp2_with fail
          go_loopw [43] (fun z wx => ∃ i : Nat, i ≤ q.length ∧ z = .int .i64 i ∧ St (fun _ => False) w0 [c (lowsTo lev m.ts k ++ (q.take i).map (Prod.mk k)), .pt xb TTk xl, .vec TSe 5 (.slice sa q.length sc) q.length (secsC q)] wx) (fun z _ => q.length - (intOf z).toNat)
          case atStart => exact ⟨0, Nat.zero_le _, rfl, by have h := HS6.out; simpa using h⟩
          case round =>
            clear HS6
            obtain ⟨i, hi, rfl, hS⟩ := hrel
            by_cases hil : i < q.length
            · have b2 : decide (i < q.length) = true := by simpa using hil
              have hs := List.getElem?_eq_getElem hil
              have hsm := Hmem.out _ (List.getElem_mem hil)
              obtain ⟨gs, cs, e1, -, -⟩ := (hS.vec 2).form (by omega)
              cases e1
              obtain ⟨e0, e1, e2, e3, e4⟩ := secsC_at hs
              have s0 := (hS.vec 2).cells' (g := gs) rfl e0
              have s1 := (hS.vec 2).cells' (g := gs) rfl e1
              have s2 := (hS.vec 2).cells' (g := gs) rfl e2
              have s3 := (hS.vec 2).cells' (g := gs) rfl e3
              have s4 := (hS.vec 2).cells' (g := gs) rfl e4
              have htk := map_take_snoc (k := k) hs
              generalize q[i] = s at *
              have i0 : (0 : Int) ≤ (i : Int) := by omega
              have i1 : (i : Int) < (q.length : Int) := by omega
              have d1 := (hS.blk 1).at HL1.out
              have hS7 := hS.new TSe [.int .i64 s.res, .int .i64 s.units, .int .i64 s.held, .int .i64 s.frm, .int .i64 s.upto]
              simp only [Kw.red] at hS7
              obtain ⟨F1, h1, _, _, bk⟩ := hS7.sel [0]
              have HC := hid (Hst.out _ k y s _ F1 Hy.out hsm (Sts.of_one h1) (HT.out.keeps hS7.keeps))
              have Htk := hid htk
              unfold secV at HC
              clear hS hS7 h1 htk hs e0 e1 e2 e3 e4 hsm
              go_wp2_with fail
              refine HC.out.mono ?_; rintro e w7 ⟨rfl, hS8⟩
              have hS8 := bk hS8
              simp only [Kw.red] at hS8
              have HS8 := hid hS8
              clear hS8 HC bk s0 s1 s2 s3 s4 d1
              go_wp2_with fail
              go_roundw
              case rel => exact ⟨i + 1, by omega, by go_num, by rw [Htk.out, ← List.append_assoc]; exact HS8.out.sub [0, 1, 2]⟩
              case measure => simp [intOf]; omega
            · have b2 : decide (i < q.length) = false := by simpa using hil
              rw [List.take_of_length_le (show q.length ≤ i by omega)] at hS
              have HS8 := hid hS
              clear hS
              go_wp2_with fail
              go_roundw
              case rel => exact ⟨k + 1, by omega, by go_num, by rw [Hcons.out]; exact HS8.out.sub [0, 1]⟩
              case measure => simp [intOf]; omega
      · have a1 : decide (k < m.ts.length) = false := by simpa using hlt
        have hkk : k = m.ts.length := by omega
        subst hkk
        have HS8 := hid hS
        clear hS
        go_wp2_with fail
        go_end0
        exact ⟨rfl, HS8.out.sub [0]⟩

/-- A number and the table, as closures hold them. -/
def termC (p tb nb : Nat) (m : TM) (lev : Int) (l : List (Nat × Sec)) : Ch := .stars [.pt tb 26 [.pointer (some ⟨p, 0, none⟩)], .pt nb TI' [.int .i64 (gmax (termP m lev) lenP l)]]
def longC (nb : Nat) (l : List (Nat × Sec)) : Ch := .pt nb TI' [.int .i64 (gmax (fun _ => true) lenP l)]
theorem lenP_bd {m : TM} (hm : m.Ok) {j : Nat} {t : Task} {s : Sec} (ht : m.ts[j]? = some t) (hs : s ∈ secsOf t) : (s.frm : Int) < s.upto ∧ (s.upto : Int) ≤ 4096 := by
  have h := sec_mem (hm.fit t (List.mem_of_getElem? ht)) hs
  have h1 := h.2.1.lt
  have h2 := h.2.2
  have h3 := Cm.prog_le t.code.data.toList
  have h4 : (prog t).1.length ≤ 4096 := h3
  omega
section
variable {w : World} {F : Nat → Prop} {p : Nat} {m : TM} {x : TabX}
set_option maxRecDepth 100000 in
set_option maxHeartbeats 2000000 in
theorem longStep_any {nb : Nat} {l : List (Nat × Sec)} {j : Nat} {t : Task} {s : Sec} {lev : Int} (ht : m.ts[j]? = some t) (hs : s ∈ secsOf t) (h : (longC nb l).holds F w) (T : TabAt w p m x) :
    Calls Tryz.prog 107 #[.int .i64 j, secV s, .int .i64 lev, .pointer (some ⟨nb, 0, none⟩)] w fun e w' => e = .returned (.tuple #[]) ∧ St F w [longC nb (l ++ [(j, s)])] w' := by
  obtain ⟨hb1, hb2⟩ := lenP_bd T.tok.ok ht hs
  unfold longC at h ⊢
  rw [gmax_app]
  simp only [if_true]
  rw [show lenP (j, s) = (s.upto : Int) - s.frm from rfl]
  generalize gmax (fun _ => true) lenP l = N at *
  have hS := (St.of (Sts.one h)).new TSe [.int .i64 s.res, .int .i64 s.units, .int .i64 s.held, .int .i64 s.frm, .int .i64 s.upto]
  simp only [Kw.red] at hS
  have c0 := (hS.blk 0).cell 0
  have cz := (hS.blk 0).fz
  simp only [List.getElem?_cons_zero] at c0
  have hnb : nb < w.heap.size := (St.of (Sts.one h)).blk 0 |>.lt
  have c0' := ((St.of (Sts.one h)).blk 0).cell 0
  have cz' := ((St.of (Sts.one h)).blk 0).fz
  simp only [List.getElem?_cons_zero] at c0'
  have hS3 := ((St.of (Sts.one h)).set 0 0 (.int .i64 (max N ((s.upto : Int) - s.frm)))).new TSe [.int .i64 s.res, .int .i64 s.units, .int .i64 s.held, .int .i64 s.frm, .int .i64 s.upto]
  simp only [Kw.red] at hS3
  have HS := hid (hS3.sub [0])
  unfold secV
  clear h hS hS3 T
  go_enter Tryz.func107, Tryz.ntmps107
  go_wp2_with fail
  go_end0
  exact ⟨rfl, HS.out⟩
set_option maxRecDepth 100000 in
set_option maxHeartbeats 2000000 in
theorem termStep_any {tb nb : Nat} {l : List (Nat × Sec)} {j : Nat} {t : Task} {s : Sec} {lev : Int} (ht : m.ts[j]? = some t) (hs : s ∈ secsOf t) (h : (termC p tb nb m lev l).holds F w) (T : TabAt w p m x) :
    Calls Tryz.prog 105 #[.int .i64 j, secV s, .int .i64 lev, .pointer (some ⟨tb, 0, none⟩), .pointer (some ⟨nb, 0, none⟩)] w fun e w' => e = .returned (.tuple #[]) ∧ St F w [termC p tb nb m lev (l ++ [(j, s)])] w' := by
  obtain ⟨hb1, hb2⟩ := lenP_bd T.tok.ok ht hs
  have hS0 := St.of (cs := [.pt tb 26 [.pointer (some ⟨p, 0, none⟩)], .pt nb TI' [.int .i64 (gmax (termP m lev) lenP l)]]) h
  unfold termC
  rw [gmax_app]
  have hP : termP m lev (j, s) = decide (lev ≤ m.ceilAt s.res 0) := rfl
  rw [hP, show lenP (j, s) = (s.upto : Int) - s.frm from rfl]
  generalize gmax (termP m lev) lenP l = N at *
  have hS := hS0.new TSe [.int .i64 s.res, .int .i64 s.units, .int .i64 s.held, .int .i64 s.frm, .int .i64 s.upto]
  simp only [Kw.red] at hS
  have hM := max_any (T.keeps ((Keeps.refl (fun _ => False) w).alloc (.cells #[.int .i64 s.res, .int .i64 s.units, .int .i64 s.held, .int .i64 s.frm, .int .i64 s.upto] TSe))) s.res
  generalize m.ceilAt s.res 0 = CE at *
  have HM := hid hM
  have HS := hid hS
  have t0 := (hS.blk 0).cell 0
  have t0' := (hS0.blk 0).cell 0
  simp only [List.getElem?_cons_zero] at t0 t0'
  unfold secV
  clear h hS hM T hP
  by_cases hc : lev ≤ CE
  · have b0 : decide (lev ≤ CE) = true := by simpa using hc
    rw [b0]
    simp only [if_true]
    clear hc
    go_enter Tryz.func105, Tryz.ntmps105
    go_wp2_with fail
    refine HM.out.mono ?_; rintro e w1 ⟨rfl, k1⟩
    have HS1 := hid (HS.out.step k1)
    have c0 := (HS1.out.blk 1).cell 0
    have cz := (HS1.out.blk 1).fz
    have s3 := (HS1.out.blk 2).cell 3
    have s4 := (HS1.out.blk 2).cell 4
    simp only [List.getElem?_cons_zero, List.getElem?_cons_succ] at c0 s3 s4
    clear HM HS k1
    go_wp2_with fail
    go_end0
    refine ⟨rfl, ?_⟩
    have h2 := HS1.out.set 1 0 (.int .i64 (max N ((s.upto : Int) - s.frm)))
    simp only [Kw.red] at h2
    exact (h2.fold [0, 1] (.stars [.pt tb 26 [.pointer (some ⟨p, 0, none⟩)], .pt nb TI' [.int .i64 (max N ((s.upto : Int) - s.frm))]]) (fun F h => h)).sub [0]
  · have b0 : decide (lev ≤ CE) = false := by simpa using hc
    rw [b0]
    simp only [Bool.false_eq_true, if_false]
    clear hc
    go_enter Tryz.func105, Tryz.ntmps105
    go_wp2_with fail
    refine HM.out.mono ?_; rintro e w1 ⟨rfl, k1⟩
    have HS1 := hid (HS.out.step k1)
    clear HM HS k1
    go_wp2_with fail
    go_end0
    refine ⟨rfl, ?_⟩
    exact (HS1.out.fold [0, 1] (.stars [.pt tb 26 [.pointer (some ⟨p, 0, none⟩)], .pt nb TI' [.int .i64 N]]) (fun F h => h)).sub [0]
end
section
variable {w : World} {p : Nat} {m : TM} {x : TabX}
theorem term_eq (m : TM) (id : Int) : term m id = gmax (termP m ((levAt m.ts id).getD 0)) lenP (lowsId m.ts id) := by
  unfold term termL lowsId
  cases levAt m.ts id <;> rfl
theorem long_eq (m : TM) (id : Int) : longest m id = gmax (fun _ => true) lenP (lowsId m.ts id) := by
  unfold longest longL lowsId
  cases levAt m.ts id <;> rfl
set_option maxRecDepth 100000 in
set_option maxHeartbeats 2000000 in
theorem term_any (h : TabAt w p m x) (id : Int) : Calls Tryz.prog 34 #[.pointer (some ⟨p, 0, none⟩), .int .i64 id] w fun e w' => e = .returned (.int .i64 (term m id)) ∧ Keeps (fun _ => False) w w' := by
  rw [term_eq]
  have hS := ((St.start w).new 26 [.pointer (some ⟨p, 0, none⟩)]).new TI' [.int .i64 0]
  rw [show (w.alloc (.cells [Value.pointer (some ⟨p, 0, none⟩)].toArray 26)).heap.size = w.heap.size + 1 by simp] at hS
  simp only [Kw.red] at hS
  obtain ⟨lev, hlev⟩ : ∃ lev, (levAt m.ts id).getD 0 = lev := ⟨_, rfl⟩
  rw [hlev]
  have hS2 : St (fun _ => False) w [termC p w.heap.size (w.heap.size + 1) m lev []] _ := (hS.fold [0, 1] (termC p w.heap.size (w.heap.size + 1) m lev []) (fun F h => h)).sub [0]
  have hL := lower2_any h id (termC p w.heap.size (w.heap.size + 1) m lev) 105 enter_term (a1 := .pointer (some ⟨w.heap.size, 0, none⟩)) (a2 := .pointer (some ⟨w.heap.size + 1, 0, none⟩))
    (fun lev' hl l j t s w F ht hs hc hT => by
      obtain rfl : lev' = lev := by rw [← hlev, hl]; rfl
      exact termStep_any ht hs hc hT) hS2
  have HL := hid hL
  clear h hS hS2 hL hlev
  go_enter Tryz.func34, Tryz.ntmps34
  go_wp2_with fail
  refine HL.out.mono ?_; rintro e w1 ⟨rfl, hS⟩
  obtain ⟨F1, hc, -⟩ := hS.at 0 rfl
  have hS1 := St.of (cs := [.pt w.heap.size 26 [.pointer (some ⟨p, 0, none⟩)], .pt (w.heap.size + 1) TI' [.int .i64 (gmax (termP m lev) lenP (lowsId m.ts id))]]) hc
  have c0 := (hS1.blk 1).cell 0
  simp only [List.getElem?_cons_zero] at c0
  have K := hid hS.keeps
  clear hS hS1 hc
  go_wp2_with fail
  go_ret
  exact ⟨rfl, K.out⟩
set_option maxRecDepth 100000 in
set_option maxHeartbeats 2000000 in
theorem longest_any (h : TabAt w p m x) (id : Int) : Calls Tryz.prog 36 #[.pointer (some ⟨p, 0, none⟩), .int .i64 id] w fun e w' => e = .returned (.int .i64 (longest m id)) ∧ Keeps (fun _ => False) w w' := by
  rw [long_eq]
  have hS := (St.start w).new TI' [.int .i64 0]
  simp only [Kw.red] at hS
  have hS2 : St (fun _ => False) w [longC w.heap.size []] _ := hS
  have hL := lower1_any h id (longC w.heap.size) 107 enter_long (a1 := .pointer (some ⟨w.heap.size, 0, none⟩))
    (fun lev' hl l j t s w F ht hs hc hT => longStep_any ht hs hc hT) hS2
  have HL := hid hL
  clear h hS hS2 hL
  go_enter Tryz.func36, Tryz.ntmps36
  go_wp2_with fail
  refine HL.out.mono ?_; rintro e w1 ⟨rfl, hS⟩
  have hS1 : St (fun _ => False) w [.pt w.heap.size TI' [.int .i64 (gmax (fun _ => true) lenP (lowsId m.ts id))]] w1 := hS
  have c0 := (hS1.blk 0).cell 0
  simp only [List.getElem?_cons_zero] at c0
  have K := hid hS.keeps
  clear hS hS1
  go_wp2_with fail
  go_ret
  exact ⟨rfl, K.out⟩
end
section
variable {w : World} {p : Nat} {m : TM} {x : TabX}
theorem greatest_take (m : TM) (k : Nat) : gmax (fun _ => true) (fun j : Nat => term m j) (List.range (k + 1)) = max (gmax (fun _ => true) (fun j : Nat => term m j) (List.range k)) (term m k) := by
  rw [List.range_succ, gmax_app]
  simp
set_option maxRecDepth 100000 in
set_option maxHeartbeats 2000000 in
theorem greatest_any (h : TabAt w p m x) : Calls Tryz.prog 38 #[.pointer (some ⟨p, 0, none⟩)] w fun e w' => e = .returned (.int .i64 (greatest m)) ∧ Keeps (fun _ => False) w w' := by
  have H := hid h
  have HL := hid (tlen_any h)
  have hfew := h.few
  obtain ⟨G, hG⟩ : ∃ G, greatest m = G := ⟨_, rfl⟩
  rw [hG]
  have HG := hid hG
  clear h hG
  go_enter Tryz.func38, Tryz.ntmps38
  go_wp2_with fail
  refine HL.out.mono ?_; rintro e w1 ⟨rfl, rfl⟩
  clear HL
  go_wp2_with fail
  go_loopw [9, 3] (fun y z wr => ∃ k : Nat, k ≤ m.ts.length ∧ y = .int .i64 k ∧ z = .int .i64 (gmax (fun _ => true) (fun j : Nat => term m j) (List.range k)) ∧ Keeps (fun _ => False) w wr) (fun y _ _ => m.ts.length - (intOf y).toNat)
  case atStart => exact ⟨0, Nat.zero_le _, rfl, rfl, Keeps.refl _ _⟩
  case round =>
    obtain ⟨k, hk, rfl, rfl, hK⟩ := hrel
    by_cases hlt : k < m.ts.length
    · have a1 : decide (k < m.ts.length) = true := by simpa using hlt
      have ht := greatest_take m k
      have HT := hid (term_any (H.out.keeps hK) k)
      generalize gmax (fun _ => true) (fun j : Nat => term m j) (List.range k) = N at *
      generalize term m k = TK at *
      have Ht := hid ht
      have KK := hid hK
      clear ht hK
      go_wp2_with fail
      refine HT.out.mono ?_; rintro e w2 ⟨rfl, k2⟩
      have K2 := hid (KK.out.trans k2)
      clear k2 HT
      go_wp2_with fail
      go_roundw
      case rel => exact ⟨k + 1, by omega, by go_num, by rw [Ht.out], K2.out⟩
      case measure => simp [intOf]; omega
    · have a1 : decide (k < m.ts.length) = false := by simpa using hlt
      have hkk : k = m.ts.length := by omega
      subst hkk
      have e : gmax (fun _ => true) (fun j : Nat => term m j) (List.range m.ts.length) = G := HG.out
      rw [e]
      have KK := hid hK
      clear hK e
      go_wp2_with fail
      go_ret
      exact ⟨rfl, KK.out⟩
end
end Go.Proofs.YtnkjjhenfhnajaaGreatDoor
