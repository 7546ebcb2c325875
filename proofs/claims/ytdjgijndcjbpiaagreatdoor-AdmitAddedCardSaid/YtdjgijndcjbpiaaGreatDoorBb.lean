/-
  Package admit, walked: the end of a section.
-/
import Derived.Test.YtdjgijndcjbpiaaGreatDoorBa
namespace Go.Proofs.YtdjgijndcjbpiaaGreatDoor
open Go.RowKit Go.Kw Go.Kreg Go.Tm Go.Ad
set_option linter.unusedSimpArgs false
set_option linter.unusedVariables false

abbrev TA16 : Nat := 183
theorem run_idxA (w : World) (g o : Nat) {j : Nat} (hj : j < 16) : (Instr.indexAt TA16 (.pointer (some ⟨g, o, none⟩)) (.int .i64 j)).run Tryz.prog w = .ok (.pointer (some ⟨g, o + j, none⟩)) w := by
  have hal : Tryz.prog.arrayLen TA16 = 16 := by kernel_rfl
  have hel : Tryz.prog.elem TA16 = 3 := by kernel_rfl
  have hz : (Go.sizeOf 3).run Tryz.prog w = .ok 1 w := by
    have hi : (Tryz.prog.info? 3).map (·.size) = some 1 := by kernel_rfl
    cases hq : Tryz.prog.info? 3 with
    | none => simp [hq] at hi
    | some i =>
      simp only [hq, Option.map_some, Option.some.injEq] at hi
      simp [sizeOf, typeInfo, hq, hi]
  rw [run_indexAt_array w TA16 _ _ _ (by kernel_rfl), hal, hel, if_pos ⟨by omega, by omega⟩, hz]
  simp [Result.andThen, add_at]
theorem wpFront_idxA {ops : Array Oper} {C : World → Prop} {Lq : Act → Prop} {a : Act} {o : Oper} {rest : List Oper} {x ix : Operand} {g f j : Nat}
    (hgd : o.guard = none) (ho : o.op = .indexAddr TA16 x ix) (hx : a.eval x = .pointer (some ⟨g, f, none⟩)) (hix : a.eval ix = .int .i64 j) (hj : j < 16)
    (h : wpFront Tryz.prog ops C Lq rest (a.put o.dst (.pointer (some ⟨g, f + j, none⟩)))) : wpFront Tryz.prog ops C Lq (o :: rest) a := by
  refine wpFront_other (by rw [ho]; rfl) ?_
  refine wpQuiet_step fun K hK => ?_
  have hw : Region.wanted o (yielded ops a.tmps) = true := by unfold Region.wanted; rw [hgd]
  rw [if_pos hw]
  refine ⟨.pointer (some ⟨g, f + j, none⟩), fun w' hw' => ?_, hK _ h⟩
  unfold Oper.quietAt
  simp [execOp, ho, hx, hix, run_idxA w' g f hj, Oper.quietUpon, Result.andThen]
theorem wpList_idxA {ops : Array Oper} {w : World} {Q : Exit → Act → World → Prop} {a : Act} {o : Oper} {rest : List Oper} {x ix : Operand} {g f j : Nat}
    (hgd : o.guard = none) (ho : o.op = .indexAddr TA16 x ix) (hx : a.eval x = .pointer (some ⟨g, f, none⟩)) (hix : a.eval ix = .int .i64 j) (hj : j < 16)
    (h : wpList Tryz.prog ops Q rest (a.put o.dst (.pointer (some ⟨g, f + j, none⟩))) w) : wpList Tryz.prog ops Q (o :: rest) a w := by
  refine wpList_plain hgd fun K hK => ?_
  unfold Oper.wp execOp
  simp only [ho, hx, hix, Sem.run_bind, Sem.run_pure, Result.andThen_ok, run_idxA w g f hj]
  exact hK _ _ h
theorem wpKeep_idxA {ops : Array Oper} {C : World → Prop} {Lq : Act → Prop} {a : Act} {o : Oper} {rest : List Oper} {x ix : Operand} {g f j : Nat}
    (hgd : o.guard = none) (ho : o.op = .indexAddr TA16 x ix) (hx : a.eval x = .pointer (some ⟨g, f, none⟩)) (hix : a.eval ix = .int .i64 j) (hj : j < 16)
    (h : wpQuiet Tryz.prog ops C Lq rest (a.put o.dst (.pointer (some ⟨g, f + j, none⟩)))) : wpQuiet Tryz.prog ops C Lq (o :: rest) a := by
  refine wpQuiet_step fun K hK => ?_
  have hw : Region.wanted o (yielded ops a.tmps) = true := by unfold Region.wanted; rw [hgd]
  rw [if_pos hw]
  refine ⟨.pointer (some ⟨g, f + j, none⟩), fun w' hw' => ?_, hK _ h⟩
  unfold Oper.quietAt
  simp [execOp, ho, hx, hix, run_idxA w' g f hj, Oper.quietUpon, Result.andThen]
theorem intsC_take (l : List Int) (n : Nat) : (intsC l).take n = intsC (l.take n) := by simp [intsC, List.map_take]
section
variable {w : World} {F : Nat → Prop} {g : Nat} {o : OW} {ov sv : Value} {nd : Int → Int} {l : List Cm.Op} {t b : Nat}
theorem heldOf_bd (hi : Inv nd l t b o) (hn : ∀ r, nd r ≤ 255) (ht : t ≤ 5000) {r : Int} (h0 : 0 ≤ r) (h1 : r < 16) : 0 ≤ o.heldOf r ∧ o.heldOf r ≤ 1275000 := by
  refine ⟨hi.nneg h0 h1, ?_⟩
  have h2 := openSum_le hi.each hn r hi.lt
  have h3 := hi.opn_le
  have h4 := hi.few
  rw [hi.held r h0 h1]; omega
set_option maxRecDepth 100000 in
set_option maxHeartbeats 4000000 in
theorem end_any (hi : Inv nd l t b o) (hn : ∀ r, nd r ≤ 255) (ht : t ≤ 5000) (H : Sts (ownCs g o ov sv) F w) {k : Nat} {r : List Nat} (he : o.opn = k :: r) (at_ : Nat) :
    Calls Tryz.prog 132 #[.pointer (some ⟨g, 0, none⟩), .int .i64 at_] w fun e w' => e = .returned (.tuple #[]) ∧ ∃ ov', St F w (ownCs g (o.endOne at_) ov' sv) w' := by
  have hk : k < o.out.length := hi.lt k (by rw [he]; simp)
  have hs := sec_at hk
  have hnew : o.endOne at_ = ⟨o.held.set (o.sec k).res.toNat (o.heldOf (o.sec k).res - (o.sec k).units), r, o.out.set k ⟨(o.sec k).res, (o.sec k).units, (o.sec k).held, (o.sec k).frm, at_⟩⟩ := by
    unfold OW.endOne; rw [he]
  obtain ⟨hok, -⟩ := hi.each k _ hs
  have hres := hok.res
  have hun := hok.units
  have hhd := hok.held
  have hnn := hn (o.sec k).res
  obtain ⟨hb0, hb1⟩ := heldOf_bd hi hn ht hres.1 hres.2
  have hl := hi.hl
  have hfew := hi.few
  have hol := hi.opn_le
  unfold OW.heldOf at hb0 hb1 hnew
  generalize o.sec k = s at *
  obtain ⟨q, hq⟩ := Int.eq_ofNat_of_zero_le hres.1
  rw [hq, Int.toNat_natCast] at hb0 hb1 hnew
  have q16 : q < 16 := by omega
  rw [hnew]
  obtain ⟨o2, ho2⟩ : ∃ o2 : List Sec, o.out.set k ⟨(q : Int), s.units, s.held, s.frm, at_⟩ = o2 := ⟨_, rfl⟩
  rw [ho2]
  have Hk2 := hid (show o2[k]? = some ⟨(q : Int), s.units, s.held, s.frm, at_⟩ by rw [← ho2, List.getElem?_set, if_pos rfl, if_pos hk])
  have Hset := hid (show (secsC o.out).set (k * 5 + 4) (.int .i64 at_) = secsC o2 by rw [secsC_set hs, hq, ho2])
  have Hlen := hid (show o.out.length = o2.length by rw [← ho2, List.length_set])
  have hS := St.of H
  unfold ownCs at hS
  rw [he] at hS
  obtain ⟨gs, cs, rfl, -⟩ := (hS.own 2).form (by omega)
  obtain ⟨go, co, rfl, -⟩ := (hS.own 1).form (by simp)
  have hco : r.length + 1 ≤ co := by
    obtain ⟨a, c, e, h⟩ := (hS.own 1).shape
    injection e with _ _ e3
    rw [e3]; exact h
  have hlen : (k :: r).length = r.length + 1 := rfl
  have hrl : r.length + 1 ≤ 5000 := by
    have h1 : o.opn.length = r.length + 1 := by rw [he]; rfl
    omega
  have c16 := (hS.blk 0).at (ownL_ov hl)
  have c17 := (hS.blk 0).at (ownL_sv hl)
  have cq := (hS.blk 0).at (ownL_held (ov := .slice (some ⟨go, 0, none⟩) (k :: r).length co) (sv := .slice (some ⟨gs, 0, none⟩) o.out.length cs) hl q16)
  have ck := (hS.own 1).cells' (g := go) rfl (intsC_at (opnI_top k r))
  obtain ⟨e0, e1, -, -, e4⟩ := secsC_at hs
  have s0 := (hS.own 2).cells' (g := gs) rfl e0
  have s1 := (hS.own 2).cells' (g := gs) rfl e1
  have s4 := (hS.own 2).cells' (g := gs) rfl e4
  have sz := (hS.own 2).fz (g := gs) rfl (k * 5 + 4)
  have s4z := (hS.own 2).fz (g := gs) rfl (k * 5 + 4)
  rw [hlen] at *
  have HS := hid hS
  have Hs := hid hs
  have Hq := hid hq
  generalize hHQ : o.held.getD q 0 = HQ at *
  rw [hq] at s0
  clear H hS he hnew hs e0 e1 e4 hq hok ho2 sz
  go_enter Tryz.func132, Tryz.ntmps132
  have i0 : (0 : Int) ≤ (r.length : Int) := by omega
  have i1 : (r.length : Int) < (r.length : Int) + 1 := by omega
  have j0 : (0 : Int) ≤ (k : Int) := by omega
  have j1 : (k : Int) < (o.out.length : Int) := by omega
  go_wp2_with fail
  refine wp_region_mix [true, true, true, true, true, true, true, true, true, true, true, true, true, true, true, true, true, false] 0 (fun _ => False) (by kernel_rfl) (by decide +kernel) ?_
  simp only [front, back, List.take_zero, List.drop_zero]
  repeat ((first | refine wpFront_load rfl ?_ | refine wpFront_other rfl ?_); (first | go_big_quiet_step (fail) | quiet_step (fail)); refine wpQuiet_nil ?_)
  refine wpFront_nil ?_
  simp only [wpSegs]
  go_wp2_with fail
  refine NoPanic.normal ?_
  go_wp2_with fail
  have hS2 := (st_setRowN 2 HS.out (v := .slice (some ⟨gs, 0, none⟩) o.out.length cs) rfl (k * 5 + 4) (.int .i64 at_)).drew
  simp only [Kw.red] at hS2
  rw [Hset.out] at hS2
  obtain ⟨e0, e1, -⟩ := secsC_at Hk2.out
  simp only at e0 e1
  generalize hw2 : (w.setCell ⟨gs, k * 5 + 4, none⟩ (.int .i64 at_)).drew = w2 at *
  have s0 := (hS2.own 2).cells' (g := gs) rfl e0
  have s1 := (hS2.own 2).cells' (g := gs) rfl e1
  have cq := (hS2.blk 0).at (ownL_held (ov := .slice (some ⟨go, 0, none⟩) (r.length + 1) co) (sv := .slice (some ⟨gs, 0, none⟩) o.out.length cs) hl q16)
  have cz := (hS2.blk 0).fz q
  rw [hHQ] at cq
  have HS2 := hid hS2
  clear hS2 hw2 e0 e1
  refine wp_region_mix [true, true, true, true, true, true, true, true, true, true, true, true, true, true, true, true, false, false] 0 (fun _ => False) (by kernel_rfl) (by decide +kernel) ?_
  simp only [front, back, List.take_zero, List.drop_zero]
  repeat (first | (refine wpFront_idxA (g := g) (f := 0) (j := q) rfl rfl rfl rfl q16 ?_) | ((first | refine wpFront_load rfl ?_ | refine wpFront_other rfl ?_); (first | go_big_quiet_step (fail) | quiet_step (fail)); refine wpQuiet_nil ?_))
  refine wpFront_nil ?_
  simp only [wpSegs]
  go_wp2_with (refine wpList_idxA (g := g) (f := 0) (j := q) rfl rfl rfl rfl q16 ?_)
  refine NoPanic.normal ?_
  go_wp2_with fail
  have hS3 := (HS2.out.set 0 q (.int .i64 (HQ - s.units))).drew
  simp only [Kw.red] at hS3
  rw [ownL_setH hl q16] at hS3
  generalize (w2.setCell ⟨g, q, none⟩ (.int .i64 (HQ - s.units))).drew = w3 at *
  have hl3 : (o.held.set q (HQ - s.units)).length = 16 := by rw [List.length_set]; exact hl
  have c16 := (hS3.blk 0).at (ownL_ov hl3)
  have z3 := (hS3.blk 0).fz
  have t4 : (r.length : Int) ≤ (co : Int) := by have h := hco; omega
  have HS3 := hid hS3
  have Hl3 := hid hl3
  clear hS3 HS2 hl3 cq cz
  refine wp_region_mix [true, true, true, true, true, true, true, true, true, true, true, true, false, false, false] 0 (fun _ => False) (by kernel_rfl) (by decide +kernel) ?_
  simp only [front, back, List.take_zero, List.drop_zero]
  repeat ((first | refine wpFront_load rfl ?_ | refine wpFront_other rfl ?_); (first | go_big_quiet_step (fail) | quiet_step (fail)); refine wpQuiet_nil ?_)
  refine wpFront_nil ?_
  simp only [wpSegs]
  go_wp2_with fail
  refine NoPanic.normal ?_
  go_wp2_with fail
  go_end0
  refine ⟨rfl, .slice (some ⟨go, 0, none⟩) r.length co, ?_⟩
  have hS4 := (HS3.out.set 0 16 (.slice (some ⟨go, 0, none⟩) r.length co)).drew
  simp only [Kw.red] at hS4
  rw [ownL_setO Hl3.out] at hS4
  have hS5 := hS4.imp 1 (c := .row TI' 1 (.slice (some ⟨go, 0, none⟩) (r.length + 1) co) (r.length + 1) (intsC (opnI (k :: r)))) (.row TI' 1 (.slice (some ⟨go, 0, none⟩) r.length co) r.length (intsC (opnI r))) (fun F h => ⟨by
    have h5 := h.1.shorter r.length (by omega)
    rw [Nat.mul_one, intsC_take, opnI_take] at h5
    exact h5, h.2⟩)
  simp only [Kw.red] at hS5
  unfold ownCs
  rw [Hlen.out] at hS5 ⊢
  exact hS5
end
end Go.Proofs.YtdjgijndcjbpiaaGreatDoor
