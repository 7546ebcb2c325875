/-
  Texts Uw Ux Uy in one.
-/
import Derived.Test.YtnkjjhenfhnajaaGreatDoorG05
import Derived.Test.YtnkjjhenfhnajaaGreatDoorG12
import Derived.Test.YtnkjjhenfhnajaaGreatDoorG13
/-
  Package ceil, walked: rowOf.
-/
namespace Go.Proofs.YtnkjjhenfhnajaaGreatDoor
open Go.RowKit Go.Kw Go.Kreg Go.Tm
set_option linter.unusedSimpArgs false
set_option linter.unusedVariables false

abbrev TCr : Nat := 231
abbrev zRow : List Value := cellsF fun _ => 0
theorem infoCr : (Tryz.prog.info? TCr).map (fun i => i.zero) = some (some (.agg (cellsF fun _ => 0).toArray)) := by kernel_rfl
theorem sizeCr : (Tryz.prog.info? TCr).map (·.size) = some 256 := by kernel_rfl
theorem sizeCr' (g : Nat → Int) : (Tryz.prog.info? TCr).map (·.size) = some (cellsF g).length := by rw [cellsF_len]; exact sizeCr
theorem results_ct {P : Program} {fn : Func} {p u : Tmp} {ty : TypeId} (h : fn.results = #[.cell p ty, .tmp u]) (tmps : Array Value) (w : World) (g : Nat) (t : TypeId) (cs : Array Value) (fr : Nat × Nat) (d : TypeDesc)
    (hp : tmps.getD p undef = .pointer (some ⟨g, 0, none⟩)) (hg : w.heap[g]? = some (.cells cs t fr))
    (hu : P.underlying ty = some d) (hd : (match d with | .struct _ | .array _ _ => true | _ => false) = true) (hi : (P.info? ty).map (·.size) = some cs.size) :
    (results fn tmps).run P w = .ok (.tuple #[.agg cs, tmps.getD u undef]) w := by
  have hp' : tmps[p]?.getD undef = .pointer (some ⟨g, 0, none⟩) := by simpa using hp
  simp [results, h, hp', asAddr, run_loadVar_row w g t ty cs fr d hg hu hd hi]
theorem sizeCrA (g : Nat → Int) : (Tryz.prog.info? TCr).map (·.size) = some (cellsF g).toArray.size := by simp [cellsF_len, sizeCr]
theorem wpFront_loadRow {P : Program} {ops : Array Oper} {C : World → Prop} {Lq : Act → Prop} {a : Act} {o : Oper} {rest : List Oper} {ty : TypeId} {x : Operand} {g : Nat} {T : TypeId} {cs : Array Value} {d : TypeDesc}
    (hgd : o.guard = none) (ho : o.op = .load ty x) (hx : a.eval x = .pointer (some ⟨g, 0, none⟩)) (hC : ∀ w', C w' → w'.heap[g]? = some (.cells cs T (0, 0)))
    (hu : P.underlying ty = some d) (hd : (match d with | .struct _ | .array _ _ => true | _ => false) = true) (hi : (P.info? ty).map (·.size) = some cs.size)
    (h : wpFront P ops C Lq rest (a.put o.dst (.agg cs))) : wpFront P ops C Lq (o :: rest) a := by
  refine wpFront_load ho ?_
  refine wpQuiet_step fun K hK => ?_
  have hw : Region.wanted o (yielded ops a.tmps) = true := by unfold Region.wanted; rw [hgd]
  rw [if_pos hw]
  refine ⟨.agg cs, fun w' hw' => ?_, hK _ h⟩
  have := run_loadVar_row (P := P) w' g T ty cs (0, 0) d (hC w' hw') hu hd hi
  unfold Oper.quietAt
  simp [execOp, ho, hx, Instr.loadAt, Instr.sureAddr, this, Oper.quietUpon, Result.andThen]
theorem run_idx (w : World) (g : Nat) {j : Nat} (hj : j < 256) : (Instr.indexAt TCr (.pointer (some ⟨g, 0, none⟩)) (.int .i64 j)).run Tryz.prog w = .ok (.pointer (some ⟨g, j, none⟩)) w := by
  have hal : Tryz.prog.arrayLen TCr = 256 := by kernel_rfl
  have hel : Tryz.prog.elem TCr = 3 := by kernel_rfl
  have hz : (Go.sizeOf 3).run Tryz.prog w = .ok 1 w := by
    have hi : (Tryz.prog.info? 3).map (·.size) = some 1 := by kernel_rfl
    cases hq : Tryz.prog.info? 3 with
    | none => simp [hq] at hi
    | some i =>
      simp only [hq, Option.map_some, Option.some.injEq] at hi
      simp [sizeOf, typeInfo, hq, hi]
  rw [run_indexAt_array w TCr _ _ _ (by kernel_rfl), hal, hel, if_pos ⟨by omega, by omega⟩, hz]
  simp [Result.andThen, add_at]
theorem wpFront_idx {ops : Array Oper} {C : World → Prop} {Lq : Act → Prop} {a : Act} {o : Oper} {rest : List Oper} {x ix : Operand} {g j : Nat}
    (hgd : o.guard = none) (ho : o.op = .indexAddr TCr x ix) (hx : a.eval x = .pointer (some ⟨g, 0, none⟩)) (hix : a.eval ix = .int .i64 j) (hj : j < 256)
    (h : wpFront Tryz.prog ops C Lq rest (a.put o.dst (.pointer (some ⟨g, j, none⟩)))) : wpFront Tryz.prog ops C Lq (o :: rest) a := by
  refine wpFront_other (by rw [ho]; rfl) ?_
  refine wpQuiet_step fun K hK => ?_
  have hw : Region.wanted o (yielded ops a.tmps) = true := by unfold Region.wanted; rw [hgd]
  rw [if_pos hw]
  refine ⟨.pointer (some ⟨g, j, none⟩), fun w' hw' => ?_, hK _ h⟩
  unfold Oper.quietAt
  simp [execOp, ho, hx, hix, run_idx w' g hj, Oper.quietUpon, Result.andThen]
theorem wpList_idx {ops : Array Oper} {w : World} {Q : Exit → Act → World → Prop} {a : Act} {o : Oper} {rest : List Oper} {x ix : Operand} {g j : Nat}
    (hgd : o.guard = none) (ho : o.op = .indexAddr TCr x ix) (hx : a.eval x = .pointer (some ⟨g, 0, none⟩)) (hix : a.eval ix = .int .i64 j) (hj : j < 256)
    (h : wpList Tryz.prog ops Q rest (a.put o.dst (.pointer (some ⟨g, j, none⟩))) w) : wpList Tryz.prog ops Q (o :: rest) a w := by
  refine wpList_plain hgd fun K hK => ?_
  unfold Oper.wp execOp
  simp only [ho, hx, hix, Sem.run_bind, Sem.run_pure, Result.andThen_ok, run_idx w g hj]
  exact hK _ _ h
abbrev taskL' (x : Task) (nd : Value) : List Value := [.string x.name, .int .i64 x.level, .int .i64 x.frame, nd, .string x.code, .int .i64 x.period, .int .i64 x.first, .int .i64 x.gap]
section
variable {w : World} {p : Nat} {m : TM} {x : TabX}
theorem rows_upd {ts : List Task} {k : Nat} {t : Task} (ht : ts[k]? = some t) (res : Int) (hn : 0 ≤ needOf t.needs res) (f : Nat) : ceil0 (ts.take (k + 1)) res f = if f < (needOf t.needs res).toNat then max (ceil0 (ts.take k) res f) t.level else ceil0 (ts.take k) res f := by
  rw [ceil0_take ht]
  by_cases h : (f : Int) < needOf t.needs res
  · rw [if_pos h, if_pos (by omega)]
  · rw [if_neg h, if_neg (by omega)]
set_option maxRecDepth 100000 in
set_option maxHeartbeats 8000000 in
theorem rowOf_any (h : TabAt w p m x) (res : Int) : Calls Tryz.prog 146 #[.pointer (some ⟨p, 0, none⟩), .int .i64 res] w fun e w' => e = .returned (.tuple #[.agg (cellsF (m.rowF res)).toArray, .int .i64 (m.rowN res)]) ∧ Keeps (fun _ => False) w w' := by
  have HS := hid (St.start w)
  have H := hid h
  clear h
  by_cases hhas : m.has res
  · have hF : m.rowF res = fun (f : Nat) => ceil0 m.ts res (f : Int) := by unfold TM.rowF; rw [if_pos hhas]
    have hN : m.rowN res = m.unitsOf res := by unfold TM.rowN; rw [if_pos hhas]
    rw [hF, hN]
    have hub := unitsOf_bd H.out.tok.ok hhas
    have hfew := H.out.few
    have hh := hhas
    unfold TM.has at hh
    obtain ⟨r, rfl⟩ := Int.eq_ofNat_of_zero_le hh.1
    have hu : m.units[r]? = some (m.unitsOf r) := by
      have hul : r < m.units.length := by omega
      unfold TM.unitsOf
      rw [Int.toNat_natCast, List.getD_eq_getElem?_getD, List.getElem?_eq_getElem hul]; rfl
    have b0 : decide ((r : Int) < 0) = false := decide_eq_false (by omega)
    have b1 : decide ((m.units.length : Int) ≤ (r : Int)) = false := decide_eq_false (by omega)
    have b2 : decide (m.units.length ≤ r) = false := decide_eq_false (by omega)
    have HU := hid hu
    generalize m.unitsOf r = UN at *
    clear hF hN hhas hu
    go_enter Tryz.func146, Tryz.ntmps146
    go_wp2_with (first | (refine wpList_allocS TCr (.agg (cellsF fun _ => 0).toArray) (cellsF fun _ => 0) rfl rfl infoCr rfl hS1 ?_; intro r2 w2 hS2; simp only [Kw.red] at hS2) | (refine wpList_allocS TCr (.agg (cellsF fun _ => 0).toArray) (cellsF fun _ => 0) rfl rfl infoCr rfl HS.out ?_; intro r1 w1 hS1; simp only [Kw.red] at hS1))
    have H2 := hid (H.out.keeps hS2.keeps)
    refine (tunits_any H2.out).mono ?_; rintro e w3 ⟨ug, rfl, hS⟩
    have hS3 := hS2.adds hS
    simp only [Kw.red] at hS3
    have H3 := hid (H2.out.keeps hS.keeps)
    have hln := tlen_any H3.out
    have HS3 := hid hS3
    have HL := hid hln
    clear hS hS3 hS1 hS2 H2 hln
    go_wp2_with fail
    refine HL.out.mono ?_; rintro e w4 ⟨rfl, rfl⟩
    clear HL
    have hnd : ∀ t ∈ m.ts, 0 ≤ needOf t.needs r ∧ needOf t.needs r ≤ 255 := fun t ht => need_255 H.out.tok.ok ht r
    have hnk : ∀ (k : Nat) t, m.ts[k]? = some t → Tm.need m.ts k r = needOf t.needs r := fun k t ht => by unfold Tm.need; rw [if_neg (by omega), Int.toNat_natCast, ht]
    have Hnd := hid hnd
    have Hnk := hid hnk
    have HT := hid H.out
    clear hnd hnk H3
    go_wp2_with fail
    go_loopw [28] (fun y wr => ∃ k : Nat, k ≤ m.ts.length ∧ y = .int .i64 k ∧ St (fun _ => False) w [.pt r1 TCr (cellsF fun _ => 0), .pt r2 TCr (cellsF fun (f : Nat) => ceil0 (m.ts.take k) r (f : Int)), .pt ug TI' (intsC m.units)] wr) (fun y _ => m.ts.length - (intOf y).toNat)
    case atStart => exact ⟨0, Nat.zero_le _, rfl, HS3.out⟩
    case round =>
      clear HS3
      obtain ⟨k, hk, rfl, hS⟩ := hrel
      by_cases hlt : k < m.ts.length
      · have a1 : decide (k < m.ts.length) = true := by simpa using hlt
        have a2 : decide ((k : Int) < (m.ts.length : Int)) = true := decide_eq_true (by omega)
        have ht := List.getElem?_eq_getElem hlt
        have hnt := Hnd.out _ (List.getElem_mem hlt)
        have hnkk := Hnk.out k _ ht
        have hupd := rows_upd ht r hnt.1
        have hg := get_in (H.out.keeps hS.keeps) ht
        generalize m.ts[k] = t at *
        have HG := hid hg
        have HS := hid hS
        have Hupd := hid hupd
        have Hnkk := hid hnkk
        clear hS hg ht hupd hnkk
        unfold taskV at HG
        go_wp2_with fail
        refine HG.out.mono ?_; rintro e w5 ⟨gn, rfl, hS⟩
        have hS5 := (HS.out.adds hS).new TTk (taskL' t (.slice (some ⟨gn, 0, none⟩) t.needs.length t.needs.length))
        simp only [Kw.red] at hS5
        have HS5 := hid hS5
        clear hS hS5 HG HS
        have hneed := need_any (H.out.keeps HS5.out.keeps) k r
        rw [Hnkk.out] at hneed
        have HN := hid hneed
        clear hneed Hnkk
        go_wp2_with fail
        refine HN.out.mono ?_; rintro e w6 ⟨rfl, k6⟩
        generalize w5.heap.size = xb at *
        have HS6 := hid (HS5.out.step k6)
        clear HN HS5 k6
        generalize hNt : needOf t.needs r = NT at *
        go_wp2_with fail
        go_loopw [41] (fun y wr2 => ∃ j : Nat, (j : Int) ≤ NT ∧ y = .int .i64 j ∧ St (fun _ => False) w [.pt r1 TCr (cellsF fun _ => 0), .pt r2 TCr (cellsF fun (f : Nat) => if f < j then max (ceil0 (m.ts.take k) r (f : Int)) t.level else ceil0 (m.ts.take k) r (f : Int)), .pt ug TI' (intsC m.units), .pt gn TNd (needsC t.needs), .pt xb TTk (taskL' t (.slice (some ⟨gn, 0, none⟩) t.needs.length t.needs.length))] wr2) (fun y _ => NT.toNat - (intOf y).toNat)
        case atStart => exact ⟨0, hnt.1, rfl, by have h := HS6.out; simpa using h⟩
        case round =>
          clear HS6
          obtain ⟨j, hj, rfl, hS⟩ := hrel
          by_cases hjn : (j : Int) < NT
          · have a3 : decide ((j : Int) < NT) = true := decide_eq_true hjn
            have j256 : j < 256 := by omega
            have j0 : (0 : Int) ≤ (j : Int) := by omega
            have j1 : (j : Int) < 256 := by omega
            have d0 := (hS.blk 1).at (cellsF_at _ j256)
            simp only [Nat.lt_irrefl, if_false] at d0
            have dz := (hS.blk 1).fz j
            have e1 := (hS.blk 4).cell 1
            simp only [List.getElem?_cons_succ, List.getElem?_cons_zero] at e1
            have hrl : r2 < wr.heap.size := (hS.blk 1).lt
            have HS := hid hS
            generalize hC : ceil0 (m.ts.take k) r (j : Int) = C at *
            have HC := hid hC
            clear hS hC
            go_wp2_with fail
            have hidx := fun w => run_idx w r2 j256
            refine wp_region_mix [true, true, true, true, true, true, false, false, false] 0 (fun _ => False) (by kernel_rfl) (by decide +kernel) ?_
            simp only [front, back, List.take_zero, List.drop_zero]
            (first | refine wpFront_load rfl ?_ | refine wpFront_other rfl ?_); (first | go_big_quiet_step (fail) | quiet_step (fail)); refine wpQuiet_nil ?_
            (first | refine wpFront_load rfl ?_ | refine wpFront_other rfl ?_); (first | go_big_quiet_step (fail) | quiet_step (fail)); refine wpQuiet_nil ?_
            refine wpFront_idx (g := r2) (j := j) rfl rfl rfl rfl j256 ?_
            repeat ((first | refine wpFront_load rfl ?_ | refine wpFront_other rfl ?_); (first | go_big_quiet_step (fail) | quiet_step (fail)); refine wpQuiet_nil ?_)
            refine wpFront_nil ?_
            simp only [wpSegs]
            go_wp2_with (refine wpList_idx (g := r2) (j := j) rfl rfl rfl rfl j256 ?_)
            refine NoPanic.normal ?_
            go_wp2_with fail
            go_roundw
            case rel =>
              refine ⟨j + 1, by omega, by go_num, ?_⟩
              have h := HS.out.drew.set 1 j (.int .i64 (max C t.level))
              simp only [Kw.red] at h
              rw [cellsF_set] at h
              rw [show (cellsF fun (f : Nat) => if f < j + 1 then max (ceil0 (m.ts.take k) r (f : Int)) t.level else ceil0 (m.ts.take k) r (f : Int)) = cellsF fun f => if f = j then max C t.level else if f < j then max (ceil0 (m.ts.take k) r (f : Int)) t.level else ceil0 (m.ts.take k) r (f : Int) from cellsF_congr fun i _ => by
                by_cases h1 : i = j
                · subst h1; rw [if_pos (by omega), if_pos rfl, HC.out]
                · rw [if_neg h1]
                  by_cases h2 : i < j
                  · rw [if_pos (by omega), if_pos h2]
                  · rw [if_neg (by omega), if_neg h2]]
              exact h
            case measure => simp [intOf]; omega
          · have a3 : decide ((j : Int) < NT) = false := decide_eq_false hjn
            have hjN : j = NT.toNat := by omega
            have HS := hid hS
            clear hS
            go_wp2_with fail
            go_roundw
            case rel =>
              refine ⟨k + 1, by omega, by go_num, ?_⟩
              have h := HS.out.sub [0, 1, 2]
              simp only [Kw.red] at h
              rw [show (cellsF fun (f : Nat) => ceil0 (m.ts.take (k + 1)) r (f : Int)) = cellsF fun (f : Nat) => if f < j then max (ceil0 (m.ts.take k) r (f : Int)) t.level else ceil0 (m.ts.take k) r (f : Int) from cellsF_congr fun i _ => by rw [Hupd.out, hjN]]
              exact h
            case measure => simp [intOf]; omega
      · have a1 : decide (k < m.ts.length) = false := by simpa using hlt
        have a2 : decide ((k : Int) < (m.ts.length : Int)) = false := decide_eq_false (by omega)
        rw [List.take_of_length_le (show m.ts.length ≤ k by omega)] at hS
        have du := (hS.blk 2).at (intsC_at HU.out)
        have i0 : (0 : Int) ≤ (r : Int) := by omega
        have i1 : (r : Int) < (m.units.length : Int) := by omega
        have HS := hid hS
        clear hS
        go_wp2_with fail
        obtain ⟨F1, hc1, -, bk1⟩ := HS.out.at 0 rfl
        have hF1 : ∀ b, F1 b ↔ b = r1 := hc1.2
        have hneU : ug ≠ r1 := by
          have h1 := (HS.out.blk 2).neT (HS.out.blk 0) (by decide)
          exact h1
        have hnF : ¬ F1 ug := fun h => hneU ((hF1 _).1 h)
        have hne2 : r2 ≠ r1 := by
          obtain ⟨Fq, ⟨G1, G2, q1, q2, q3, q4⟩, -⟩ := id HS.out
          obtain ⟨G3, G4, q5, q6, q7, q8⟩ := q2
          intro e
          exact q3 r1 ((q1.2 r1).2 rfl) ((q8 r1).2 (.inl ((q5.2 r1).2 e.symm)))
        have hbig : St F1 wr [.pt r1 TCr (cellsF fun _ => 0)] wr.drew := (St.of (Sts.one hc1)).drew
        refine wp_region_mix [true, true, true, true, true, false, false] 1 F1 (by kernel_rfl) (by decide +kernel) ?_
        simp only [front, back, List.take_succ_cons, List.drop_succ_cons, List.take_zero, List.drop_zero]
        refine wpFront_loadRow rfl rfl rfl (fun w' hw' => by obtain ⟨u, rfl⟩ := hw'; exact (ext_block wr _ u (HS.out.blk 1).lt (fun h => hne2 ((hF1 _).1 h))).trans (HS.out.blk 1)) Tryz.underlying231 rfl (sizeCrA _) ?_
        repeat ((first | refine wpFront_load rfl ?_ | refine wpFront_other rfl ?_); (first | go_big_quiet_step (fail) | quiet_step (fail)); refine wpQuiet_nil ?_)
        refine wpFront_nil ?_
        simp only [wpSegs]
        refine wpList_storeS 0 TCr _ _ rfl rfl (cellsF fun (f : Nat) => ceil0 m.ts r (f : Int)) hbig rfl rfl rfl (sizeCr' _) (by rw [cellsF_len, cellsF_len]) (cellsF_one _) ?_
        intro w7 hS7
        refine segQ_normal hS7.keeps ?_
        have hS7 := bk1 (post := []) hS7
        simp only [Kw.red] at hS7
        go_wp2_with fail
        refine NoPanic.normal ?_
        go_wp2_with fail
        refine bodyPost_ret (v := .tuple #[.agg (cellsF fun (f : Nat) => ceil0 m.ts r (f : Int)).toArray, .int .i64 UN]) (results_ct Tryz.results146 _ _ r1 TCr _ (0, 0) _ rfl (hS7.blk 0) Tryz.underlying231 rfl (sizeCrA _)) rfl ?_
        exact ⟨rfl, hS7.keeps⟩
  · have hF : m.rowF res = fun _ => 0 := by unfold TM.rowF; rw [if_neg hhas]
    have hN : m.rowN res = -1 := by unfold TM.rowN; rw [if_neg hhas]
    rw [hF, hN]
    have hcase : (res < 0) ∨ (0 ≤ res ∧ (m.units.length : Int) ≤ res) := by unfold TM.has at hhas; omega
    clear hF hN hhas
    go_enter Tryz.func146, Tryz.ntmps146
    go_wp2_with (first | (refine wpList_allocS TCr (.agg (cellsF fun _ => 0).toArray) (cellsF fun _ => 0) rfl rfl infoCr rfl hS1 ?_; intro r2 w2 hS2; simp only [Kw.red] at hS2) | (refine wpList_allocS TCr (.agg (cellsF fun _ => 0).toArray) (cellsF fun _ => 0) rfl rfl infoCr rfl HS.out ?_; intro r1 w1 hS1; simp only [Kw.red] at hS1))
    have H2 := hid (H.out.keeps hS2.keeps)
    refine (tunits_any H2.out).mono ?_; rintro e w3 ⟨ug, rfl, hS⟩
    have hS3 := hS2.adds hS
    simp only [Kw.red] at hS3
    clear hS hS1 hS2 H2
    have hb : decide (res < 0) = true ∨ decide (res < 0) = false ∧ decide ((m.units.length : Int) ≤ res) = true := by
      rcases hcase with h | h
      · exact .inl (decide_eq_true h)
      · exact .inr ⟨decide_eq_false (by omega), decide_eq_true h.2⟩
    clear hcase
    rcases hb with c1 | ⟨c1, c2⟩
    all_goals
      go_wp2_with (first | (refine wpList_storeS 0 TCr _ _ rfl rfl (cellsF fun _ => 0) hS3 rfl rfl rfl (sizeCr' _) rfl (cellsF_one _) ?_; intro w4 hS4) | (refine wpList_loadS 1 TCr _ _ rfl rfl hS3 rfl rfl Tryz.underlying231 rfl (sizeCr' _) ?_))
      simp only [Kw.red] at hS4
      refine bodyPost_ret (v := .tuple #[.agg (cellsF fun _ => 0).toArray, .int .i64 (-1)]) (results_ct Tryz.results146 _ _ r1 TCr _ (0, 0) _ rfl (hS4.blk 0) Tryz.underlying231 rfl (sizeCrA _)) rfl ?_
      exact ⟨rfl, hS4.keeps⟩
end
end Go.Proofs.YtnkjjhenfhnajaaGreatDoor

/-
  Package ceil, walked: At, Max, Row.
-/
namespace Go.Proofs.YtnkjjhenfhnajaaGreatDoor
open Go.RowKit Go.Kw Go.Kreg Go.Tm
set_option linter.unusedSimpArgs false
set_option linter.unusedVariables false

theorem rowN_le {m : TM} (hm : m.Ok) (res : Int) : m.rowN res ≤ 255 := by
  unfold TM.rowN
  split
  · rename_i h; have := unitsOf_bd hm h; omega
  · omega
theorem at_eq {m : TM} (hm : m.Ok) (res free : Int) : (if m.rowN res < 0 ∨ m.rowN res < free then 0 else m.rowF res (max free 0).toNat) = m.ceilAt res free := by
  unfold TM.rowN TM.rowF TM.ceilAt
  by_cases h : m.has res
  · have hb := unitsOf_bd hm h
    simp only [if_pos h]
    by_cases h2 : m.unitsOf res < free
    · rw [if_pos (.inr h2), if_neg (fun e => by omega)]
    · rw [if_neg (by omega), if_pos ⟨h, by omega⟩]
      congr 1; omega
  · simp only [if_neg h]
    rw [if_pos (.inl (by decide)), if_neg (fun e => h e.1)]
section
variable {w : World} {tv : Value} {g : Nat → Int} {n res : Int}
def RowTold (tv : Value) (res : Int) (g : Nat → Int) (n : Int) (w : World) : Prop := Calls Tryz.prog 146 #[tv, .int .i64 res] w fun e w' => e = .returned (.tuple #[.agg (cellsF g).toArray, .int .i64 n]) ∧ Keeps (fun _ => False) w w'
set_option maxRecDepth 100000 in
set_option maxHeartbeats 4000000 in
theorem at_core (hr : RowTold tv res g n w) (hn : n ≤ 255) (free : Int) : Calls Tryz.prog 111 #[tv, .int .i64 res, .int .i64 free] w fun e w' => e = .returned (.int .i64 (if n < 0 ∨ n < free then 0 else g (max free 0).toNat)) ∧ Keeps (fun _ => False) w w' := by
  have HR := hid (show Calls Tryz.prog 146 #[tv, .int .i64 res] w fun e w' => e = .returned (.tuple #[.agg (cellsF g).toArray, .int .i64 n]) ∧ Keeps (fun _ => False) w w' from hr)
  have HS := hid (St.start w)
  obtain ⟨R, hR⟩ : ∃ R, (if n < 0 ∨ n < free then 0 else g (max free 0).toNat) = R := ⟨_, rfl⟩
  rw [hR]
  clear hr
  by_cases h0 : n < 0
  · have b0 : decide (n < 0) = true := by simpa using h0
    rw [if_pos (.inl h0)] at hR
    subst hR
    clear h0
    go_enter Tryz.func111, Tryz.ntmps111
    go_wp2_with fail
    refine HR.out.mono ?_; rintro e w1 ⟨rfl, k1⟩
    have HS1 := hid (HS.out.step k1)
    go_wp2_with (first | (refine wpList_storeS 0 TCr _ _ rfl rfl (cellsF g) hS2 rfl rfl rfl (sizeCr' _) (by rw [cellsF_len, cellsF_len]) (cellsF_one _) ?_; intro w3 hS3; simp only [Kw.red] at hS3) | (refine wpList_allocS TCr (.agg (cellsF fun _ => 0).toArray) (cellsF fun _ => 0) rfl rfl infoCr rfl HS1.out ?_; intro r2 w2 hS2; simp only [Kw.red] at hS2))
    go_ret
    exact ⟨rfl, hS3.keeps⟩
  · have b0 : decide (n < 0) = false := by simpa using h0
    by_cases h1 : n < free
    · have b1 : decide (n < free) = true := by simpa using h1
      rw [if_pos (.inr h1)] at hR
      subst hR
      clear h0 h1
      go_enter Tryz.func111, Tryz.ntmps111
      go_wp2_with fail
      refine HR.out.mono ?_; rintro e w1 ⟨rfl, k1⟩
      have HS1 := hid (HS.out.step k1)
      go_wp2_with (first | (refine wpList_storeS 0 TCr _ _ rfl rfl (cellsF g) hS2 rfl rfl rfl (sizeCr' _) (by rw [cellsF_len, cellsF_len]) (cellsF_one _) ?_; intro w3 hS3; simp only [Kw.red] at hS3) | (refine wpList_allocS TCr (.agg (cellsF fun _ => 0).toArray) (cellsF fun _ => 0) rfl rfl infoCr rfl HS1.out ?_; intro r2 w2 hS2; simp only [Kw.red] at hS2))
      go_ret
      exact ⟨rfl, hS3.keeps⟩
    · have b1 : decide (n < free) = false := by simpa using h1
      rw [if_neg (by omega)] at hR
      obtain ⟨j, hj⟩ : ∃ j : Nat, max free 0 = j := ⟨(max free 0).toNat, by omega⟩
      have j256 : j < 256 := by omega
      rw [hj, Int.toNat_natCast] at hR
      have Hj := hid hj
      have hgj := cellsF_at g j256
      rw [hR] at hgj
      have Hg := hid hgj
      clear h0 h1 hR hj hgj
      go_enter Tryz.func111, Tryz.ntmps111
      go_wp2_with fail
      refine HR.out.mono ?_; rintro e w1 ⟨rfl, k1⟩
      have HS1 := hid (HS.out.step k1)
      go_wp2_with (first | (refine wpList_idx (g := r2) (j := j) rfl rfl rfl (by rw [← Hj.out]; rfl) j256 ?_; have d0 := (hS3.blk 0).at Hg.out) | (refine wpList_storeS 0 TCr _ _ rfl rfl (cellsF g) hS2 rfl rfl rfl (sizeCr' _) (by rw [cellsF_len, cellsF_len]) (cellsF_one _) ?_; intro w3 hS3; simp only [Kw.red] at hS3) | (refine wpList_allocS TCr (.agg (cellsF fun _ => 0).toArray) (cellsF fun _ => 0) rfl rfl infoCr rfl HS1.out ?_; intro r2 w2 hS2; simp only [Kw.red] at hS2))
      go_ret
      exact ⟨rfl, hS3.keeps⟩
theorem max_core (hr : RowTold tv res g n w) (hn : n ≤ 255) : Calls Tryz.prog 106 #[tv, .int .i64 res] w fun e w' => e = .returned (.int .i64 (if n < 0 ∨ n < 0 then 0 else g (max 0 0 : Int).toNat)) ∧ Keeps (fun _ => False) w w' := by
  have HA := hid (at_core hr hn 0)
  generalize (if n < 0 ∨ n < 0 then 0 else g (max 0 0 : Int).toNat) = R at *
  clear hr
  go_enter Tryz.func106, Tryz.ntmps106
  go_wp2_with fail
  refine HA.out.mono ?_; rintro e w1 ⟨rfl, k1⟩
  go_wp2_with fail
  go_ret
  exact ⟨rfl, k1⟩
end
section
variable {w : World} {p : Nat} {m : TM} {x : TabX}
theorem max_any (h : TabAt w p m x) (res : Int) : Calls Tryz.prog 106 #[.pointer (some ⟨p, 0, none⟩), .int .i64 res] w fun e w' => e = .returned (.int .i64 (m.ceilAt res 0)) ∧ Keeps (fun _ => False) w w' := by
  have := max_core (rowOf_any h res) (rowN_le h.tok.ok res)
  have e := at_eq h.tok.ok res 0
  rw [e] at this
  exact this
end
end Go.Proofs.YtnkjjhenfhnajaaGreatDoor

/-
  Package ceil, walked: Row.
-/
namespace Go.Proofs.YtnkjjhenfhnajaaGreatDoor
open Go.RowKit Go.Kw Go.Kreg Go.Tm
set_option linter.unusedSimpArgs false
set_option linter.unusedVariables false

/-- The first ceilings of a row. -/
def firstC (g : Nat → Int) (n : Nat) : List Int := (List.range n).map g
theorem firstC_len (g : Nat → Int) (n : Nat) : (firstC g n).length = n := by simp [firstC]
theorem firstC_cells (g : Nat → Int) (n : Nat) (h : n ≤ 256) {j : Nat} {u : Value} (hj : (intsC (firstC g n))[j]? = some u) : (cellsF g)[j]? = some u := by
  have hl := (List.getElem?_eq_some_iff.1 hj).1
  rw [intsC_len, firstC_len] at hl
  rw [cellsF_at g (by omega)]
  rw [← hj]
  unfold intsC firstC
  rw [List.getElem?_map, List.getElem?_map, List.getElem?_range hl]
  rfl
theorem row_eq {m : TM} (hm : m.Ok) (res : Int) : m.ceilRow res = if m.rowN res < 0 then [] else firstC (m.rowF res) ((m.rowN res).toNat + 1) := by
  unfold TM.rowN TM.rowF TM.ceilRow firstC
  by_cases h : m.has res
  · have hb := unitsOf_bd hm h
    simp only [if_pos h]
    rw [if_neg (by omega)]
  · simp only [if_neg h]
    rw [if_pos (by decide)]
theorem run_sl (w : World) (g : Nat) {n : Nat} (hn : n ≤ 256) : (Instr.sliceAt TCr (.pointer (some ⟨g, 0, none⟩)) none (some (.int .i64 n)) none).run Tryz.prog w = .ok (.slice (some ⟨g, 0, none⟩) n 256) w := by
  have hal : Tryz.prog.arrayLen TCr = 256 := by kernel_rfl
  have hel : Tryz.prog.elem TCr = 3 := by kernel_rfl
  have hz : (Go.sizeOf 3).run Tryz.prog w = .ok 1 w := by
    have hi : (Tryz.prog.info? 3).map (·.size) = some 1 := by kernel_rfl
    cases hq : Tryz.prog.info? 3 with
    | none => simp [hq] at hi
    | some i =>
      simp only [hq, Option.map_some, Option.some.injEq] at hi
      simp [sizeOf, typeInfo, hq, hi]
  rw [run_sliceAt_array_h w TCr _ (by kernel_rfl) _ _ (by omega) (by rw [hal]; omega), hel, hz, hal]
  simp [Result.andThen, slicedAt, Addr.add]
theorem wpFront_sl {ops : Array Oper} {C : World → Prop} {Lq : Act → Prop} {a : Act} {o : Oper} {rest : List Oper} {x ih : Operand} {g n : Nat}
    (hgd : o.guard = none) (ho : o.op = .slice TCr x none (some ih) none) (hx : a.eval x = .pointer (some ⟨g, 0, none⟩)) (hix : a.eval ih = .int .i64 n) (hj : n ≤ 256)
    (h : wpFront Tryz.prog ops C Lq rest (a.put o.dst (.slice (some ⟨g, 0, none⟩) n 256))) : wpFront Tryz.prog ops C Lq (o :: rest) a := by
  refine wpFront_other (by rw [ho]; rfl) ?_
  refine wpQuiet_step fun K hK => ?_
  have hw : Region.wanted o (yielded ops a.tmps) = true := by unfold Region.wanted; rw [hgd]
  rw [if_pos hw]
  refine ⟨.slice (some ⟨g, 0, none⟩) n 256, fun w' hw' => ?_, hK _ h⟩
  unfold Oper.quietAt
  simp [execOp, ho, hx, hix, run_sl w' g hj, Oper.quietUpon, Result.andThen]
section
variable {w : World} {tv : Value} {g : Nat → Int} {n res : Int}
set_option maxRecDepth 100000 in
set_option maxHeartbeats 4000000 in
theorem row_core (hr : RowTold tv res g n w) (hn : n ≤ 255) : Calls Tryz.prog 122 #[tv, .int .i64 res] w fun e w' => ∃ lv, e = .returned lv ∧ St (fun _ => False) w [.row TI' 1 lv (if n < 0 then [] else firstC g (n.toNat + 1)).length (intsC (if n < 0 then [] else firstC g (n.toNat + 1)))] w' := by
  have HR := hid (show Calls Tryz.prog 146 #[tv, .int .i64 res] w fun e w' => e = .returned (.tuple #[.agg (cellsF g).toArray, .int .i64 n]) ∧ Keeps (fun _ => False) w w' from hr)
  have HS := hid (St.start w)
  obtain ⟨R, hR⟩ : ∃ R, (if n < 0 then [] else firstC g (n.toNat + 1)) = R := ⟨_, rfl⟩
  rw [hR]
  clear hr
  by_cases h0 : n < 0
  · have b0 : decide (n < 0) = true := by simpa using h0
    rw [if_pos h0] at hR
    subst hR
    clear h0
    go_enter Tryz.func122, Tryz.ntmps122
    go_wp2_with fail
    refine HR.out.mono ?_; rintro e w1 ⟨rfl, k1⟩
    have HS1 := hid (HS.out.step k1)
    go_wp2_with (first | (refine wpList_storeS 0 TCr _ _ rfl rfl (cellsF g) hS2 rfl rfl rfl (sizeCr' _) (by rw [cellsF_len, cellsF_len]) (cellsF_one _) ?_; intro w3 hS3; simp only [Kw.red] at hS3) | (refine wpList_allocS TCr (.agg (cellsF fun _ => 0).toArray) (cellsF fun _ => 0) rfl rfl infoCr rfl HS1.out ?_; intro r2 w2 hS2; simp only [Kw.red] at hS2))
    go_ret
    refine ⟨.slice none 0 0, rfl, ?_⟩
    have h4 := hS3.add (Keeps.refl (fun _ => False) _) (G := fun _ => False) (c := .row TI' 1 (.slice none 0 0) 0 (intsC [])) ⟨⟨rfl, .inl ⟨rfl, rfl⟩⟩, fun b => by simp [Value.ownBlock]⟩ (fun b hb => hb.elim)
    exact h4.sub [1]
  · have b0 : decide (n < 0) = false := by simpa using h0
    obtain ⟨j, rfl⟩ := Int.eq_ofNat_of_zero_le (show 0 ≤ n by omega)
    rw [if_neg h0, Int.toNat_natCast] at hR
    have hj : j + 1 ≤ 256 := by omega
    have HRR := hid hR
    clear h0 hR
    go_enter Tryz.func122, Tryz.ntmps122
    go_wp2_with fail
    refine HR.out.mono ?_; rintro e w1 ⟨rfl, k1⟩
    have HS1 := hid (HS.out.step k1)
    go_wp2_with (first | (refine wpList_storeS 0 TCr _ _ rfl rfl (cellsF g) hS2 rfl rfl rfl (sizeCr' _) (by rw [cellsF_len, cellsF_len]) (cellsF_one _) ?_; intro w3 hS3; simp only [Kw.red] at hS3) | (refine wpList_allocS TCr (.agg (cellsF fun _ => 0).toArray) (cellsF fun _ => 0) rfl rfl infoCr rfl HS1.out ?_; intro r2 w2 hS2; simp only [Kw.red] at hS2))
    have HS3 := hid hS3
    clear hS3 hS2 HS1 k1 HR HS
    refine wp_region_mix [true, true, false, true, true, true, false, false] 1 (fun _ => False) (by kernel_rfl) (by decide +kernel) ?_
    simp only [front, back, List.take_succ_cons, List.drop_succ_cons, List.take_zero, List.drop_zero]
    repeat ((first | refine wpFront_sl (g := r2) (n := j + 1) rfl rfl rfl (by first | rfl | (show Value.int .i64 _ = _; simp) | go_num) hj ?_ | ((first | refine wpFront_load rfl ?_ | refine wpFront_other rfl ?_); (first | go_big_quiet_step (fail) | quiet_step (fail)); refine wpQuiet_nil ?_)))
    refine wpFront_nil ?_
    simp only [wpSegs]
    refine wpList_mkg _ _ 22 TI' (.int .i64 0) 1 8 infoI Tryz.underlying22 rfl rfl HS3.out.drew .i64 .i64 _ (j + 1) rfl rfl (by omega) (by omega) (by unfold maxLen; omega) ?_
    intro ng w4 hown4 hk4 hg4 hS4
    simp only [Kw.red] at hS4
    have hsrc : ∀ ad, some (⟨r2, 0, none⟩ : Addr) = some ad → ∀ (i : Nat) u, (intsC (firstC g (j + 1)))[i]? = some u → w4.cell? (ad.add i) = some u := by
      intro ad e i u hu
      cases e
      rw [add_at, Nat.zero_add]
      exact (hS4.blk 0).at (firstC_cells g (j + 1) hj hu)
    have Hsrc := hid hsrc
    have HS4 := hid hS4
    clear hS4 hsrc hg4
    refine wpList_nil (segQ_normal ((Keeps.refl _ _).drew.trans hk4) ?_)
    refine wpList_app_copy _ _ 22 TI' (.int .i64 0) 1 8 infoI Tryz.underlying22 rfl rfl ng (j + 1) rfl hown4 (some ⟨r2, 0, none⟩) 256 (intsC (firstC g (j + 1))) rfl (by rw [intsC_len, firstC_len, Nat.mul_one]) (fun e => by cases e) Hsrc.out (intsC_one _) ?_
    intro w5 hb5 hk5
    have HS5 := hid (HS4.out.filled 1 hb5 hk5)
    clear hk5 hb5 hown4 hk4 HS4 Hsrc
    go_wp2_with fail
    refine NoPanic.normal ?_
    go_wp2_with fail
    go_ret
    refine ⟨.slice (some ⟨ng, 0, none⟩) (j + 1) (j + 1), rfl, ?_⟩
    rw [← HRR.out]
    have h6 := HS5.out
    simp only [Kw.red] at h6
    have h7 := h6.imp 1 (c := .pt ng TI' (intsC (firstC g (j + 1)))) (.row TI' 1 (.slice (some ⟨ng, 0, none⟩) (j + 1) (j + 1)) (j + 1) (intsC (firstC g (j + 1)))) (fun F h => ⟨by
      have h8 := Own.of_blk (n := j + 1) (cap := j + 1) (sz := 1) h.1 (by rw [intsC_len, firstC_len, Nat.mul_one]) (Nat.le_refl _) (by unfold maxLen; omega)
      rw [List.take_of_length_le (by rw [intsC_len, firstC_len]; omega)] at h8
      exact h8, fun b => (h.2 b).trans ⟨fun e => by rw [e]; rfl, fun e => by simpa [Value.ownBlock] using e.symm⟩⟩)
    simp only [Kw.red] at h7
    rw [firstC_len]
    exact h7.sub [1]
end
section
variable {w : World} {p : Nat} {m : TM} {x : TabX}
theorem crow_any (h : TabAt w p m x) (res : Int) : Calls Tryz.prog 122 #[.pointer (some ⟨p, 0, none⟩), .int .i64 res] w fun e w' => ∃ lv, e = .returned lv ∧ St (fun _ => False) w [.row TI' 1 lv (m.ceilRow res).length (intsC (m.ceilRow res))] w' := by
  have := row_core (rowOf_any h res) (rowN_le h.tok.ok res)
  rw [← row_eq h.tok.ok] at this
  exact this
end
end Go.Proofs.YtnkjjhenfhnajaaGreatDoor
