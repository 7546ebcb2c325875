/-
  Texts Dn Do Dp in one.
-/
import Derived.Test.YtnkjjhenfhnajaaGreatDoorG27
import Derived.Test.YtnkjjhenfhnajaaGreatDoorG36
import Derived.Test.YtnkjjhenfhnajaaGreatDoorG28
/-
  admit.Sections once more: its slice ends with its list. (Its walk is Bc's.)
-/
namespace Go.Proofs.YtnkjjhenfhnajaaGreatDoor
open Go.RowKit Go.Kw Go.Kreg Go.Tm Go.Ad
set_option linter.unusedSimpArgs false
set_option linter.unusedVariables false
section
variable {w : World} {p : Nat} {m : TM} {x : TabX}
set_option maxRecDepth 100000 in
set_option maxHeartbeats 8000000 in
theorem sectionsC_in (h : TabAt w p m x) {i : Nat} {t : Task} (ht : m.ts[i]? = some t) : Calls Tryz.prog 27 #[.pointer (some ⟨p, 0, none⟩), .int .i64 i] w fun e w' => ∃ ao, e = .returned (.slice ao (secsOf t).length (secsOf t).length) ∧ St (fun _ => False) w [.vec TSe 5 (.slice ao (secsOf t).length (secsOf t).length) (secsOf t).length (secsC (secsOf t))] w' := by
  have hmem := List.mem_of_getElem? ht
  have hfit := h.tok.ok.fit t hmem
  have hnd : ∀ r, needOf t.needs r ≤ 255 := fun r => (need_255 h.tok.ok hmem r).2
  obtain ⟨Q, lo, hPe, -, -, hst⟩ := Cm.program_sound hfit.code
  have hle : (prog t).1.length ≤ 4096 := Cm.prog_le _
  have hPs : ∀ y ∈ (prog t).1, Cm.StepOk y := by
    have e : (prog t).1 = Q ++ [lo] := hPe
    rw [e]; exact hst
  have HT := hid (tsteps_in h ht hle)
  have hneed : ∀ (w9 : World) (r : Int), Keeps (fun _ => False) w w9 → Calls Tryz.prog 71 #[.pointer (some ⟨p, 0, none⟩), .int .i64 i, .int .i64 r] w9 fun e w' => e = .returned (.int .i64 (needOf t.needs r)) ∧ Keeps (fun _ => False) w9 w' := fun w9 r k => by
    have := need_any (h.keeps k) i r
    rw [show Tm.need m.ts i r = needOf t.needs r by unfold Tm.need; rw [if_neg (by omega), Int.toNat_natCast, ht]] at this
    exact this
  unfold secsOf sections
  generalize (prog t).1 = P at *
  generalize needOf t.needs = nd at *
  obtain ⟨oE, hoE⟩ : ∃ o, runS nd P 0 zeroO = o := ⟨_, rfl⟩
  rw [hoE]
  have HoE := hid hoE
  have HN := hid hneed
  have HPs := hid hPs
  have Hnd := hid hnd
  clear h ht hmem hfit hPe hst hneed hPs hnd hoE
  go_enter Tryz.func27, Tryz.ntmps27
  go_wp2_with fail
  refine HT.out.mono ?_; rintro e w1 ⟨sg, rfl, hS⟩
  have hS1 := hS.new TOw zOwn
  have HS1 := hid (own_zero hS1)
  clear hS hS1 HT
  go_wp2_with fail
  generalize w1.heap.size = g at *
  go_loopw [23] (fun y wr => ∃ k : Nat, k ≤ P.length ∧ y = .int .i64 k ∧ St (fun _ => False) w [.pt sg TOp (opsC P), ownC g (runS nd (P.take k) 0 zeroO)] wr) (fun y _ => P.length - (intOf y).toNat)
  case atStart => exact ⟨0, Nat.zero_le _, rfl, HS1.out⟩
  case round =>
    clear HS1
    obtain ⟨k, hk, rfl, hS⟩ := hrel
    have hI := inv_take (nd := nd) HPs.out k hk
    by_cases hlt : k < P.length
    · have a1 : decide (k < P.length) = true := by simpa using hlt
      have hx := List.getElem?_eq_getElem hlt
      have hso := HPs.out _ (List.getElem_mem hlt)
      have hstep := runS_take (nd := nd) hx zeroO
      generalize runS nd (P.take k) 0 zeroO = o at *
      obtain ⟨e0, e1, e2, e3⟩ := opsC_at hx
      generalize P[k] = x at *
      have d0 := (hS.blk 0).at e0
      have d1 := (hS.blk 0).at e1
      have d2 := (hS.blk 0).at e2
      have d3 := (hS.blk 0).at e3
      have i0 : (0 : Int) ≤ (k : Int) := by omega
      have i1 : (k : Int) < (P.length : Int) := by omega
      have hl := hI.hl
      have HI := hid hI
      have Hx := hid hx
      have Hso := hid hso
      have Hstep := hid hstep
      have HSr := hid hS
      clear e0 e1 e2 e3 hS hI hx hso hstep
      have hSx := HSr.out.new TOp [.int .i64 x.kind, .int .i64 x.res, .int .i64 x.n, .int .i64 x.v]
      simp only [Kw.red] at hSx
      have HSx := hid hSx
      clear hSx
      by_cases hk1 : x.kind = 1
      · have b1 : (x.kind == 1) = true := by simpa using hk1
        obtain ⟨q, hq⟩ := Int.eq_ofNat_of_zero_le Hso.out.res.1
        have q16 : q < 16 := by have := Hso.out.res.2; omega
        obtain ⟨hb0, hb1⟩ := heldOf_bd HI.out Hnd.out (by omega) Hso.out.res.1 Hso.out.res.2
        have hn1 := Hso.out.lock hk1
        have hn2 := Hso.out.n
        have hst : stepS nd k x o = if o.heldOf x.res + x.n ≤ nd x.res then o.lock k x else o := by unfold stepS; rw [if_pos hk1]
        have hlk : o.lock k x = ⟨o.held.set q (o.held.getD q 0 + x.n), o.out.length :: o.opn, o.out ++ [⟨(q : Int), x.n, o.held.getD q 0 + x.n, k, 0⟩]⟩ := by
          unfold OW.lock OW.heldOf; rw [hq, Int.toNat_natCast]
        rw [hst, hlk] at Hstep
        unfold OW.heldOf at Hstep hb0 hb1
        rw [hq, Int.toNat_natCast] at Hstep hb0 hb1
        rw [hq] at d1 HSx
        obtain ⟨ov, sv, hSo⟩ := own_open3 HSx.out
        obtain ⟨va, vc, rfl, -⟩ := (hSo.own 2).shape
        obtain ⟨sa, sc, rfl, -⟩ := (hSo.own 3).shape
        have cq := (hSo.blk 1).at (ownL_held (ov := .slice va o.opn.length vc) (sv := .slice sa o.out.length sc) hl q16)
        have x1 := (hSo.blk 4).cell 1
        have x2 := (hSo.blk 4).cell 2
        simp only [List.getElem?_cons_zero, List.getElem?_cons_succ] at x1 x2
        have HNq := hid (fun w9 (k9 : Keeps (fun _ => False) (wr.alloc (.cells #[.int .i64 x.kind, .int .i64 (q : Int), .int .i64 x.n, .int .i64 x.v] TOp)) w9) => HN.out w9 q (HSx.out.keeps.trans k9))
        have HSo := hid hSo
        obtain ⟨ND, hND⟩ : ∃ ND, nd q = ND := ⟨_, rfl⟩
        rw [hND] at HNq Hstep
        generalize hHQ : o.held.getD q 0 = HQ at *
        have hop := HI.out.opn_le
        have hfew := HI.out.few
        have hl1 : (o.held.set q (HQ + x.n)).length = 16 := by rw [List.length_set]; exact hl
        have Hl1 := hid hl1
        clear hst hlk hSo hk1 hND HSx hl1
        go_wp2_with fail
        generalize wr.alloc (.cells #[.int .i64 x.kind, .int .i64 (q : Int), .int .i64 x.n, .int .i64 x.v] TOp) = wx at *
        generalize wr.heap.size = xb at *
        by_cases hf : HQ + x.n ≤ ND
        · have bf : decide (HQ + x.n ≤ ND) = true := by simpa using hf
          rw [if_pos hf] at Hstep
          clear hf
          refine wp_region_keep (by kernel_rfl) (by kernel_rfl) ?_
          repeat (first | go_big_quiet_skip | (refine wpKeep_idxA (g := g) (f := 0) (j := q) rfl rfl rfl rfl q16 ?_) | ((first | refine wpKeep_load rfl ?_ | refine wpKeep_other rfl ?_); (first | go_big_quiet_step (fail) | quiet_step (fail)); refine wpQuiet_nil ?_; refine Shut.mk ?_) | (refine wpQuiet_step (fun K hK => ?_); go_simp; first | (refine hK _ ?_; clear hK K) | (apply Exists.intro; refine ⟨fun w9 k9 => ?_, hK _ ?_⟩; (exact (HNq.out w9 k9).mono fun e w' h => ⟨h.1, k9.trans h.2⟩); clear hK K)))
          refine wpQuiet_nil ?_
          intro w9 k9
          have HS1 := hid (HSo.out.step k9)
          have cq := cellIn k9 cq
          have x1 := cellIn k9 x1
          have x2 := cellIn k9 x2
          have cz := (HS1.out.blk 1).fz q
          clear HNq HSo k9
          go_wp2_with fail
          refine wp_region_mix [true, true, true, true, true, true, true, true, true, true, true, true, false, false] 0 (fun _ => False) (by kernel_rfl) (by decide +kernel) ?_
          simp only [front, back, List.take_zero, List.drop_zero]
          repeat (first | (refine wpFront_idxA (g := g) (f := 0) (j := q) rfl rfl rfl rfl q16 ?_) | ((first | refine wpFront_load rfl ?_ | refine wpFront_other rfl ?_); (first | go_big_quiet_step (fail) | quiet_step (fail)); refine wpQuiet_nil ?_))
          refine wpFront_nil ?_
          simp only [wpSegs]
          go_wp2_with (refine wpList_idxA (g := g) (f := 0) (j := q) rfl rfl rfl rfl q16 ?_)
          refine NoPanic.normal ?_
          have hS2 := (HS1.out.set 1 q (.int .i64 (HQ + x.n))).drew
          simp only [Kw.red] at hS2
          rw [ownL_setH hl q16] at hS2
          go_wp2_with fail
          generalize (w9.setCell ⟨g, q, none⟩ (.int .i64 (HQ + x.n))).drew = w2 at *
          have c16 := (hS2.blk 1).at (ownL_ov Hl1.out)
          have c17 := (hS2.blk 1).at (ownL_sv Hl1.out)
          have HS2 := hid hS2
          clear hS2 HS1 cq x1 x2 cz
          refine wp_region_mix [true, true, true, true, true, true, true, true, true, true, false, false, false, false, false] 1 (fun _ => False) (by kernel_rfl) (by decide +kernel) ?_
          simp only [front, back, List.take_succ_cons, List.take_zero, List.drop_succ_cons, List.drop_zero]
          repeat ((first | refine wpFront_load rfl ?_ | refine wpFront_other rfl ?_); (first | go_big_quiet_step (fail) | quiet_step (fail)); refine wpQuiet_nil ?_)
          refine wpFront_nil ?_
          simp only [wpSegs]
          go_wp2_with fail
          refine segQ_normal (((Keeps.refl _ _).alloc _).drew) ?_
          have hSb := (HS2.out.new TI' [.int .i64 o.out.length]).drew
          simp only [Kw.red] at hSb
          refine wpList_appS 2 5 _ _ 22 TI' (.int .i64 0) 1 8 infoI Tryz.underlying22 rfl (by decide) rfl rfl hSb rfl rfl rfl rfl rfl (intsC_one [(o.out.length : Int)]) (by omega) (by unfold maxLen; omega) (by omega) ?_
          intro gb gc w7 hSc hat
          have c16 := (hSc.blk 1).at (ownL_ov Hl1.out)
          have cz := (hSc.blk 1).fz 16
          have HSc := hid (hSc.sub [0, 1, 2, 3, 4])
          clear hSc hSb HS2 c17
          go_wp2_with fail
          refine NoPanic.normal ?_
          go_wp2_with fail
          have hS3 := HSc.out.set 1 16 (.slice (some ⟨gb, 0, none⟩) (o.opn.length + 1) gc)
          simp only [Kw.red] at hS3
          rw [ownL_setO Hl1.out] at hS3
          generalize w7.setCell ⟨g, 16, none⟩ (.slice (some ⟨gb, 0, none⟩) (o.opn.length + 1) gc) = w8 at *
          have c17 := (hS3.blk 1).at (ownL_sv Hl1.out)
          have cq := (hS3.blk 1).at (ownL_held (ov := .slice (some ⟨gb, 0, none⟩) (o.opn.length + 1) gc) (sv := .slice sa o.out.length sc) Hl1.out q16)
          rw [show (o.held.set q (HQ + x.n)).getD q 0 = HQ + x.n by rw [List.getD_eq_getElem?_getD, List.getElem?_set, if_pos rfl, if_pos (by omega)]; rfl] at cq
          have x1 := (hS3.blk 4).cell 1
          have x2 := (hS3.blk 4).cell 2
          simp only [List.getElem?_cons_zero, List.getElem?_cons_succ] at x1 x2
          have HS3 := hid hS3
          clear hS3 HSc c16 cz
          refine wp_region_mix [true, true, true, true, true, true, true, true, true, true, true, true, true, true, true, true, true, true, false, false, false, false, false] 1 (fun _ => False) (by kernel_rfl) (by decide +kernel) ?_
          simp only [front, back, List.take_succ_cons, List.take_zero, List.drop_succ_cons, List.drop_zero]
          repeat (first | (refine wpFront_idxA (g := g) (f := 0) (j := q) rfl rfl rfl rfl q16 ?_) | ((first | refine wpFront_load rfl ?_ | refine wpFront_other rfl ?_); (first | go_big_quiet_step (fail) | quiet_step (fail)); refine wpQuiet_nil ?_))
          refine wpFront_nil ?_
          simp only [wpSegs]
          go_wp2_with fail
          refine segQ_normal (((Keeps.refl _ _).alloc _).drew) ?_
          have hSb := (HS3.out.new TSe [.int .i64 (q : Int), .int .i64 x.n, .int .i64 (HQ + x.n), .int .i64 k, .int .i64 0]).drew
          simp only [Kw.red] at hSb
          refine wpList_appS 3 5 _ _ TSes TSe (.agg #[.int .i64 0, .int .i64 0, .int .i64 0, .int .i64 0, .int .i64 0]) 5 40 infoSe Tryz.underlying61 rfl (by decide) rfl rfl hSb rfl rfl rfl rfl rfl (secC_one ⟨(q : Int), x.n, HQ + x.n, k, 0⟩) (by omega) (by unfold maxLen; omega) (by omega) ?_
          intro gd gf w10 hSd hat2
          have c17 := (hSd.blk 1).at (ownL_sv Hl1.out)
          have cz := (hSd.blk 1).fz 17
          have HSd := hid (hSd.sub [0, 1, 2, 3, 4])
          clear hSd hSb HS3 cq x1 x2
          go_wp2_with fail
          refine NoPanic.normal ?_
          go_wp2_with fail
          go_roundw
          case rel =>
            refine ⟨k + 1, by omega, by go_num, ?_⟩
            rw [Hstep.out]
            have h4 := HSd.out.set 1 17 (.slice (some ⟨gd, 0, none⟩) (o.out.length + 1) gf)
            simp only [Kw.red] at h4
            rw [ownL_setS Hl1.out] at h4
            have h5 := h4.sub [0, 1, 2, 3]
            simp only [Kw.red] at h5
            refine own_fold (ov := .slice (some ⟨gb, 0, none⟩) (o.opn.length + 1) gc) (sv := .slice (some ⟨gd, 0, none⟩) (o.out.length + 1) gf) ?_
            simp only [List.length_cons, List.length_append, List.length_nil, opnI_cons, secsC_app]
            rw [show intsC (opnI o.opn ++ [(o.out.length : Int)]) = intsC (opnI o.opn) ++ [.int .i64 o.out.length] by simp [intsC], show secsC [⟨(q : Int), x.n, HQ + x.n, k, 0⟩] = [.int .i64 (q : Int), .int .i64 x.n, .int .i64 (HQ + x.n), .int .i64 k, .int .i64 0] by simp [secsC, secC]]
            exact h5
          case measure => simp [intOf]; omega
        · have bf : decide (HQ + x.n ≤ ND) = false := by simpa using hf
          rw [if_neg hf] at Hstep
          clear hf
          refine wp_region_keep (by kernel_rfl) (by kernel_rfl) ?_
          repeat (first | go_big_quiet_skip | (refine wpKeep_idxA (g := g) (f := 0) (j := q) rfl rfl rfl rfl q16 ?_) | ((first | refine wpKeep_load rfl ?_ | refine wpKeep_other rfl ?_); (first | go_big_quiet_step (fail) | quiet_step (fail)); refine wpQuiet_nil ?_; refine Shut.mk ?_) | (refine wpQuiet_step (fun K hK => ?_); go_simp; first | (refine hK _ ?_; clear hK K) | (apply Exists.intro; refine ⟨fun w9 k9 => ?_, hK _ ?_⟩; (exact (HNq.out w9 k9).mono fun e w' h => ⟨h.1, k9.trans h.2⟩); clear hK K)))
          refine wpQuiet_nil ?_
          intro w9 k9
          have HS1 := hid (HSo.out.step k9)
          clear HNq HSo k9
          go_wp2_with fail
          go_roundw
          case rel => exact ⟨k + 1, by omega, by go_num, by rw [Hstep.out]; exact own_fold (HS1.out.sub [0, 1, 2, 3])⟩
          case measure => simp [intOf]; omega
      · have b1 : (x.kind == 1) = false := by simpa using hk1
        by_cases hk2 : x.kind = 2
        · have b2 : (x.kind == 2) = true := by simpa using hk2
          have hst : stepS nd k x o = if o.isTop x.res then o.endOne k else o := by unfold stepS; rw [if_neg hk1, if_pos hk2]
          rw [hst] at Hstep
          obtain ⟨ov, sv, hSo⟩ := own_open3 HSx.out
          obtain ⟨va, vc, rfl, -⟩ := (hSo.own 2).shape
          obtain ⟨sa, sc, rfl, -⟩ := (hSo.own 3).shape
          have c16 := (hSo.blk 1).at (ownL_ov hl)
          have c17 := (hSo.blk 1).at (ownL_sv hl)
          have hop := HI.out.opn_le
          have hfew := HI.out.few
          cases hq : o.opn with
          | nil =>
            have hnt : o.isTop x.res = false := by unfold OW.isTop; rw [hq]
            rw [hnt] at Hstep
            simp only [Bool.false_eq_true, if_false] at Hstep
            rw [hq] at c16
            have n0 : decide ((0 : Int) < 0) = false := by decide
            clear hst hSo hk1 hk2 hnt
            go_wp2_with fail
            go_quiet (fail)
            go_wp2_with fail
            go_roundw
            case rel => exact ⟨k + 1, by omega, by go_num, by rw [Hstep.out]; exact (HSx.out.sub [0, 1]).drewN _⟩
            case measure => simp [intOf]; omega
          | cons kk r =>
            have hkl := HI.out.lt kk (by rw [hq]; simp)
            have hks := sec_at hkl
            have htop : o.isTop x.res = decide ((o.sec kk).res = x.res) := by unfold OW.isTop; rw [hq]
            have hne : o.opn ≠ [] := by rw [hq]; simp
            have hrl : r.length + 1 ≤ k := by
              have h1 : o.opn.length = r.length + 1 := by rw [hq]; rfl
              omega
            have ho2 := hSo.own 2
            rw [hq, List.length_cons] at ho2
            obtain ⟨go, co, e1, -⟩ := ho2.form (by omega)
            rw [hq, List.length_cons, e1] at c16
            have ck := ho2.cells' (g := go) (by rw [e1]; rfl) (intsC_at (opnI_top kk r))
            obtain ⟨gs, cs, e2, -⟩ := (hSo.own 3).form (by omega)
            rw [e2] at c17
            have s0 := (hSo.own 3).cells' (g := gs) (by rw [e2]; rfl) (secsC_at hks).1
            rw [htop] at Hstep
            generalize o.sec kk = s at *
            have n0 : decide ((0 : Int) < (r.length : Int) + 1) = true := decide_eq_true (by omega)
            have m0 : (0 : Int) ≤ (r.length : Int) := by omega
            have m1 : (r.length : Int) < (r.length : Int) + 1 := by omega
            have j0 : (0 : Int) ≤ (kk : Int) := by omega
            have j1 : (kk : Int) < (o.out.length : Int) := by omega
            have Hne := hid hne
            clear hst hSo hk1 hk2 htop hks ho2 hq hne e1 e2
            by_cases hr : s.res = x.res
            · have b4 : (s.res == x.res) = true := by simpa using hr
              rw [if_pos (by simpa using hr)] at Hstep
              clear hr
              go_wp2_with fail
              go_quiet (fail)
              go_wp2_with fail
              refine (end_st HI.out Hnd.out (by omega) ((HSx.out.sub [0, 1]).drewN _) Hne.out k).mono ?_
              rintro e w2 ⟨rfl, hS2⟩
              have HS2 := hid hS2
              clear hS2
              go_wp2_with fail
              go_roundw
              case rel => exact ⟨k + 1, by omega, by go_num, by rw [Hstep.out]; exact HS2.out⟩
              case measure => simp [intOf]; omega
            · have b4 : (s.res == x.res) = false := by simpa using hr
              rw [if_neg (by simpa using hr)] at Hstep
              clear hr
              go_wp2_with fail
              go_quiet (fail)
              go_wp2_with fail
              go_roundw
              case rel => exact ⟨k + 1, by omega, by go_num, by rw [Hstep.out]; exact (HSx.out.sub [0, 1]).drewN _⟩
              case measure => simp [intOf]; omega
        · have b2 : (x.kind == 2) = false := by simpa using hk2
          by_cases hk9 : x.kind = 9
          · have b3 : (x.kind == 9) = true := by simpa using hk9
            have hst : stepS nd k x o = ends k o.opn.length o := by unfold stepS; rw [if_neg hk1, if_neg hk2, if_pos hk9]
            rw [hst] at Hstep
            have HE := hid (fun j => ((HI.out.later (Nat.le_succ k) (Nat.le_succ k)).ends (fun i s hs => (HI.out.each i s hs).2) Hx.out hk9 j).1)
            have hop := HI.out.opn_le
            have hfew := HI.out.few
            have HSy := hid (show St (fun _ => False) w [.pt sg TOp (opsC P), ownC g (ends k 0 o)] _ from HSx.out.sub [0, 1])
            clear hst hk1 hk2 hk9 HSx
            go_wp2_with fail
            go_loopw [] (fun wy => ∃ j : Nat, j ≤ o.opn.length ∧ St (fun _ => False) w [.pt sg TOp (opsC P), ownC g (ends k j o)] wy) (fun wy => opnLen wy g)
            case atStart => exact ⟨0, Nat.zero_le _, HSy.out⟩
            case round =>
              clear HSy
              obtain ⟨j, hj, hS⟩ := hrel
              obtain ⟨hm, aa, cc, c16⟩ := opn_len (HE.out j).hl hS
              have hon := ends_opn k j o
              have hlen : (ends k j o).opn.length = o.opn.length - j := by rw [hon, List.length_drop]
              rw [hlen] at c16 hm
              by_cases hjl : j < o.opn.length
              · have n0 : decide (0 < o.opn.length - j) = true := decide_eq_true (by omega)
                have hne : (ends k j o).opn ≠ [] := by intro e; rw [e] at hlen; simp at hlen; omega
                have hee := end_st (HE.out j) Hnd.out (by omega) hS hne k
                have HEE := hid hee
                have Hm := hid hm
                clear hee hS hon hlen hne hm
                go_wp2_with fail
                refine HEE.out.mono ?_
                rintro e w2 ⟨rfl, hS2⟩
                have hm2 := (opn_len (HE.out (j + 1)).hl hS2).1
                have hlen : (ends k (j + 1) o).opn.length = o.opn.length - (j + 1) := by rw [ends_opn, List.length_drop]
                rw [hlen] at hm2
                have HS2 := hid hS2
                have Hm2 := hid hm2
                clear hS2 hm2 hlen HEE
                go_wp2_with fail
                go_roundw
                case rel => exact ⟨j + 1, by omega, HS2.out⟩
                case measure => rw [Hm.out, Hm2.out]; omega
              · have n0 : decide (0 < o.opn.length - j) = false := decide_eq_false (by omega)
                have hjj : j = o.opn.length := by omega
                subst hjj
                have HS2 := hid hS
                clear hS hon hlen hm
                go_wp2_with fail
                go_roundw
                case rel => exact ⟨k + 1, by omega, by go_num, by rw [Hstep.out]; exact HS2.out⟩
                case measure => simp [intOf]; omega
          · have b3 : (x.kind == 9) = false := by simpa using hk9
            have hst : stepS nd k x o = o := by unfold stepS; rw [if_neg hk1, if_neg hk2, if_neg hk9]
            rw [hst] at Hstep
            clear hk1 hk2 hk9 hst
            go_wp2_with fail
            go_roundw
            case rel => exact ⟨k + 1, by omega, by go_num, by rw [Hstep.out]; exact HSx.out.sub [0, 1]⟩
            case measure => simp [intOf]; omega
    · have a1 : decide (k < P.length) = false := by simpa using hlt
      rw [List.take_of_length_le (show P.length ≤ k by omega), HoE.out] at hS hI
      obtain ⟨ov, sv, hS⟩ := own_open hS
      obtain ⟨sa, sc, rfl, hsc⟩ := (hS.own 3).shape
      have hl := hI.hl
      have c17 := (hS.blk 1).at (ownL_sv hl)
      have HS2 := hid hS
      have i0 : (oE.out.length : Int) ≤ (sc : Int) := by omega
      clear hS hI
      go_wp2_with fail
      refine wp_region_mix [true, true, true, true, true, true, true, true, true, true, true, true, true, true, true, false] 0 (fun _ => False) (by kernel_rfl) (by decide +kernel) ?_
      simp only [front, back, List.take_zero, List.drop_zero]
      repeat ((first | refine wpFront_load rfl ?_ | refine wpFront_other rfl ?_); (first | go_big_quiet_step (fail) | quiet_step (fail)); refine wpQuiet_nil ?_)
      refine wpFront_nil ?_
      simp only [wpSegs]
      go_wp2_with fail
      refine NoPanic.normal ?_
      go_wp2_with fail
      go_ret
      refine ⟨_, rfl, ?_⟩
      have h3 := HS2.out.drew.imp 3 (c := .row TSe 5 (.slice sa oE.out.length sc) oE.out.length (secsC oE.out)) (.vec TSe 5 (.slice sa oE.out.length oE.out.length) oE.out.length (secsC oE.out)) (fun F h => ⟨Vec.clip h.1, fun b => (h.2 b).trans (by cases sa <;> exact Iff.rfl)⟩)
      exact h3.sub [3]
theorem sectionsC_any (h : TabAt w p m x) (id : Int) : Calls Tryz.prog 27 #[.pointer (some ⟨p, 0, none⟩), .int .i64 id] w fun e w' => ∃ ao, e = .returned (.slice ao (secsI m.ts id).length (secsI m.ts id).length) ∧ St (fun _ => False) w [.vec TSe 5 (.slice ao (secsI m.ts id).length (secsI m.ts id).length) (secsI m.ts id).length (secsC (secsI m.ts id))] w' := by
  rcases id_cases m.ts id with ho | ⟨i, t, rfl, ht⟩
  · rw [secs_no ho]
    refine (sections_out h id ho).mono ?_; rintro e w1 ⟨rfl, k⟩
    exact ⟨none, rfl, ((St.start w).step k).add (Keeps.refl (fun _ => False) _) (G := fun _ => False) (c := .vec TSe 5 (.slice none 0 0) 0 []) ⟨⟨rfl, .inl ⟨rfl, rfl⟩⟩, fun b => by simp [Value.ownBlock]⟩ (fun _ h => h.elim)⟩
  · have e1 : secsI m.ts (i : Int) = secsOf t := by unfold secsI secsAt; rw [if_neg (by omega), Int.toNat_natCast, ht]
    rw [e1]
    exact sectionsC_in h ht
end
end Go.Proofs.YtnkjjhenfhnajaaGreatDoor

/-
  keelbook's book of lists of sections: what is kept in it.
-/
namespace Go.Proofs.YtnkjjhenfhnajaaGreatDoor
open Go.RowKit Go.Kw Go.Kreg Go.Tm Go.Ad
set_option linter.unusedSimpArgs false
set_option linter.unusedVariables false

abbrev TBs : Nat := 59
abbrev TSss : Nat := 57
abbrev zSe : Value := .agg #[.int .i64 0, .int .i64 0, .int .i64 0, .int .i64 0, .int .i64 0]
theorem infoSes : (Tryz.prog.info? TSes).map (fun i => (i.zero, i.size, i.bytes)) = some (some (.slice none 0 0), 1, 24) := by kernel_rfl
theorem sizeSe : (Tryz.prog.info? TSe).map (·.size) = some 5 := by kernel_rfl
theorem secC_one5 (a b c d e : Int) : ∀ u ∈ [Value.int .i64 a, .int .i64 b, .int .i64 c, .int .i64 d, .int .i64 e], u.oneCell' = true := by
  intro u hu; simp only [List.mem_cons, List.not_mem_nil, or_false] at hu; rcases hu with rfl | rfl | rfl | rfl | rfl <;> rfl
theorem secsC_one (l : List Sec) : ∀ u ∈ secsC l, u.oneCell' = true := by
  intro u hu
  obtain ⟨s, _, h⟩ := List.mem_flatMap.1 hu
  exact secC_one s u h

/-- Cells written, one behind the other. -/
def overL : List Value → Nat → List Value → List Value
  | xs, _, [] => xs
  | xs, o, u :: vs => overL (xs.set o u) (o + 1) vs
theorem secsC_over {L : List Sec} {j : Nat} (hj : j < L.length) (s : Sec) : overL (secsC L) (j * 5) (secC s) = secsC (L.set j s) := by
  have h := List.getElem?_eq_getElem hj
  obtain ⟨e, hl⟩ := secsC_cut h
  have h2 : (L.set j s)[j]? = some s := by rw [List.getElem?_set, if_pos rfl, if_pos hj]
  obtain ⟨e2, _⟩ := secsC_cut h2
  rw [e2, List.take_set_of_le (Nat.le_refl _), List.drop_set_of_lt (Nat.lt_succ_self _), e]
  unfold secC
  simp only [overL]
  rw [List.set_append_right _ _ (by omega), List.set_append_right _ _ (by omega), List.set_append_right _ _ (by omega), List.set_append_right _ _ (by omega), List.set_append_right _ _ (by omega), hl]
  have d1 : j * 5 + 1 - j * 5 = 1 := by omega
  have d2 : j * 5 + 1 + 1 - j * 5 = 2 := by omega
  have d3 : j * 5 + 1 + 1 + 1 - j * 5 = 3 := by omega
  have d4 : j * 5 + 1 + 1 + 1 + 1 - j * 5 = 4 := by omega
  rw [Nat.sub_self, d1, d2, d3, d4]
  simp
theorem Vec.setInS {w : World} {T : TypeId} {sz n : Nat} {v : Value} {xs : List Value} (h : Vec w T sz v n xs) {g : Nat} (hg : v.ownBlock = some g) (j : Nat) (u : Value) (hj : j < n * sz) : Vec (w.setCell ⟨g, j, none⟩ u) T sz v n (xs.set j u) := by
  obtain ⟨h1, h2⟩ := h
  refine ⟨by simp [h1], ?_⟩
  rcases h2 with ⟨rfl, _⟩ | ⟨g', cap, cur, rfl, hh, hn, hm, hs, ht⟩
  · cases hg
  · obtain rfl : g' = g := by simpa [Value.ownBlock] using hg
    refine .inr ⟨g', cap, cur.setIfInBounds j u, rfl, ?_, hn, hm, by simpa using hs, ?_⟩
    · have hB : Blk w g' T cur.toList := by unfold Blk; simpa using hh
      have := hB.set j u
      unfold Blk at this
      rw [this]; simp [← List.setIfInBounds_toArray]
    · rw [← ht]; simp [List.take_set]
theorem St.vecOver {F0 : Nat → Prop} {w0 : World} {T : TypeId} {sz g n cap : Nat} (k : Nat) : ∀ (vs : List Value) (o : Nat) (xs : List Value) {cs : List Ch} {w : World}, St F0 w0 cs w → cs.getD k .emp = .vec T sz (.slice (some ⟨g, 0, none⟩) n cap) n xs → k < cs.length → o + vs.length ≤ n * sz →
    St F0 w0 (cs.set k (.vec T sz (.slice (some ⟨g, 0, none⟩) n cap) n (overL xs o vs))) (w.setCells g o vs)
  | [], o, xs, cs, w, hS, hi, hk, _ => by
    have hset : cs.set k (.vec T sz (.slice (some ⟨g, 0, none⟩) n cap) n xs) = cs := by
      refine List.ext_getElem? fun j => ?_
      rw [List.getElem?_set]
      by_cases hkj : k = j
      · subst hkj
        rw [if_pos rfl, if_pos hk, ← hi, List.getD_eq_getElem?_getD, List.getElem?_eq_getElem hk]; rfl
      · rw [if_neg hkj]
    show St F0 w0 (cs.set k (.vec T sz (.slice (some ⟨g, 0, none⟩) n cap) n xs)) w
    rw [hset]; exact hS
  | u :: vs, o, xs, cs, w, hS, hi, hk, ho => by
    simp only [List.length_cons] at ho
    have h1 := hS.turn (w' := w.setCell ⟨g, o, none⟩ u) k (c' := .vec T sz (.slice (some ⟨g, 0, none⟩) n cap) n (xs.set o u)) hi fun F hF => ⟨F, ⟨Vec.setInS hF.1 rfl o u (by omega), hF.2⟩, (Keeps.refl F w).setCell (.inl ((hF.2 g).2 rfl)) _, fun _ => .inl⟩
    have h2 := St.vecOver k vs (o + 1) (xs.set o u) h1 (by rw [List.getD_eq_getElem?_getD, List.getElem?_set, if_pos rfl, if_pos hk]; rfl) (by rw [List.length_set]; exact hk) (by omega)
    rw [List.set_set] at h2
    exact h2
/-- A store of an element of a list. -/
theorem wpList_storeVec {P : Program} {F0 : Nat → Prop} {w0 w : World} {cs : List Ch} {ops : Array Oper} {rest : List Oper} {o : Oper} {a : Act} {Q : Exit → Act → World → Prop} (k : Nat) (ty : TypeId) (x v : Operand) (hgd : o.guard = none) (ho : o.op = .store ty x v)
    {T : TypeId} {sz g n cap j : Nat} {xs : List Value} (new : List Value) (hS : St F0 w0 cs w) (hi : cs.getD k .emp = .vec T sz (.slice (some ⟨g, 0, none⟩) n cap) n xs) (hk : k < cs.length)
    (hx : a.eval x = .pointer (some ⟨g, j * sz, none⟩)) (hv : a.eval v = .agg new.toArray) (hj : j < n) (hl : new.length = sz)
    (hsz : (P.info? ty).map (·.size) = some new.length) (h1 : ∀ u ∈ new, u.oneCell' = true)
    (h : ∀ w', St F0 w0 (cs.set k (.vec T sz (.slice (some ⟨g, 0, none⟩) n cap) n (overL xs (j * sz) new))) w' → wpList P ops Q rest (a.put o.dst undef) w') : wpList P ops Q (o :: rest) a w := by
  have hvec := hS.vec k hi
  have hfit : j * sz + new.length ≤ n * sz := by
    rw [hl, ← Nat.succ_mul]; exact Nat.mul_le_mul_right _ hj
  refine wpList_store_mid hgd ty x v ho g (j * sz) new.toArray hx hv (fun i hi' => ?_) (by simpa using hsz) (all_oneCell_toArray h1) ?_
  · have hi2 : i < new.length := by simpa using hi'
    have hlt : j * sz + i < xs.length := by rw [hvec.1]; omega
    exact ⟨by rw [hvec.cells' (g := g) rfl (List.getElem?_eq_getElem hlt)]; rfl, hvec.fz rfl _⟩
  · exact h _ (St.vecOver k new (j * sz) xs hS hi hk hfit)

structure EntS where
  ao : Option Addr
  n : Nat
  l : List Sec
  was : Value
def heldS (es : List EntS) : Nat := (es.map fun e => e.n + 1).sum
def entsS (es : List EntS) : List Ch := es.map fun e => .vec TSe 5 (.slice e.ao e.n e.n) e.n (secsC e.l)
def wasS (es : List EntS) : List Ch := es.map fun e => .vec TSe 5 e.was e.n (secsC e.l)
def bookE (kb : Nat) (es : List EntS) (v : Value × Value) : List Ch :=
  [.pt kb TBs [v.1, v.2, .int .i64 (heldS es), .bool false], .row TSes 1 v.1 es.length (es.map fun e => .slice e.ao e.n e.n), .row TSes 1 v.2 es.length (es.map (·.was)), .stars (entsS es), .stars (wasS es)]
def bookS (kb : Nat) (es : List EntS) : Ch := .ex fun v => .stars (bookE kb es v)
theorem heldS_app (es : List EntS) (e : EntS) : heldS (es ++ [e]) = heldS es + (e.n + 1) := by simp [heldS]

section
variable {w : World} {kb : Nat} {es : List EntS} {F : Nat → Prop}
theorem bookS_start (h : (Ch.pt kb TBs [.slice none 0 0, .slice none 0 0, .int .i64 0, .bool false]).holds F w) : (bookS kb []).holds F w := by
  refine ⟨(.slice none 0 0, .slice none 0 0), Sts.more h ?_⟩
  intro c hc
  simp only [List.mem_cons, List.not_mem_nil, or_false] at hc
  rcases hc with rfl | rfl | rfl | rfl
  · exact ⟨⟨rfl, .inl ⟨rfl, rfl⟩⟩, fun b => by simp [Value.ownBlock]⟩
  · exact ⟨⟨rfl, .inl ⟨rfl, rfl⟩⟩, fun b => by simp [Value.ownBlock]⟩
  · exact Sts.nil w
  · exact Sts.nil w

set_option maxRecDepth 100000 in
set_option maxHeartbeats 1000000 in
theorem keepS_any {ao : Option Addr} {n : Nat} {l : List Sec} (h : Sts [bookS kb es, .vec TSe 5 (.slice ao n n) n (secsC l)] F w) (hx : n ≤ 65536) (hfew : es.length < 4000) (hheld : heldS es + (n + 1) ≤ 1000000) :
    Calls Tryz.prog 29 #[.pointer (some ⟨kb, 0, none⟩), .slice ao n n] w fun e w' => e = .returned (.tuple #[]) ∧ ∃ was, St F w [bookS kb (es ++ [⟨ao, n, l, was⟩])] w' := by
  obtain ⟨⟨lsv, wsv⟩, hS⟩ := (St.of h).opens 0 (bookE kb es) (fun F h => h)
  clear h
  simp only [List.set_cons_zero, List.cons_append, List.nil_append, bookE] at hS
  obtain ⟨c0, c1, c2, c3, fz⟩ := cells4 (hS.blk 2)
  have hv1 := hS.vec 1
  have hxl : (secsC l).length = n * 5 := hv1.1
  have hnone := hid (vec_none hv1)
  have lk : lsv.ownBlock ≠ some kb := (hS.own 3).neT (hS.blk 2) (by decide)
  have wk : wsv.ownBlock ≠ some kb := (hS.own 4).neT (hS.blk 2) (by decide)
  clear hv1
  go_enter Tryz.func29, Tryz.ntmps29
  have hS1 := hS.new TSes [.slice ao n n]
  go_wp2_with (at_builtin; refine wpList_appS 3 7 _ _ TSss TSes (.slice none 0 0) 1 24 infoSes Tryz.underlying57 rfl (by decide) rfl rfl hS1 rfl rfl rfl rfl rfl (by simp [Value.oneCell']) (by omega) (by unfold maxLen; omega) (by omega) ?_; intro g gc w1 hS2 hat; obtain ⟨d0, d1, d2, d3, dz⟩ := cells4 (hS2.blk 2))
  have hS3 := hS2.set 2 0 (.slice (some ⟨g, 0, none⟩) (es.length + 1) gc)
  clear d0 d1 d2 d3 dz c0 c1 c2 c3 fz hS hS1 hS2 hat
  generalize w1.setCell ⟨kb, 0, none⟩ (.slice (some ⟨g, 0, none⟩) (es.length + 1) gc) = w2 at *
  simp only [List.set_cons_zero, List.set_cons_succ, List.cons_append, List.nil_append] at hS3
  obtain ⟨c0, c1, c2, c3, fz⟩ := cells4 (hS3.blk 2)
  refine wp_region_mix [true, true, true, true, true, true, false, false, false, false, false, false] 2 (fun _ => False) (by kernel_rfl) (by decide +kernel) ?_
  simp only [front, back, List.take_succ_cons, List.take_zero, List.drop_succ_cons, List.drop_zero]
  repeat ((first | refine wpFront_load rfl ?_ | refine wpFront_other rfl ?_); (first | go_big_quiet_step (fail) | quiet_step (fail)); refine wpQuiet_nil ?_)
  refine wpFront_nil ?_
  simp only [wpSegs]
  have hS4 := hS3.drew
  refine wpList_app_nil _ _ TSes TSe zSe 5 40 infoSe Tryz.underlying61 rfl (by decide) rfl rfl rfl ao n n (secsC l) rfl hxl hnone.out (vec_src (hS4.vec 1)) (secsC_one l) (by unfold maxLen; omega) (by omega) ?_
  intro ra rc w3 hV3 hK3 hN3
  have hS5 := hS4.add hK3 (G := fun b => (Value.slice ra n rc).ownBlock = some b) (c := .vec TSe 5 (.slice ra n rc) n (secsC l)) ⟨hV3, fun _ => Iff.rfl⟩ hN3
  have k3 : Keeps (fun _ => False) w2 w3 := (Keeps.refl _ w2).drew.trans hK3
  refine segQ_normal k3 ?_
  go_wp2_with fail
  refine segQ_normal (k3.alloc _) ?_
  have hS6 := hS5.new TSes [.slice ra n rc]
  clear hS3 hS4 hS5 hV3 hN3 c0 c1 c2 c3 fz
  refine wpList_appS 4 9 _ _ TSss TSes (.slice none 0 0) 1 24 infoSes Tryz.underlying57 rfl (by decide) rfl rfl hS6 rfl rfl rfl rfl rfl (by simp [Value.oneCell']) (by omega) (by unfold maxLen; omega) (by omega) ?_
  intro g2 gc2 w4 hS7 hat2
  obtain ⟨c0, c1, c2, c3, fz⟩ := cells4 (hS7.blk 2)
  go_wp2_with fail
  refine NoPanic.normal ?_
  have hS8 := hS7.set 2 1 (.slice (some ⟨g2, 0, none⟩) (es.length + 1) gc2)
  go_wp2_with fail
  have hS9 := hS8.set 2 2 (.int .i64 ((heldS es : Int) + n + 1))
  clear hS6 hS7 hS8 hat2 c0 c1 c2 c3 fz
  generalize (w4.setCell ⟨kb, 1, none⟩ (.slice (some ⟨g2, 0, none⟩) (es.length + 1) gc2)).setCell ⟨kb, 2, none⟩ (.int .i64 ((heldS es : Int) + n + 1)) = w6 at *
  simp only [List.set_cons_zero, List.set_cons_succ, List.cons_append, List.nil_append] at hS9
  obtain ⟨c0, c1, c2, c3, fz⟩ := cells4 (hS9.blk 2)
  have fin : ∃ was, St F w [bookS kb (es ++ [⟨ao, n, l, was⟩])] w6 := by
    have hh : ((heldS es : Int) + n + 1) = (heldS (es ++ [⟨ao, n, l, .slice ra n rc⟩]) : Nat) := by rw [heldS_app]; simp only []; omega
    have hT := (((hS9.snoc 5 1).snoc 6 8).fold [2, 3, 4, 5, 6] (bookS kb (es ++ [⟨ao, n, l, .slice ra n rc⟩])) (fun F h => ⟨(_, _), by
      rw [hh] at h
      show Sts _ F _
      simpa [bookE, entsS, wasS, sel] using h⟩)).sub [2]
    exact ⟨_, hT⟩
  have Fin := hid fin
  clear fin hS9
  have b1 : decide ((1000000 : Int) < (heldS es : Int) + n + 1) = false := by simp; omega
  have b2 : decide ((4000 : Int) < (es.length : Int) + 1) = false := by simp; omega
  go_loopw [] (fun wr => w6 = wr) (fun _ => 0)
  case atStart => rfl
  case round =>
    subst hrel
    by_cases hz : 0 < es.length
    · have b3 : decide ((1 : Int) < (es.length : Int) + 1) = true := by simp; omega
      go_wp2_with fail
      go_end0
      exact ⟨rfl, Fin.out⟩
    · have b3 : decide ((1 : Int) < (es.length : Int) + 1) = false := by simp; omega
      go_wp2_with fail
      go_end0
      exact ⟨rfl, Fin.out⟩

end
end Go.Proofs.YtnkjjhenfhnajaaGreatDoor

/-
  keelbook's book of lists of sections: each as it was, no two in one place.
-/
namespace Go.Proofs.YtnkjjhenfhnajaaGreatDoor
open Go.RowKit Go.Kw Go.Kreg Go.Tm Go.Ad
set_option linter.unusedSimpArgs false
set_option linter.unusedVariables false

section
variable {w : World} {kb : Nat} {es : List EntS} {F : Nat → Prop}
set_option maxRecDepth 100000 in
set_option maxHeartbeats 1000000 in
theorem staysS_any {v : Value × Value} (h : Sts (bookE kb es v) F w) (hfew : es.length ≤ 4000) (hok : ∀ e ∈ es, e.n ≤ 65536) :
    Calls Tryz.prog 108 #[.pointer (some ⟨kb, 0, none⟩)] w fun e w' => e = .returned (.bool true) ∧ St F w (bookE kb es v) w' := by
  obtain ⟨lsv, wsv⟩ := v
  have hS := St.of h
  clear h
  unfold bookE at *
  go_enter Tryz.func108, Tryz.ntmps108
  go_wp2_with fail
  go_loopw [3] (fun i wr => ∃ k : Nat, k ≤ es.length ∧ i = .int .i64 k ∧ St F w (bookE kb es (lsv, wsv)) wr) (fun i _ => es.length - (intOf i).toNat)
  case atStart => exact ⟨0, Nat.zero_le _, rfl, hS⟩
  case round =>
    clear hS
    obtain ⟨k, hk, rfl, hS⟩ := hrel
    have HS := hid hS
    unfold bookE at hS
    obtain ⟨c0, c1, c2, c3, fz⟩ := cells4 (hS.blk 0)
    by_cases hlt : k < es.length
    · have hL := hS.own 1
      have hW := hS.own 2
      obtain ⟨g, gc, e1, _⟩ := hL.form (by omega)
      obtain ⟨g2, gc2, e2, _⟩ := hW.form (by omega)
      simp only at e1 e2
      subst e1; subst e2
      have hx := List.getElem?_eq_getElem hlt
      generalize es[k] = en at *
      have d1 := hL.cells' (g := g) rfl (j := k) (u := .slice en.ao en.n en.n) (by simp [hx])
      have d2 := hW.cells' (g := g2) rfl (j := k) (u := en.was) (by simp [hx])
      have hn := hok en (List.mem_of_getElem? hx)
      obtain ⟨F1, f1'⟩ := hS.elemAt 3 k (ds := entsS es) (c := .vec TSe 5 (.slice en.ao en.n en.n) en.n (secsC en.l)) (by simp [entsS, hx])
      obtain ⟨F2, f2'⟩ := hS.elemAt 4 k (ds := wasS es) (c := .vec TSe 5 en.was en.n (secsC en.l)) (by simp [wasS, hx])
      have f1 := f1'.1
      have f2 := f2'.1
      have hln : en.l.length = en.n := by have := f1.1; rw [secsC_len] at this; omega
      have s1 := hid (show RdS _ (.slice en.ao en.n en.n) en.l.length 5 (secsC en.l) from by rw [hln]; exact RdS.vec f1 (by omega))
      have s2 := hid (show RdS _ en.was en.l.length 5 (secsC en.l) from by rw [hln]; exact RdS.vec f2 (by omega))
      obtain ⟨wa, wc, e3, _⟩ := Vec.shape f2
      rw [e3] at d2 s2
      have i0 : (0 : Int) ≤ (k : Int) := by omega
      have i1 : (k : Int) < (es.length : Int) := by omega
      have b1 : decide ((k : Int) < (es.length : Int)) = true := by simp; omega
      clear hL hW hS hx f1 f2 hln e3 f1' f2'
      go_wp2_with fail
      refine wp_region_mix [true, true, true, true, true, true, true, true, true, true, true, true, true, true, true, true, true, true, true, true, false, false, false, false, false, false] 0 (fun _ => False) (by kernel_rfl) (by decide +kernel) ?_
      simp only [front, back, List.take_zero, List.drop_zero]
      repeat ((first | refine wpFront_load rfl ?_ | refine wpFront_other rfl ?_); (first | go_big_quiet_step (fail) | quiet_step (fail)); refine wpQuiet_nil ?_)
      refine wpFront_nil ?_
      simp only [wpSegs]
      go_wp2_with fail
      have hsm := sameSe_any (s1.out.new ((Keeps.refl _ _).drewN 1)) (s2.out.new ((Keeps.refl _ _).drewN 1))
      rw [decide_eq_true rfl] at hsm
      refine hsm.mono ?_; rintro e w4 ⟨rfl, n4, rfl⟩
      go_wp2_with fail
      refine NoPanic.normal ?_
      go_wp2_with fail
      have hS5 := ((HS.out.drewN (1 + n4)).set 0 3 (.bool false))
      go_roundw
      case rel => exact ⟨k + 1, by omega, by go_num, hS5⟩
      case measure => simp [intOf]; omega
    · have b1 : decide ((k : Int) < (es.length : Int)) = false := by simp; omega
      obtain ⟨a, c, e, _⟩ := (hS.own 1).shape
      simp only at e
      subst e
      clear hS
      go_wp2_with fail
      go_ret
      exact ⟨rfl, HS.out⟩

set_option maxRecDepth 100000 in
theorem markS_any (i j : Int) (w : World) (h0 : 0 ≤ i) (h1 : i ≤ 1000000) : Calls Tryz.prog 41 #[.int .i64 i, .int .i64 j] w fun e w' => e = .returned (.agg #[.int .i64 (-1 - i), .int .i64 0, .int .i64 0, .int .i64 j, .int .i64 0]) ∧ Keeps (fun _ => False) w w' := by
  have hS := (St.start w).new TSe [.int .i64 0, .int .i64 0, .int .i64 0, .int .i64 0, .int .i64 0]
  simp only [Kw.red] at hS
  have HS := hid hS
  clear hS
  go_enter Tryz.func41, Tryz.ntmps41
  go_wp2_with (refine wpList_storeS 0 TSe _ _ rfl rfl [.int .i64 (-1 - i), .int .i64 0, .int .i64 0, .int .i64 j, .int .i64 0] HS.out rfl rfl rfl sizeSe rfl (secC_one5 _ _ _ _ _) ?_; intro w3 hS3; simp only [Kw.red] at hS3)
  have g0 := (hS3.blk 0).cell 0
  have g1 := (hS3.blk 0).cell 1
  have g2 := (hS3.blk 0).cell 2
  have g3 := (hS3.blk 0).cell 3
  have g4 := (hS3.blk 0).cell 4
  simp only [List.getElem?_cons_zero, List.getElem?_cons_succ] at g0 g1 g2 g3 g4
  refine bodyPost_ret (v := .agg #[.int .i64 (-1 - i), .int .i64 0, .int .i64 0, .int .i64 j, .int .i64 0]) (by simp [results, Tryz.results41, go_sem, g0, g1, g2, g3, g4]) rfl ?_
  exact ⟨rfl, hS3.keeps⟩

/-- The marks of the first j places. -/
def markL (i j : Nat) : List Sec := (List.range j).map fun (q : Nat) => (⟨-1 - (i : Int), 0, 0, q, 0⟩ : Sec)
theorem markL_len (i j : Nat) : (markL i j).length = j := by simp [markL]
theorem markL_at {i j q : Nat} (h : q < j) : (markL i j)[q]? = some ⟨-1 - (i : Int), 0, 0, q, 0⟩ := by simp [markL, h]
theorem markL_next {i j : Nat} {l : List Sec} (h : j < l.length) : (markL i j ++ l.drop j).set j ⟨-1 - (i : Int), 0, 0, j, 0⟩ = markL i (j + 1) ++ l.drop (j + 1) := by
  rw [List.drop_eq_getElem_cons h, List.set_append_right _ _ (by rw [markL_len]; exact Nat.le_refl _), markL_len, Nat.sub_self, List.set_cons_zero]
  unfold markL
  rw [List.range_succ, List.map_append, List.append_assoc]; rfl
/-- The first k lists marked. -/
def mkS (k : Nat) (es : List EntS) : List EntS := es.mapIdx fun i e => if i < k then { e with l := markL i e.n } else e
theorem mkS_zero (es : List EntS) : mkS 0 es = es := by
  unfold mkS
  apply List.ext_getElem? ; intro i; simp
theorem mkS_at (k : Nat) (es : List EntS) (i : Nat) : (mkS k es)[i]? = es[i]?.map fun e => if i < k then { e with l := markL i e.n } else e := by
  unfold mkS; simp
theorem entsS_at {es : List EntS} {i : Nat} {e : EntS} (h : es[i]? = some e) : (entsS es).getD i .emp = .vec TSe 5 (.slice e.ao e.n e.n) e.n (secsC e.l) := by simp [entsS, h]
theorem mkS_next {es : List EntS} {k : Nat} {e : EntS} (h : es[k]? = some e) : ((entsS (mkS k es)).set k .emp).set k (.vec TSe 5 (.slice e.ao e.n e.n) e.n (secsC (markL k e.n))) = entsS (mkS (k + 1) es) := by
  rw [List.set_set]
  apply List.ext_getElem?; intro i
  rw [List.getElem?_set]
  have hk : k < (entsS (mkS k es)).length := by
    have := (List.getElem?_eq_some_iff.1 h).1
    simpa [entsS, mkS] using this
  simp only [hk]
  by_cases hik : k = i
  · subst hik
    simp [entsS, mkS_at, h]
  · simp only [hik, if_false, entsS, List.getElem?_map, mkS_at]
    cases es[i]? with
    | none => rfl
    | some x =>
      have : (i < k) = (i < k + 1) := by apply propext; omega
      simp [this]
set_option maxRecDepth 100000 in
set_option maxHeartbeats 4000000 in
theorem apartS_any (h : Sts [bookS kb es] F w) (hfew : es.length ≤ 4000) (hok : ∀ e ∈ es, e.n ≤ 65536) :
    Calls Tryz.prog 40 #[.pointer (some ⟨kb, 0, none⟩), .func (.func 41) #[] #[]] w fun e w' => e = .returned (.bool true) ∧ St F w [] w' := by
  obtain ⟨⟨lsv, wsv⟩, h2⟩ := Sts.of_one h
  have h2 : Sts (bookE kb es (lsv, wsv)) F w := h2
  have hcl : ∀ e ∈ es, e.l.length = e.n ∧ e.n ≤ 65536 := by
    intro e he
    obtain ⟨i, hi⟩ := List.getElem?_of_mem he
    obtain ⟨F1, f1⟩ := (St.of h2).elemAt 3 i (entsS_at hi)
    have := f1.1.1
    rw [secsC_len] at this
    exact ⟨by omega, hok e he⟩
  have Hcl := hid hcl
  clear h hcl
  go_enter Tryz.func40, Tryz.ntmps40
  go_wp2_with fail
  refine (staysS_any h2 hfew hok).mono ?_; rintro e w1 ⟨rfl, hS⟩
  have hS := hS.sub [0, 1, 3]
  simp only [sel, bookE, List.getD_cons_zero, List.getD_cons_succ, List.set_cons_zero, List.set_cons_succ] at hS
  clear h2
  go_wp2_with fail
  go_loopw [5] (fun i wr => ∃ k : Nat, k ≤ es.length ∧ i = .int .i64 k ∧ St F w [.pt kb TBs [lsv, wsv, .int .i64 (heldS es), .bool false], .row TSes 1 lsv es.length (es.map fun e => .slice e.ao e.n e.n), .stars (entsS (mkS k es))] wr) (fun i _ => es.length - (intOf i).toNat)
  case atStart => exact ⟨0, Nat.zero_le _, rfl, by rw [mkS_zero]; exact hS⟩
  case round =>
    clear hS
    obtain ⟨k, hk, rfl, hS⟩ := hrel
    have HS := hid hS
    obtain ⟨c0, c1, c2, c3, fz⟩ := cells4 (hS.blk 0)
    by_cases hlt : k < es.length
    · have hL := hS.own 1
      obtain ⟨g, gc, e1, _⟩ := hL.form (by omega)
      subst e1
      have hx := List.getElem?_eq_getElem hlt
      generalize es[k] = en at *
      have Hx := hid hx
      have d1 := hL.cells' (g := g) rfl (j := k) (u := .slice en.ao en.n en.n) (by simp [hx])
      have hE := hS.elem 2 k (ds := entsS (mkS k es)) (c := .vec TSe 5 (.slice en.ao en.n en.n) en.n (secsC en.l)) (entsS_at (by rw [mkS_at, hx]; simp))
      simp only [List.set_cons_zero, List.set_cons_succ, List.cons_append, List.nil_append] at hE
      have HE := hid hE
      obtain ⟨hxn, hn⟩ := Hcl.out en (List.mem_of_getElem? hx)
      have hnb := hid (vec_none (hE.vec 3))
      have i0 : (0 : Int) ≤ (k : Int) := by omega
      have i1 : (k : Int) < (es.length : Int) := by omega
      have b1 : decide ((k : Int) < (es.length : Int)) = true := by simp; omega
      have j0 : (0 : Int) ≤ (en.n : Int) := by omega
      have j1 : (en.n : Int) ≤ (en.n : Int) := by omega
      clear hL hS hx hE hxn
      go_wp2_with fail
      go_quiet (fail)
      go_wp2_with fail
      have hE := HE.out.drewN nq
      generalize wr.drewN nq = wr1 at *
      clear c0 c1 c2 c3 fz d1
      go_loopw [7] (fun i wr => ∃ j : Nat, j ≤ en.n ∧ i = .int .i64 j ∧ St F w [.pt kb TBs [.slice (some ⟨g, 0, none⟩) es.length gc, wsv, .int .i64 (heldS es), .bool false], .row TSes 1 (.slice (some ⟨g, 0, none⟩) es.length gc) es.length (es.map fun e => .slice e.ao e.n e.n), .stars ((entsS (mkS k es)).set k .emp), .vec TSe 5 (.slice en.ao en.n en.n) en.n (secsC (markL k j ++ en.l.drop j))] wr) (fun i _ => en.n - (intOf i).toNat)
      case atStart => exact ⟨0, Nat.zero_le _, rfl, by simpa [markL] using hE⟩
      case round =>
        clear hE
        obtain ⟨j, hj, rfl, hE⟩ := hrel
        obtain ⟨hxn, _⟩ := Hcl.out en (List.mem_of_getElem? Hx.out)
        by_cases hjl : j < en.n
        · have b2 : decide ((j : Int) < (en.n : Int)) = true := by simp; omega
          obtain ⟨g1, hg1⟩ : ∃ g1, en.ao = some ⟨g1, 0, none⟩ := by
            obtain ⟨g1, c1, e, -⟩ := (hE.vec 3).form (by omega)
            injection e with e1 e2 e3
            exact ⟨g1, e1⟩
          rw [hg1] at hE
          have hml : (markL k j).length = j := markL_len k j
          have hov := secsC_over (L := markL k j ++ en.l.drop j) (j := j) (by rw [List.length_append, List.length_drop, hml]; omega) ⟨-1 - (k : Int), 0, 0, j, 0⟩
          rw [markL_next (by omega)] at hov
          have Hov := hid hov
          have HE2 := hid hE
          have HM := hid (markS_any k j wr (by omega) (by omega))
          have hdz : ∀ o, wr.frozen? ⟨g1, o, none⟩ = false := fun o => (hE.vec 3).fz (g := g1) rfl o
          have i2 : (0 : Int) ≤ (j : Int) := by omega
          have i3 : (j : Int) < (en.n : Int) := by omega
          clear hE hov hxn hml
          rw [hg1]
          go_wp2_with fail
          refine HM.out.mono ?_; rintro e w3 ⟨rfl, k3⟩
          have HE3 := hid (HE2.out.step k3)
          clear k3 HE2 HM
          go_wp2_with (refine wpList_storeVec 3 TSe _ _ rfl rfl (j := j) (secC ⟨-1 - (k : Int), 0, 0, j, 0⟩) HE3.out rfl (by simp) rfl rfl hjl rfl sizeSe (secC_one _) ?_; intro w9 hS9; simp only [Kw.red] at hS9; rw [Hov.out] at hS9; have HS9 := hid hS9; clear hS9)
          go_roundw
          case rel => exact ⟨j + 1, by omega, by go_num, HS9.out⟩
          case measure => simp [intOf]; omega
        · have b2 : decide ((j : Int) < (en.n : Int)) = false := by simp; omega
          have hjj : j = en.n := by omega
          subst hjj
          have hxs : markL k en.n ++ en.l.drop en.n = markL k en.n := by rw [List.drop_of_length_le (by omega), List.append_nil]
          rw [hxs] at hE
          have hU := hE.unelem 2 3 k (ds := (entsS (mkS k es)).set k .emp) (by decide) set_emp_getD
          simp only [List.set_cons_zero, List.set_cons_succ, List.getD_cons_zero, List.getD_cons_succ] at hU
          rw [mkS_next Hx.out] at hU
          have hU := hid (hU.sub [0, 1, 2])
          clear hE hxs hxn
          go_wp2_with fail
          go_roundw
          case rel => exact ⟨k + 1, by omega, by go_num, hU.out⟩
          case measure => simp [intOf]; omega
    · have b1 : decide ((k : Int) < (es.length : Int)) = false := by simp; omega
      obtain rfl : k = es.length := by omega
      obtain ⟨a, c, e, _⟩ := (hS.own 1).shape
      subst e
      clear hS
      go_wp2_with fail
      clear c0 c1 c2 c3 fz
      go_loopw [8] (fun i wr => ∃ k : Nat, k ≤ es.length ∧ i = .int .i64 k ∧ St F w [.pt kb TBs [.slice a es.length c, wsv, .int .i64 (heldS es), .bool false], .row TSes 1 (.slice a es.length c) es.length (es.map fun e => .slice e.ao e.n e.n), .stars (entsS (mkS es.length es))] wr) (fun i _ => es.length - (intOf i).toNat)
      case atStart => exact ⟨0, Nat.zero_le _, rfl, HS.out⟩
      case round =>
        clear HS
        obtain ⟨k, hk, rfl, hS⟩ := hrel
        have HS := hid hS
        obtain ⟨c0, c1, c2, c3, fz⟩ := cells4 (hS.blk 0)
        by_cases hlt : k < es.length
        · have hL := hS.own 1
          obtain ⟨g, gc, e1, _⟩ := hL.form (by omega)
          simp only [Value.slice.injEq, true_and] at e1
          obtain ⟨rfl, rfl⟩ := e1
          have hx := List.getElem?_eq_getElem hlt
          generalize es[k] = en at *
          have d1 := hL.cells' (g := g) rfl (j := k) (u := .slice en.ao en.n en.n) (by simp [hx])
          obtain ⟨F1, f1⟩ := hS.elemAt 2 k (ds := entsS (mkS es.length es)) (entsS_at (by rw [mkS_at, hx]; simp [hlt]; rfl))
          have hn := (Hcl.out en (List.mem_of_getElem? hx)).2
          have hf : Vec wr TSe 5 (.slice en.ao en.n en.n) en.n (secsC (markL k en.n)) := f1.1
          have Hf := hid hf
          have i0 : (0 : Int) ≤ (k : Int) := by omega
          have i1 : (k : Int) < (es.length : Int) := by omega
          have b1 : decide ((k : Int) < (es.length : Int)) = true := by simp; omega
          have j0 : (0 : Int) ≤ (en.n : Int) := by omega
          have j1 : (en.n : Int) ≤ (en.n : Int) := by omega
          clear hL hS hx f1 hf
          go_wp2_with fail
          go_quiet (fail)
          go_wp2_with fail
          have HS1 := hid (HS.out.drewN nq)
          have Hf1 := hid (Hf.out.drewN nq)
          clear c0 c1 c2 c3 fz d1 Hf HS
          generalize wr.drewN nq = wr1 at *
          go_loopw [10] (fun i wr => ∃ (j : Nat), j ≤ en.n ∧ i = .int .i64 j ∧ Hid (Keeps (fun _ => False) wr1 wr)) (fun i _ => en.n - (intOf i).toNat)
          case atStart => exact ⟨0, Nat.zero_le _, rfl, hid (Keeps.refl _ _)⟩
          case round =>
            obtain ⟨j, hj, rfl, HK⟩ := hrel
            by_cases hjl : j < en.n
            · have b2 : decide ((j : Int) < (en.n : Int)) = true := by simp; omega
              have hv := Hf1.out.keeps HK.out (fun _ _ => id)
              obtain ⟨g1, hg1⟩ : ∃ g1, en.ao = some ⟨g1, 0, none⟩ := by
                obtain ⟨g1, c1, e, -⟩ := hv.form (by omega)
                injection e with e1 e2 e3
                exact ⟨g1, e1⟩
              rw [hg1] at hv
              obtain ⟨e0, e1, e2, e3, e4⟩ := secsC_at (markL_at (i := k) hjl)
              have s0 := hv.cells' (g := g1) rfl e0
              have s1 := hv.cells' (g := g1) rfl e1
              have s2 := hv.cells' (g := g1) rfl e2
              have s3 := hv.cells' (g := g1) rfl e3
              have s4 := hv.cells' (g := g1) rfl e4
              have HM := hid (fun w9 => markS_any k j w9 (by omega) (by omega))
              have heq := fun w => eqSe w ⟨-1 - (k : Int), 0, 0, j, 0⟩ ⟨-1 - (k : Int), 0, 0, j, 0⟩
              rw [decide_eq_true rfl] at heq
              simp only [Int.natCast_zero] at heq s4
              have i2 : (0 : Int) ≤ (j : Int) := by omega
              have i3 : (j : Int) < (en.n : Int) := by omega
              clear hv e0 e1 e2 e3 e4
              rw [hg1]
              go_wp2_with fail
              refine wp_region_keep (by kernel_rfl) (by kernel_rfl) ?_
              repeat (first | go_big_quiet_skip | ((first | refine wpKeep_load rfl ?_ | refine wpKeep_other rfl ?_); (first | go_big_quiet_step (fail) | quiet_step (fail)); refine wpQuiet_nil ?_; refine Shut.mk ?_) | (refine wpQuiet_step (fun K hK => ?_); go_simp; first | (refine hK _ ?_; clear hK K) | (apply Exists.intro; refine ⟨fun w9 k9 => ?_, hK _ ?_⟩; (exact (HM.out w9).mono fun e w' h => ⟨h.1, k9.trans h.2⟩); clear hK K)))
              refine wpQuiet_nil ?_
              intro w9 k9
              go_wp2_with fail
              go_roundw
              case rel => exact ⟨j + 1, by omega, by go_num, hid (HK.out.trans k9)⟩
              case measure => simp [intOf]; omega
            · have b2 : decide ((j : Int) < (en.n : Int)) = false := by simp; omega
              go_wp2_with fail
              go_roundw
              case rel => exact ⟨k + 1, by omega, by go_num, HS1.out.step HK.out⟩
              case measure => simp [intOf]; omega
        · have b1 : decide ((k : Int) < (es.length : Int)) = false := by simp; omega
          have hS1 := ((HS.out.set 0 0 (.slice none 0 0)).set 0 1 (.slice none 0 0)).set 0 2 (.int .i64 0)
          have HF := hid (hS1.sub [])
          clear hS hS1
          go_wp2_with fail
          go_ret
          exact ⟨rfl, HF.out⟩
end
end Go.Proofs.YtnkjjhenfhnajaaGreatDoor
