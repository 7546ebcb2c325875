/-
  admit.Sections, walked.
-/
import Derived.Test.YtdjgijndcjbpiaaGreatDoorBb
namespace Go.Proofs.YtdjgijndcjbpiaaGreatDoor
open Go.RowKit Go.Kw Go.Kreg Go.Tm Go.Ad
set_option linter.unusedSimpArgs false
set_option linter.unusedVariables false

abbrev zOwn : List Value := [.int .i64 0, .int .i64 0, .int .i64 0, .int .i64 0, .int .i64 0, .int .i64 0, .int .i64 0, .int .i64 0, .int .i64 0, .int .i64 0, .int .i64 0, .int .i64 0, .int .i64 0, .int .i64 0, .int .i64 0, .int .i64 0, .slice none 0 0, .slice none 0 0]
abbrev TSes : Nat := 93
theorem own_zero {w w0 : World} {F0 : Nat → Prop} {sg g : Nat} {l : List Value} (hS : St F0 w0 [.pt sg TOp l, .pt g TOw zOwn] w) : St F0 w0 [.pt sg TOp l, ownC g zeroO] w := by
  have hS3 := hS.add (Keeps.refl (fun _ => False) _) (G := fun _ => False) (c := .row TI' 1 (.slice none 0 0) 0 (intsC (opnI []))) ⟨⟨rfl, .inl ⟨rfl, rfl⟩⟩, fun b => by simp [Value.ownBlock]⟩ (fun _ h => h.elim)
  have hS4 := hS3.add (Keeps.refl (fun _ => False) _) (G := fun _ => False) (c := .row TSe 5 (.slice none 0 0) 0 (secsC [])) ⟨⟨rfl, .inl ⟨rfl, rfl⟩⟩, fun b => by simp [Value.ownBlock]⟩ (fun _ h => h.elim)
  exact (hS4.fold [1, 2, 3] (ownC g zeroO) (fun F h => ⟨(.slice none 0 0, .slice none 0 0), h⟩)).sub [0, 1]
theorem own_fold {w w0 : World} {F0 : Nat → Prop} {sg g : Nat} {l : List Value} {o : OW} {ov sv : Value} (hS : St F0 w0 [.pt sg TOp l, .pt g TOw (ownL o.held ov sv), .row TI' 1 ov o.opn.length (intsC (opnI o.opn)), .row TSe 5 sv o.out.length (secsC o.out)] w) : St F0 w0 [.pt sg TOp l, ownC g o] w :=
  (hS.fold [1, 2, 3] (ownC g o) (fun F h => ⟨(ov, sv), h⟩)).sub [0, 1]
theorem own_open {w w0 : World} {F0 : Nat → Prop} {sg g : Nat} {l : List Value} {o : OW} (hS : St F0 w0 [.pt sg TOp l, ownC g o] w) : ∃ ov sv, St F0 w0 [.pt sg TOp l, .pt g TOw (ownL o.held ov sv), .row TI' 1 ov o.opn.length (intsC (opnI o.opn)), .row TSe 5 sv o.out.length (secsC o.out)] w := by
  obtain ⟨⟨ov, sv⟩, hS⟩ := hS.opens 1 (fun v : Value × Value => ownCs g o v.1 v.2) (fun F h => h)
  exact ⟨ov, sv, hS.sub [0, 2, 3, 4]⟩
theorem own_open3 {w w0 : World} {F0 : Nat → Prop} {sg g : Nat} {l : List Value} {o : OW} {c : Ch} (hS : St F0 w0 [.pt sg TOp l, ownC g o, c] w) : ∃ ov sv, St F0 w0 [.pt sg TOp l, .pt g TOw (ownL o.held ov sv), .row TI' 1 ov o.opn.length (intsC (opnI o.opn)), .row TSe 5 sv o.out.length (secsC o.out), c] w := by
  obtain ⟨⟨ov, sv⟩, hS⟩ := hS.opens 1 (fun v : Value × Value => ownCs g o v.1 v.2) (fun F h => h)
  exact ⟨ov, sv, hS.sub [0, 3, 4, 5, 2]⟩
theorem end_st {w w0 : World} {F0 : Nat → Prop} {sg g : Nat} {lv : List Value} {o : OW} {nd : Int → Int} {l : List Cm.Op} {t b : Nat} (hi : Inv nd l t b o) (hn : ∀ r, nd r ≤ 255) (ht : t ≤ 5000) (hS : St F0 w0 [.pt sg TOp lv, ownC g o] w) (he : o.opn ≠ []) (at_ : Nat) :
    Calls Tryz.prog 132 #[.pointer (some ⟨g, 0, none⟩), .int .i64 at_] w fun e w' => e = .returned (.tuple #[]) ∧ St F0 w0 [.pt sg TOp lv, ownC g (o.endOne at_)] w' := by
  obtain ⟨ov, sv, hS⟩ := own_open hS
  obtain ⟨F1, h1, _, _, back⟩ := hS.sel [1, 2, 3]
  have h1' : Sts (ownCs g o ov sv) F1 w := h1
  cases hq : o.opn with
  | nil => exact absurd hq he
  | cons k r =>
    refine (end_any hi hn ht h1' hq at_).mono ?_
    rintro e w' ⟨rfl, ov', hS'⟩
    exact ⟨rfl, own_fold (back hS')⟩
/-- How long the list of open sections is, as memory tells. -/
def opnLen (w : World) (g : Nat) : Nat := match w.cell? ⟨g, 16, none⟩ with | some (.slice _ n _) => n | _ => 0
theorem opn_len {w w0 : World} {F0 : Nat → Prop} {sg g : Nat} {lv : List Value} {o : OW} (hl : o.held.length = 16) (hS : St F0 w0 [.pt sg TOp lv, ownC g o] w) : opnLen w g = o.opn.length ∧ ∃ a c, w.cell? ⟨g, 16, none⟩ = some (.slice a o.opn.length c) := by
  obtain ⟨ov, sv, hS⟩ := own_open hS
  have c16 := (hS.blk 1).at (ownL_ov hl)
  obtain ⟨a, c, rfl, -⟩ := (hS.own 2).shape
  unfold opnLen
  rw [c16]
  exact ⟨rfl, a, c, rfl⟩
theorem Vec.clip {w : World} {T : TypeId} {sz n c : Nat} {a : Option Addr} {xs : List Value} (h : Own w T sz (.slice a n c) n xs) : Vec w T sz (.slice a n n) n xs := by
  obtain ⟨h1, h2⟩ := h
  refine ⟨h1, ?_⟩
  rcases h2 with ⟨e, rfl⟩ | ⟨g, cap, cur, e, _, hh, hn, hm, hs, ht⟩
  · cases e; exact .inl ⟨rfl, rfl⟩
  · cases e
    exact .inr ⟨g, n, cur, rfl, hh, Nat.le_refl _, by omega, .inr ⟨rfl, by rw [hs]; exact Nat.mul_le_mul_right _ hn⟩, ht⟩
section
variable {w : World} {p : Nat} {m : TM} {x : TabX}
theorem secs_eq {ts : List Task} {i : Nat} {t : Task} (ht : ts[i]? = some t) : secsI ts i = sections (needOf t.needs) (prog t).1 := by
  unfold secsI secsAt
  rw [if_neg (by omega), Int.toNat_natCast, ht]; rfl
theorem secs_no {ts : List Task} {id : Int} (h : id < 0 ∨ (ts.length : Int) ≤ id) : secsI ts id = [] := by
  unfold secsI secsAt
  by_cases h0 : id < 0
  · rw [if_pos h0]
  · rw [if_neg h0, List.getElem?_eq_none (by omega)]
set_option maxRecDepth 100000 in
theorem sections_nil (w : World) (id : Int) : Calls Tryz.prog 56 #[.pointer none, .int .i64 id] w fun e w' => e = .returned (.slice none 0 0) ∧ Keeps (fun _ => False) w w' := by
  go_enter Tryz.func56, Tryz.ntmps56
  go_wp2_with fail
  go_ret
  exact ⟨rfl, Keeps.refl _ _⟩
set_option maxRecDepth 100000 in
set_option maxHeartbeats 2000000 in
theorem sections_out (h : TabAt w p m x) (id : Int) (ho : id < 0 ∨ (m.ts.length : Int) ≤ id) : Calls Tryz.prog 56 #[.pointer (some ⟨p, 0, none⟩), .int .i64 id] w fun e w' => e = .returned (.slice none 0 0) ∧ Keeps (fun _ => False) w w' := by
  have HT := hid (tsteps_out h id ho)
  clear h ho
  go_enter Tryz.func56, Tryz.ntmps56
  go_wp2_with fail
  refine HT.out.mono ?_; rintro e w1 ⟨rfl, k1⟩
  have HS := hid ((St.start w).step k1)
  have HS1 := hid (HS.out.new TOw zOwn)
  clear HS k1 HT
  go_wp2_with fail
  go_loopw [23] (fun y wr => y = .int .i64 0 ∧ St (fun _ => False) w [.pt w1.heap.size TOw zOwn] wr) (fun y _ => 0)
  case atStart => exact ⟨rfl, HS1.out⟩
  case round =>
    obtain ⟨rfl, hS⟩ := hrel
    have c17 := (hS.blk 0).cell 17
    simp only [List.getElem?_cons_succ, List.getElem?_cons_zero] at c17
    have HS2 := hid hS
    clear hS HS1
    go_wp2_with fail
    refine wp_region_mix [true, true, true, true, true, true, true, true, true, true, true, true, true, true, true, false] 0 (fun _ => False) (by kernel_rfl) (by decide +kernel) ?_
    simp only [front, back, List.take_zero, List.drop_zero]
    repeat ((first | refine wpFront_load rfl ?_ | refine wpFront_other rfl ?_); (first | go_big_quiet_step (fail) | quiet_step (fail)); refine wpQuiet_nil ?_)
    refine wpFront_nil ?_
    simp only [wpSegs]
    go_wp2_with fail
    refine NoPanic.normal ?_
    go_wp2_with fail
    go_ret
    exact ⟨rfl, HS2.out.keeps.drew⟩
set_option maxRecDepth 100000 in
set_option maxHeartbeats 8000000 in
theorem sections_in (h : TabAt w p m x) {i : Nat} {t : Task} (ht : m.ts[i]? = some t) : Calls Tryz.prog 56 #[.pointer (some ⟨p, 0, none⟩), .int .i64 i] w fun e w' => ∃ v, e = .returned v ∧ St (fun _ => False) w [.vec TSe 5 v (secsOf t).length (secsC (secsOf t))] w' := by
  have hmem := List.mem_of_getElem? ht
  have hfit := h.tok.ok.fit t hmem
  have hnd : ∀ r, needOf t.needs r ≤ 255 := fun r => (need_255 h.tok.ok hmem r).2
  obtain ⟨Q, lo, hPe, -, -, hst⟩ := Cm.program_sound hfit.code
  have hle : (prog t).1.length ≤ 4096 := Cm.prog_le _
  have hPs : ∀ y ∈ (prog t).1, Cm.StepOk y := by
    have e : (prog t).1 = Q ++ [lo] := hPe
    rw [e]; exact hst
  have HT := hid (tsteps_in h ht hle)
  have hneed : ∀ (w9 : World) (r : Int), Keeps (fun _ => False) w w9 → Calls Tryz.prog 51 #[.pointer (some ⟨p, 0, none⟩), .int .i64 i, .int .i64 r] w9 fun e w' => e = .returned (.int .i64 (needOf t.needs r)) ∧ Keeps (fun _ => False) w9 w' := fun w9 r k => by
    have := need_any (h.keeps k) i r
    rw [show Tm.need m.ts i r = needOf t.needs r by unfold Tm.need; rw [if_neg (by omega), Int.toNat_natCast, ht]] at this
    exact this
  unfold secsOf sections
  generalize (prog t).1 = P at *
  generalize needOf t.needs = nd at *
  obtain ⟨oE, hoE⟩ : ∃ o, runS nd P 0 zeroO = o := ⟨_, rfl⟩
  rw [hoE]
  have HoE := hid hoE
  have HN := hid hneed
  have HPs := hid hPs
  have Hnd := hid hnd
  clear h ht hmem hfit hPe hst hneed hPs hnd hoE
  go_enter Tryz.func56, Tryz.ntmps56
  go_wp2_with fail
  refine HT.out.mono ?_; rintro e w1 ⟨sg, rfl, hS⟩
  have hS1 := hS.new TOw zOwn
  have HS1 := hid (own_zero hS1)
  clear hS hS1 HT
  go_wp2_with fail
  generalize w1.heap.size = g at *
  go_loopw [23] (fun y wr => ∃ k : Nat, k ≤ P.length ∧ y = .int .i64 k ∧ St (fun _ => False) w [.pt sg TOp (opsC P), ownC g (runS nd (P.take k) 0 zeroO)] wr) (fun y _ => P.length - (intOf y).toNat)
  case atStart => exact ⟨0, Nat.zero_le _, rfl, HS1.out⟩
  case round =>
    clear HS1
    obtain ⟨k, hk, rfl, hS⟩ := hrel
    have hI := inv_take (nd := nd) HPs.out k hk
    by_cases hlt : k < P.length
    · have a1 : decide (k < P.length) = true := by simpa using hlt
      have hx := List.getElem?_eq_getElem hlt
      have hso := HPs.out _ (List.getElem_mem hlt)
      have hstep := runS_take (nd := nd) hx zeroO
      generalize runS nd (P.take k) 0 zeroO = o at *
      obtain ⟨e0, e1, e2, e3⟩ := opsC_at hx
      generalize P[k] = x at *
      have d0 := (hS.blk 0).at e0
      have d1 := (hS.blk 0).at e1
      have d2 := (hS.blk 0).at e2
      have d3 := (hS.blk 0).at e3
      have i0 : (0 : Int) ≤ (k : Int) := by omega
      have i1 : (k : Int) < (P.length : Int) := by omega
      have hl := hI.hl
      have HI := hid hI
      have Hx := hid hx
      have Hso := hid hso
      have Hstep := hid hstep
      have HSr := hid hS
      clear e0 e1 e2 e3 hS hI hx hso hstep
      have hSx := HSr.out.new TOp [.int .i64 x.kind, .int .i64 x.res, .int .i64 x.n, .int .i64 x.v]
      simp only [Kw.red] at hSx
      have HSx := hid hSx
      clear hSx
      by_cases hk1 : x.kind = 1
      · have b1 : (x.kind == 1) = true := by simpa using hk1
        obtain ⟨q, hq⟩ := Int.eq_ofNat_of_zero_le Hso.out.res.1
        have q16 : q < 16 := by have := Hso.out.res.2; omega
        obtain ⟨hb0, hb1⟩ := heldOf_bd HI.out Hnd.out (by omega) Hso.out.res.1 Hso.out.res.2
        have hn1 := Hso.out.lock hk1
        have hn2 := Hso.out.n
        have hst : stepS nd k x o = if o.heldOf x.res + x.n ≤ nd x.res then o.lock k x else o := by unfold stepS; rw [if_pos hk1]
        have hlk : o.lock k x = ⟨o.held.set q (o.held.getD q 0 + x.n), o.out.length :: o.opn, o.out ++ [⟨(q : Int), x.n, o.held.getD q 0 + x.n, k, 0⟩]⟩ := by
          unfold OW.lock OW.heldOf; rw [hq, Int.toNat_natCast]
        rw [hst, hlk] at Hstep
        unfold OW.heldOf at Hstep hb0 hb1
        rw [hq, Int.toNat_natCast] at Hstep hb0 hb1
        rw [hq] at d1 HSx
        obtain ⟨ov, sv, hSo⟩ := own_open3 HSx.out
        obtain ⟨va, vc, rfl, -⟩ := (hSo.own 2).shape
        obtain ⟨sa, sc, rfl, -⟩ := (hSo.own 3).shape
        have cq := (hSo.blk 1).at (ownL_held (ov := .slice va o.opn.length vc) (sv := .slice sa o.out.length sc) hl q16)
        have x1 := (hSo.blk 4).cell 1
        have x2 := (hSo.blk 4).cell 2
        simp only [List.getElem?_cons_zero, List.getElem?_cons_succ] at x1 x2
        have HNq := hid (fun w9 (k9 : Keeps (fun _ => False) (wr.alloc (.cells #[.int .i64 x.kind, .int .i64 (q : Int), .int .i64 x.n, .int .i64 x.v] TOp)) w9) => HN.out w9 q (HSx.out.keeps.trans k9))
        have HSo := hid hSo
        obtain ⟨ND, hND⟩ : ∃ ND, nd q = ND := ⟨_, rfl⟩
        rw [hND] at HNq Hstep
        generalize hHQ : o.held.getD q 0 = HQ at *
        have hop := HI.out.opn_le
        have hfew := HI.out.few
        have hl1 : (o.held.set q (HQ + x.n)).length = 16 := by rw [List.length_set]; exact hl
        have Hl1 := hid hl1
        clear hst hlk hSo hk1 hND HSx hl1
        go_wp2_with fail
        generalize wr.alloc (.cells #[.int .i64 x.kind, .int .i64 (q : Int), .int .i64 x.n, .int .i64 x.v] TOp) = wx at *
        generalize wr.heap.size = xb at *
        by_cases hf : HQ + x.n ≤ ND
        · have bf : decide (HQ + x.n ≤ ND) = true := by simpa using hf
          rw [if_pos hf] at Hstep
          clear hf
          refine wp_region_keep (by kernel_rfl) (by kernel_rfl) ?_
          repeat (first | go_big_quiet_skip | (refine wpKeep_idxA (g := g) (f := 0) (j := q) rfl rfl rfl rfl q16 ?_) | ((first | refine wpKeep_load rfl ?_ | refine wpKeep_other rfl ?_); (first | go_big_quiet_step (fail) | quiet_step (fail)); refine wpQuiet_nil ?_; refine Shut.mk ?_) | (refine wpQuiet_step (fun K hK => ?_); go_simp; first | (refine hK _ ?_; clear hK K) | (apply Exists.intro; refine ⟨fun w9 k9 => ?_, hK _ ?_⟩; (exact (HNq.out w9 k9).mono fun e w' h => ⟨h.1, k9.trans h.2⟩); clear hK K)))
          refine wpQuiet_nil ?_
          intro w9 k9
          have HS1 := hid (HSo.out.step k9)
          have cq := cellIn k9 cq
          have x1 := cellIn k9 x1
          have x2 := cellIn k9 x2
          have cz := (HS1.out.blk 1).fz q
          clear HNq HSo k9
          go_wp2_with fail
          refine wp_region_mix [true, true, true, true, true, true, true, true, true, true, true, true, false, false] 0 (fun _ => False) (by kernel_rfl) (by decide +kernel) ?_
          simp only [front, back, List.take_zero, List.drop_zero]
          repeat (first | (refine wpFront_idxA (g := g) (f := 0) (j := q) rfl rfl rfl rfl q16 ?_) | ((first | refine wpFront_load rfl ?_ | refine wpFront_other rfl ?_); (first | go_big_quiet_step (fail) | quiet_step (fail)); refine wpQuiet_nil ?_))
          refine wpFront_nil ?_
          simp only [wpSegs]
          go_wp2_with (refine wpList_idxA (g := g) (f := 0) (j := q) rfl rfl rfl rfl q16 ?_)
          refine NoPanic.normal ?_
          have hS2 := (HS1.out.set 1 q (.int .i64 (HQ + x.n))).drew
          simp only [Kw.red] at hS2
          rw [ownL_setH hl q16] at hS2
          go_wp2_with fail
          generalize (w9.setCell ⟨g, q, none⟩ (.int .i64 (HQ + x.n))).drew = w2 at *
          have c16 := (hS2.blk 1).at (ownL_ov Hl1.out)
          have c17 := (hS2.blk 1).at (ownL_sv Hl1.out)
          have HS2 := hid hS2
          clear hS2 HS1 cq x1 x2 cz
          refine wp_region_mix [true, true, true, true, true, true, true, true, true, true, false, false, false, false, false] 1 (fun _ => False) (by kernel_rfl) (by decide +kernel) ?_
          simp only [front, back, List.take_succ_cons, List.take_zero, List.drop_succ_cons, List.drop_zero]
          repeat ((first | refine wpFront_load rfl ?_ | refine wpFront_other rfl ?_); (first | go_big_quiet_step (fail) | quiet_step (fail)); refine wpQuiet_nil ?_)
          refine wpFront_nil ?_
          simp only [wpSegs]
          go_wp2_with fail
          refine segQ_normal (((Keeps.refl _ _).alloc _).drew) ?_
          have hSb := (HS2.out.new TI' [.int .i64 o.out.length]).drew
          simp only [Kw.red] at hSb
          refine wpList_appS 2 5 _ _ 22 TI' (.int .i64 0) 1 8 infoI Tryz.underlying22 rfl (by decide) rfl rfl hSb rfl rfl rfl rfl rfl (intsC_one [(o.out.length : Int)]) (by omega) (by unfold maxLen; omega) (by omega) ?_
          intro gb gc w7 hSc hat
          have c16 := (hSc.blk 1).at (ownL_ov Hl1.out)
          have cz := (hSc.blk 1).fz 16
          have HSc := hid (hSc.sub [0, 1, 2, 3, 4])
          clear hSc hSb HS2 c17
          go_wp2_with fail
          refine NoPanic.normal ?_
          go_wp2_with fail
          have hS3 := HSc.out.set 1 16 (.slice (some ⟨gb, 0, none⟩) (o.opn.length + 1) gc)
          simp only [Kw.red] at hS3
          rw [ownL_setO Hl1.out] at hS3
          generalize w7.setCell ⟨g, 16, none⟩ (.slice (some ⟨gb, 0, none⟩) (o.opn.length + 1) gc) = w8 at *
          have c17 := (hS3.blk 1).at (ownL_sv Hl1.out)
          have cq := (hS3.blk 1).at (ownL_held (ov := .slice (some ⟨gb, 0, none⟩) (o.opn.length + 1) gc) (sv := .slice sa o.out.length sc) Hl1.out q16)
          rw [show (o.held.set q (HQ + x.n)).getD q 0 = HQ + x.n by rw [List.getD_eq_getElem?_getD, List.getElem?_set, if_pos rfl, if_pos (by omega)]; rfl] at cq
          have x1 := (hS3.blk 4).cell 1
          have x2 := (hS3.blk 4).cell 2
          simp only [List.getElem?_cons_zero, List.getElem?_cons_succ] at x1 x2
          have HS3 := hid hS3
          clear hS3 HSc c16 cz
          refine wp_region_mix [true, true, true, true, true, true, true, true, true, true, true, true, true, true, true, true, true, true, false, false, false, false, false] 1 (fun _ => False) (by kernel_rfl) (by decide +kernel) ?_
          simp only [front, back, List.take_succ_cons, List.take_zero, List.drop_succ_cons, List.drop_zero]
          repeat (first | (refine wpFront_idxA (g := g) (f := 0) (j := q) rfl rfl rfl rfl q16 ?_) | ((first | refine wpFront_load rfl ?_ | refine wpFront_other rfl ?_); (first | go_big_quiet_step (fail) | quiet_step (fail)); refine wpQuiet_nil ?_))
          refine wpFront_nil ?_
          simp only [wpSegs]
          go_wp2_with fail
          refine segQ_normal (((Keeps.refl _ _).alloc _).drew) ?_
          have hSb := (HS3.out.new TSe [.int .i64 (q : Int), .int .i64 x.n, .int .i64 (HQ + x.n), .int .i64 k, .int .i64 0]).drew
          simp only [Kw.red] at hSb
          refine wpList_appS 3 5 _ _ TSes TSe (.agg #[.int .i64 0, .int .i64 0, .int .i64 0, .int .i64 0, .int .i64 0]) 5 40 infoSe Tryz.underlying93 rfl (by decide) rfl rfl hSb rfl rfl rfl rfl rfl (secC_one ⟨(q : Int), x.n, HQ + x.n, k, 0⟩) (by omega) (by unfold maxLen; omega) (by omega) ?_
          intro gd gf w10 hSd hat2
          have c17 := (hSd.blk 1).at (ownL_sv Hl1.out)
          have cz := (hSd.blk 1).fz 17
          have HSd := hid (hSd.sub [0, 1, 2, 3, 4])
          clear hSd hSb HS3 cq x1 x2
          go_wp2_with fail
          refine NoPanic.normal ?_
          go_wp2_with fail
          go_roundw
          case rel =>
            refine ⟨k + 1, by omega, by go_num, ?_⟩
            rw [Hstep.out]
            have h4 := HSd.out.set 1 17 (.slice (some ⟨gd, 0, none⟩) (o.out.length + 1) gf)
            simp only [Kw.red] at h4
            rw [ownL_setS Hl1.out] at h4
            have h5 := h4.sub [0, 1, 2, 3]
            simp only [Kw.red] at h5
            refine own_fold (ov := .slice (some ⟨gb, 0, none⟩) (o.opn.length + 1) gc) (sv := .slice (some ⟨gd, 0, none⟩) (o.out.length + 1) gf) ?_
            simp only [List.length_cons, List.length_append, List.length_nil, opnI_cons, secsC_app]
            rw [show intsC (opnI o.opn ++ [(o.out.length : Int)]) = intsC (opnI o.opn) ++ [.int .i64 o.out.length] by simp [intsC], show secsC [⟨(q : Int), x.n, HQ + x.n, k, 0⟩] = [.int .i64 (q : Int), .int .i64 x.n, .int .i64 (HQ + x.n), .int .i64 k, .int .i64 0] by simp [secsC, secC]]
            exact h5
          case measure => simp [intOf]; omega
        · have bf : decide (HQ + x.n ≤ ND) = false := by simpa using hf
          rw [if_neg hf] at Hstep
          clear hf
          refine wp_region_keep (by kernel_rfl) (by kernel_rfl) ?_
          repeat (first | go_big_quiet_skip | (refine wpKeep_idxA (g := g) (f := 0) (j := q) rfl rfl rfl rfl q16 ?_) | ((first | refine wpKeep_load rfl ?_ | refine wpKeep_other rfl ?_); (first | go_big_quiet_step (fail) | quiet_step (fail)); refine wpQuiet_nil ?_; refine Shut.mk ?_) | (refine wpQuiet_step (fun K hK => ?_); go_simp; first | (refine hK _ ?_; clear hK K) | (apply Exists.intro; refine ⟨fun w9 k9 => ?_, hK _ ?_⟩; (exact (HNq.out w9 k9).mono fun e w' h => ⟨h.1, k9.trans h.2⟩); clear hK K)))
          refine wpQuiet_nil ?_
          intro w9 k9
          have HS1 := hid (HSo.out.step k9)
          clear HNq HSo k9
          go_wp2_with fail
          go_roundw
          case rel => exact ⟨k + 1, by omega, by go_num, by rw [Hstep.out]; exact own_fold (HS1.out.sub [0, 1, 2, 3])⟩
          case measure => simp [intOf]; omega
      · have b1 : (x.kind == 1) = false := by simpa using hk1
        by_cases hk2 : x.kind = 2
        · have b2 : (x.kind == 2) = true := by simpa using hk2
          have hst : stepS nd k x o = if o.isTop x.res then o.endOne k else o := by unfold stepS; rw [if_neg hk1, if_pos hk2]
          rw [hst] at Hstep
          obtain ⟨ov, sv, hSo⟩ := own_open3 HSx.out
          obtain ⟨va, vc, rfl, -⟩ := (hSo.own 2).shape
          obtain ⟨sa, sc, rfl, -⟩ := (hSo.own 3).shape
          have c16 := (hSo.blk 1).at (ownL_ov hl)
          have c17 := (hSo.blk 1).at (ownL_sv hl)
          have hop := HI.out.opn_le
          have hfew := HI.out.few
          cases hq : o.opn with
          | nil =>
            have hnt : o.isTop x.res = false := by unfold OW.isTop; rw [hq]
            rw [hnt] at Hstep
            simp only [Bool.false_eq_true, if_false] at Hstep
            rw [hq] at c16
            have n0 : decide ((0 : Int) < 0) = false := by decide
            clear hst hSo hk1 hk2 hnt
            go_wp2_with fail
            go_quiet (fail)
            go_wp2_with fail
            go_roundw
            case rel => exact ⟨k + 1, by omega, by go_num, by rw [Hstep.out]; exact (HSx.out.sub [0, 1]).drewN _⟩
            case measure => simp [intOf]; omega
          | cons kk r =>
            have hkl := HI.out.lt kk (by rw [hq]; simp)
            have hks := sec_at hkl
            have htop : o.isTop x.res = decide ((o.sec kk).res = x.res) := by unfold OW.isTop; rw [hq]
            have hne : o.opn ≠ [] := by rw [hq]; simp
            have hrl : r.length + 1 ≤ k := by
              have h1 : o.opn.length = r.length + 1 := by rw [hq]; rfl
              omega
            have ho2 := hSo.own 2
            rw [hq, List.length_cons] at ho2
            obtain ⟨go, co, e1, -⟩ := ho2.form (by omega)
            rw [hq, List.length_cons, e1] at c16
            have ck := ho2.cells' (g := go) (by rw [e1]; rfl) (intsC_at (opnI_top kk r))
            obtain ⟨gs, cs, e2, -⟩ := (hSo.own 3).form (by omega)
            rw [e2] at c17
            have s0 := (hSo.own 3).cells' (g := gs) (by rw [e2]; rfl) (secsC_at hks).1
            rw [htop] at Hstep
            generalize o.sec kk = s at *
            have n0 : decide ((0 : Int) < (r.length : Int) + 1) = true := decide_eq_true (by omega)
            have m0 : (0 : Int) ≤ (r.length : Int) := by omega
            have m1 : (r.length : Int) < (r.length : Int) + 1 := by omega
            have j0 : (0 : Int) ≤ (kk : Int) := by omega
            have j1 : (kk : Int) < (o.out.length : Int) := by omega
            have Hne := hid hne
            clear hst hSo hk1 hk2 htop hks ho2 hq hne e1 e2
            by_cases hr : s.res = x.res
            · have b4 : (s.res == x.res) = true := by simpa using hr
              rw [if_pos (by simpa using hr)] at Hstep
              clear hr
              go_wp2_with fail
              go_quiet (fail)
              go_wp2_with fail
              refine (end_st HI.out Hnd.out (by omega) ((HSx.out.sub [0, 1]).drewN _) Hne.out k).mono ?_
              rintro e w2 ⟨rfl, hS2⟩
              have HS2 := hid hS2
              clear hS2
              go_wp2_with fail
              go_roundw
              case rel => exact ⟨k + 1, by omega, by go_num, by rw [Hstep.out]; exact HS2.out⟩
              case measure => simp [intOf]; omega
            · have b4 : (s.res == x.res) = false := by simpa using hr
              rw [if_neg (by simpa using hr)] at Hstep
              clear hr
              go_wp2_with fail
              go_quiet (fail)
              go_wp2_with fail
              go_roundw
              case rel => exact ⟨k + 1, by omega, by go_num, by rw [Hstep.out]; exact (HSx.out.sub [0, 1]).drewN _⟩
              case measure => simp [intOf]; omega
        · have b2 : (x.kind == 2) = false := by simpa using hk2
          by_cases hk9 : x.kind = 9
          · have b3 : (x.kind == 9) = true := by simpa using hk9
            have hst : stepS nd k x o = ends k o.opn.length o := by unfold stepS; rw [if_neg hk1, if_neg hk2, if_pos hk9]
            rw [hst] at Hstep
            have HE := hid (fun j => ((HI.out.later (Nat.le_succ k) (Nat.le_succ k)).ends (fun i s hs => (HI.out.each i s hs).2) Hx.out hk9 j).1)
            have hop := HI.out.opn_le
            have hfew := HI.out.few
            have HSy := hid (show St (fun _ => False) w [.pt sg TOp (opsC P), ownC g (ends k 0 o)] _ from HSx.out.sub [0, 1])
            clear hst hk1 hk2 hk9 HSx
            go_wp2_with fail
            go_loopw [] (fun wy => ∃ j : Nat, j ≤ o.opn.length ∧ St (fun _ => False) w [.pt sg TOp (opsC P), ownC g (ends k j o)] wy) (fun wy => opnLen wy g)
            case atStart => exact ⟨0, Nat.zero_le _, HSy.out⟩
            case round =>
              clear HSy
              obtain ⟨j, hj, hS⟩ := hrel
              obtain ⟨hm, aa, cc, c16⟩ := opn_len (HE.out j).hl hS
              have hon := ends_opn k j o
              have hlen : (ends k j o).opn.length = o.opn.length - j := by rw [hon, List.length_drop]
              rw [hlen] at c16 hm
              by_cases hjl : j < o.opn.length
              · have n0 : decide (0 < o.opn.length - j) = true := decide_eq_true (by omega)
                have hne : (ends k j o).opn ≠ [] := by intro e; rw [e] at hlen; simp at hlen; omega
                have hee := end_st (HE.out j) Hnd.out (by omega) hS hne k
                have HEE := hid hee
                have Hm := hid hm
                clear hee hS hon hlen hne hm
                go_wp2_with fail
                refine HEE.out.mono ?_
                rintro e w2 ⟨rfl, hS2⟩
                have hm2 := (opn_len (HE.out (j + 1)).hl hS2).1
                have hlen : (ends k (j + 1) o).opn.length = o.opn.length - (j + 1) := by rw [ends_opn, List.length_drop]
                rw [hlen] at hm2
                have HS2 := hid hS2
                have Hm2 := hid hm2
                clear hS2 hm2 hlen HEE
                go_wp2_with fail
                go_roundw
                case rel => exact ⟨j + 1, by omega, HS2.out⟩
                case measure => rw [Hm.out, Hm2.out]; omega
              · have n0 : decide (0 < o.opn.length - j) = false := decide_eq_false (by omega)
                have hjj : j = o.opn.length := by omega
                subst hjj
                have HS2 := hid hS
                clear hS hon hlen hm
                go_wp2_with fail
                go_roundw
                case rel => exact ⟨k + 1, by omega, by go_num, by rw [Hstep.out]; exact HS2.out⟩
                case measure => simp [intOf]; omega
          · have b3 : (x.kind == 9) = false := by simpa using hk9
            have hst : stepS nd k x o = o := by unfold stepS; rw [if_neg hk1, if_neg hk2, if_neg hk9]
            rw [hst] at Hstep
            clear hk1 hk2 hk9 hst
            go_wp2_with fail
            go_roundw
            case rel => exact ⟨k + 1, by omega, by go_num, by rw [Hstep.out]; exact HSx.out.sub [0, 1]⟩
            case measure => simp [intOf]; omega
    · have a1 : decide (k < P.length) = false := by simpa using hlt
      rw [List.take_of_length_le (show P.length ≤ k by omega), HoE.out] at hS hI
      obtain ⟨ov, sv, hS⟩ := own_open hS
      obtain ⟨sa, sc, rfl, hsc⟩ := (hS.own 3).shape
      have hl := hI.hl
      have c17 := (hS.blk 1).at (ownL_sv hl)
      have HS2 := hid hS
      have i0 : (oE.out.length : Int) ≤ (sc : Int) := by omega
      clear hS hI
      go_wp2_with fail
      refine wp_region_mix [true, true, true, true, true, true, true, true, true, true, true, true, true, true, true, false] 0 (fun _ => False) (by kernel_rfl) (by decide +kernel) ?_
      simp only [front, back, List.take_zero, List.drop_zero]
      repeat ((first | refine wpFront_load rfl ?_ | refine wpFront_other rfl ?_); (first | go_big_quiet_step (fail) | quiet_step (fail)); refine wpQuiet_nil ?_)
      refine wpFront_nil ?_
      simp only [wpSegs]
      go_wp2_with fail
      refine NoPanic.normal ?_
      go_wp2_with fail
      go_ret
      refine ⟨_, rfl, ?_⟩
      have h3 := HS2.out.drew.imp 3 (c := .row TSe 5 (.slice sa oE.out.length sc) oE.out.length (secsC oE.out)) (.vec TSe 5 (.slice sa oE.out.length oE.out.length) oE.out.length (secsC oE.out)) (fun F h => ⟨Vec.clip h.1, fun b => (h.2 b).trans (by cases sa <;> exact Iff.rfl)⟩)
      exact h3.sub [3]
end
end Go.Proofs.YtdjgijndcjbpiaaGreatDoor
