/-
  CeilRuns, walked.
-/
import Derived.Test.YtnkjjhenfhnajaaGreatDoorUt
import Derived.Test.YtnkjjhenfhnajaaGreatDoorG33
import Derived.Test.YtnkjjhenfhnajaaGreatDoorG25
import Derived.Test.YtnkjjhenfhnajaaGreatDoorG16
import Derived.Test.YtnkjjhenfhnajaaGreatDoorG20
namespace Go.Proofs.YtnkjjhenfhnajaaGreatDoor
open Go.RowKit Go.Kw Go.Kreg Go.Tm Go.Um
set_option linter.unusedSimpArgs false
set_option linter.unusedVariables false

namespace CR
def u0 : UM := UM.start [3, 1]
def u1 : UM := ⟨[3, 1], [⟨0, 0, 1⟩], [0, 0]⟩
def nds (q : Nat) : List Value := [.slice (some ⟨q + 1, 0, none⟩) 1 1, .slice (some ⟨q + 1 + 1, 0, none⟩) 1 1, .slice (some ⟨q + 1 + 1 + 1, 0, none⟩) 1 1]
set_option maxRecDepth 100000
theorem s0 : sysM Tm.CR.M u0 = 0 := by decide +kernel
theorem s1 : sysM Tm.CR.M u1 = 4 := by decide +kernel
theorem l0 : u0.lockErr 0 ((0 : Nat) : Int) 1 1 = 0 := by decide +kernel
end CR
abbrev TSt : Nat := 203
theorem stk_new {w0 w : World} {F0 : Nat → Prop} {cs : List Ch} (hS : St F0 w0 cs w) : St F0 w0 (cs ++ [stkC w.heap.size TSt []]) (w.alloc (.cells #[.slice none 0 0] TSt)) := by
  refine hS.adds ?_
  have h1 := (St.start w).new TSt [.slice none 0 0]
  have h2 := h1.add (Keeps.refl (fun _ => False) _) (G := fun _ => False) (c := .row TI' 1 (.slice none 0 0) 0 (intsC [])) ⟨⟨rfl, .inl ⟨rfl, rfl⟩⟩, fun b => by simp [Value.ownBlock]⟩ (fun _ h => h.elim)
  exact (h2.fold [0, 1] (stkC w.heap.size TSt []) (fun F h => ⟨.slice none 0 0, h⟩)).sub [0]
section
variable {W w : World} {F : Nat → Prop}
set_option maxRecDepth 100000 in
set_option maxHeartbeats 8000000 in
theorem ceilruns_any (hG : Glob W) (hg : (glC W).holds F w) : Calls Tryz.prog 52 #[] w fun e w' => e = .returned (.bool true) ∧ Keeps (fun _ => False) w w' := by
  have Hg := hid hg
  have hS := ((((St.of (Sts.one hg)).new TI' (intsC [3, 1])).new TNd (needsC Tm.CR.A.needs)).new TNd (needsC Tm.CR.B.needs)).new TNd (needsC Tm.CR.C.needs)
  have hS := hS.new TTk (tasksV Tm.CR.L (CR.nds w.heap.size))
  simp only [World.size_alloc] at hS
  simp only [Kw.red] at hS
  have s1 : SlNd _ (.slice (some ⟨w.heap.size + 1, 0, none⟩) 1 1) [⟨0, 1⟩] := SlNd.blk (l := [⟨0, 1⟩]) (hS.blk 2) (by simp) (by decide)
  have s2 : SlNd _ (.slice (some ⟨w.heap.size + 1 + 1, 0, none⟩) 1 1) [⟨0, 3⟩] := SlNd.blk (l := [⟨0, 3⟩]) (hS.blk 3) (by simp) (by decide)
  have s3 : SlNd _ (.slice (some ⟨w.heap.size + 1 + 1 + 1, 0, none⟩) 1 1) [⟨1, 1⟩] := SlNd.blk (l := [⟨1, 1⟩]) (hS.blk 4) (by simp) (by decide)
  have hsl := SlTk.of_blk (l := Tm.CR.L) (nds := CR.nds w.heap.size) (hS.blk 5) (by decide) (fun k x hx => by
    have hk : k < 3 := (List.getElem?_eq_some_iff.1 hx).1
    obtain rfl | rfl | rfl : k = 0 ∨ k = 1 ∨ k = 2 := by omega
    · cases hx; exact ⟨⟨_, rfl, s1⟩, by decide, by decide, by decide, by decide, by decide⟩
    · cases hx; exact ⟨⟨_, rfl, s2⟩, by decide, by decide, by decide, by decide, by decide⟩
    · cases hx; exact ⟨⟨_, rfl, s3⟩, by decide, by decide, by decide, by decide, by decide⟩)
  have hin := SlIn.blk (l := [3, 1]) (hS.blk 1) (by decide)
  obtain ⟨F1, g1, _, _, bk⟩ := hS.sel [0]
  have g1' : Sts [glC W] F1 _ := g1
  have HT := hid (table_any hG (Sts.of_one g1') hin hsl (by decide))
  clear hg hS s1 s2 s3 hsl hin g1 g1'
  go_enter Tryz.func52, Tryz.ntmps52
  go_wp2_with fail
  refine HT.out.mono ?_; rintro e w1 ⟨p, q, rfl, hS⟩
  have hS := bk hS
  simp only [Kw.red] at hS
  rw [show tableM [3, 1] Tm.CR.L = Tm.CR.M from rfl] at hS
  have HS1 := hid (show St F w [glC W, tabC p Tm.CR.M] w1 from hS.sub [0, 6])
  clear hS bk HT
  have hun := unew_any (SlIn.blk (b := w1.heap.size) (l := [3, 1]) (Blk.new w1 TI' (intsC [3, 1])) (by simp)) (by decide) (fun i n hn => by
    have hk : i < 2 := (List.getElem?_eq_some_iff.1 hn).1
    obtain rfl | rfl : i = 0 ∨ i = 1 := by omega
    · cases hn; decide
    · cases hn; decide)
  have HUN := hid hun
  clear hun
  go_wp2_with fail
  refine HUN.out.mono ?_; rintro e w2 ⟨pu, rfl, hS⟩
  have hS := (HS1.out.step ((Keeps.refl (fun _ => False) w1).alloc (.cells (intsC [3, 1]).toArray TI'))).adds hS
  simp only [Kw.red] at hS
  have HS2 := hid (show St F w [glC W, tabC p Tm.CR.M, unitsC pu CR.u0] w2 from hS)
  clear hS HS1 HUN
  obtain ⟨x, hx⟩ := tab_at 1 HS2.out
  have Hx := hid hx
  have K0 := hid (Keeps.refl (fun _ => False) w2)
  clear hx
  go_wp2_with fail
  refine (crow_any (Hx.out.keeps K0.out) 0).mono ?_; rintro e w3 ⟨lv, rfl, hS⟩
  rw [Tm.CR.r0] at hS
  obtain ⟨ga, gc, rfl, -⟩ := (hS.own 0).shape
  have hr := Rd.own (hS.own 0) (by decide)
  have K3 := hid (K0.out.trans hS.keeps)
  clear hS
  go_wp2_with fail
  have hsm := sameI_any (hr.new ((Keeps.refl (fun _ => False) w3).alloc (.cells (intsC [4, 4, 4, 0]).toArray TI'))) (Rd.blk (n := ([4, 4, 4, 0] : List Int).length) (sz := 1) (Blk.new w3 TI' (intsC [4, 4, 4, 0])) (by decide) (by decide))
  rw [decide_eq_true rfl] at hsm
  refine hsm.mono ?_; rintro e w30 ⟨rfl, nq, rfl⟩
  have K30 := hid (K3.out.trans (((Keeps.refl (fun _ => False) w3).alloc (.cells (intsC [4, 4, 4, 0]).toArray TI')).drewN nq))
  clear hsm hr K3 K0
  generalize (w3.alloc _).drewN nq = w31 at *
  go_wp2_with fail
  refine (crow_any (Hx.out.keeps K30.out) 1).mono ?_; rintro e w4 ⟨lv, rfl, hS⟩
  rw [Tm.CR.r1] at hS
  obtain ⟨ga, gc, rfl, -⟩ := (hS.own 0).shape
  have hr := Rd.own (hS.own 0) (by decide)
  have K4 := hid (K30.out.trans hS.keeps)
  clear hS
  go_wp2_with fail
  have hsm := sameI_any (hr.new ((Keeps.refl (fun _ => False) w4).alloc (.cells (intsC [6, 0]).toArray TI'))) (Rd.blk (n := ([6, 0] : List Int).length) (sz := 1) (Blk.new w4 TI' (intsC [6, 0])) (by decide) (by decide))
  rw [decide_eq_true rfl] at hsm
  refine hsm.mono ?_; rintro e w40 ⟨rfl, nq, rfl⟩
  have K40 := hid (K4.out.trans (((Keeps.refl (fun _ => False) w4).alloc (.cells (intsC [6, 0]).toArray TI')).drewN nq))
  clear hsm hr K4 K30
  generalize (w4.alloc _).drewN nq = w41 at *
  go_wp2_with fail
  refine (crow_any (Hx.out.keeps K40.out) 2).mono ?_; rintro e w5 ⟨lv, rfl, hS⟩
  rw [Tm.CR.r2] at hS
  obtain ⟨ga, gc, rfl, -⟩ := (hS.own 0).shape
  have K5 := hid (K40.out.trans hS.keeps)
  clear hS K40
  go_wp2_with fail
  have hc := at_any (Hx.out.keeps K5.out) 0 (-5)
  rw [show Tm.CR.M.ceilAt 0 (-5) = 4 from Tm.CR.a0] at hc
  refine hc.mono ?_; rintro e w6 ⟨rfl, k⟩
  have K6 := hid (K5.out.trans k)
  clear hc k K5
  go_wp2_with fail
  have hc := at_any (Hx.out.keeps K6.out) 0 2
  rw [show Tm.CR.M.ceilAt 0 2 = 4 from Tm.CR.a1] at hc
  refine hc.mono ?_; rintro e w7 ⟨rfl, k⟩
  have K7 := hid (K6.out.trans k)
  clear hc k K6
  go_wp2_with fail
  have hc := at_any (Hx.out.keeps K7.out) 1 0
  rw [show Tm.CR.M.ceilAt 1 0 = 6 from Tm.CR.a2] at hc
  refine hc.mono ?_; rintro e w8 ⟨rfl, k⟩
  have K8 := hid (K7.out.trans k)
  clear hc k K7
  go_wp2_with fail
  have hc := max_any (Hx.out.keeps K8.out) 0
  rw [show Tm.CR.M.ceilAt 0 0 = 4 from Tm.CR.a3] at hc
  refine hc.mono ?_; rintro e w9 ⟨rfl, k⟩
  have K9 := hid (K8.out.trans k)
  clear hc k K8
  go_wp2_with fail
  obtain ⟨y, hy⟩ := u_at 2 HS2.out
  have Hy := hid hy
  clear hy
  have hc := system_any (Hx.out.keeps K9.out) (Hy.out.keeps K9.out)
  rw [show sysM Tm.CR.M CR.u0 = 0 from CR.s0] at hc
  refine hc.mono ?_; rintro e w10 ⟨rfl, k⟩
  have K10 := hid (K9.out.trans k)
  clear hc k K9
  go_wp2_with fail
  have HS3 := hid (HS2.out.step K10.out)
  obtain ⟨F2, g2, _, _, bk⟩ := HS3.out.sel [2]
  have hl := ulock_new (show Sts [unitsC pu CR.u0] F2 w10 from g2) 0 1 1 0 CR.l0 (by intro x hx; simp [CR.u0, UM.start] at hx) (by decide)
  refine hl.mono ?_; rintro e w11 ⟨rfl, hS⟩
  have hS := bk hS
  simp only [Kw.red] at hS
  have HS4 := hid (show St F w [glC W, tabC p Tm.CR.M, unitsC pu CR.u1] w11 from hS)
  clear hS bk hl g2 HS3 K10 Hx Hy HS2
  obtain ⟨x2, hx⟩ := tab_at 1 HS4.out
  obtain ⟨y2, hy⟩ := u_at 2 HS4.out
  have HX := hid hx
  have HY := hid hy
  clear hx hy
  go_wp2_with fail
  have K11 := hid (Keeps.refl (fun _ => False) w11)
  have hc := system_any (HX.out.keeps K11.out) (HY.out.keeps K11.out)
  rw [show sysM Tm.CR.M CR.u1 = 4 from CR.s1] at hc
  refine hc.mono ?_; rintro e w12 ⟨rfl, k⟩
  have K12 := hid (K11.out.trans k)
  clear hc k K11
  go_wp2_with fail
  refine (at_nil w12 0 0).mono ?_; rintro e w13 ⟨rfl, k⟩
  have K13 := hid (K12.out.trans k)
  clear k
  go_wp2_with fail
  refine (max_nil w13 0).mono ?_; rintro e w14 ⟨rfl, k⟩
  have K14 := hid (K13.out.trans k)
  clear k
  go_wp2_with fail
  refine (crow_nil w14 0).mono ?_; rintro e w15 ⟨lv, rfl, hS⟩
  obtain ⟨ha, hc', rfl, -⟩ := (hS.own 0).shape
  have K15 := hid (K14.out.trans hS.keeps)
  clear hS
  go_wp2_with fail
  refine (system_nil1 w15 _).mono ?_; rintro e w16 ⟨rfl, rfl⟩
  go_wp2_with fail
  refine (system_nil2 w15 _).mono ?_; rintro e w16 ⟨rfl, rfl⟩
  have hS := (HS4.out.step K15.out).sub [0]
  have HS5 := hid (show St F w [glC W, stkC w15.heap.size TSt []] _ from stk_new hS)
  clear hS K15 K14 K13 K12 HX HY HS4
  go_wp2_with fail
  generalize w15.heap.size = s at *
  obtain ⟨F17, g17, _, _, bk⟩ := HS5.out.sel [1]
  have hc := craise_any (show Sts [stkC s TSt []] F17 _ from g17) 4 (by decide)
  rw [show max 4 (topOf []) = (4 : Int) by decide +kernel] at hc
  refine hc.mono ?_; rintro e w17 ⟨rfl, hS⟩
  have hS := bk hS
  simp only [Kw.red] at hS
  have HS17 := hid (show St F w [glC W, stkC s TSt [4]] w17 from hS)
  clear hS bk hc g17 HS5
  go_wp2_with fail
  obtain ⟨F18, g18, _, _, bk⟩ := HS17.out.sel [1]
  have hc := craise_any (show Sts [stkC s TSt [4]] F18 _ from g18) 2 (by decide)
  rw [show max 2 (topOf [4]) = (4 : Int) by decide +kernel] at hc
  refine hc.mono ?_; rintro e w18 ⟨rfl, hS⟩
  have hS := bk hS
  simp only [Kw.red] at hS
  have HS18 := hid (show St F w [glC W, stkC s TSt [4, 4]] w18 from hS)
  clear hS bk hc g18 HS17
  go_wp2_with fail
  obtain ⟨F19, g19, _, _, bk⟩ := HS18.out.sel [1]
  have hc := craise_any (show Sts [stkC s TSt [4, 4]] F19 _ from g19) 6 (by decide)
  rw [show max 6 (topOf [4, 4]) = (6 : Int) by decide +kernel] at hc
  refine hc.mono ?_; rintro e w19 ⟨rfl, hS⟩
  have hS := bk hS
  simp only [Kw.red] at hS
  have HS19 := hid (show St F w [glC W, stkC s TSt [4, 4, 6]] w19 from hS)
  clear hS bk hc g19 HS18
  go_wp2_with fail
  obtain ⟨sv, hc, ho⟩ := stk_at 1 HS19.out
  refine (clist_any hc ho (by decide)).mono ?_; rintro e w20 ⟨lg, rfl, hS⟩
  have hS := HS19.out.adds hS
  simp only [Kw.red] at hS
  have HS20 := hid (show St F w [glC W, stkC s TSt [4, 4, 6], .pt lg TI' (intsC [4, 4, 6])] w20 from hS)
  clear hS hc ho HS19
  go_wp2_with fail
  obtain ⟨F21, g21, _, _, bk⟩ := HS20.out.sel [1]
  refine (clower_any (show Sts [stkC s TSt [4, 4, 6]] F21 _ from g21) (by decide)).mono ?_; rintro e w21 ⟨rfl, hS⟩
  have hS := bk hS
  simp only [Kw.red] at hS
  have HS21 := hid (show St F w [glC W, stkC s TSt [4, 4], .pt lg TI' (intsC [4, 4, 6])] w21 from hS)
  clear hS bk g21 HS20
  have HS22 := hid (show St F w [glC W, stkC s TSt [4, 4], .pt lg TI' (intsC [4, 4, 6]), stkC w21.heap.size TSt []] _ from stk_new HS21.out)
  go_wp2_with fail
  have hS23 := HS22.out.new TI' (intsC [4, 4, 6])
  simp only [World.size_alloc] at hS23
  simp only [Kw.red] at hS23
  generalize w21.heap.size = s2 at *
  have hsm := sameI_any (xs := [4, 4, 6]) (ys := [4, 4, 6]) (Rd.blk (n := 3) (sz := 1) (hS23.blk 2) (by decide) (by decide)) (Rd.blk (n := 3) (sz := 1) (hS23.blk 4) (by decide) (by decide))
  rw [decide_eq_true rfl] at hsm
  have Hsm := hid hsm
  have HS23 := hid hS23
  clear hsm hS23 HS22 HS21
  refine Hsm.out.mono ?_; rintro e w24 ⟨rfl, nq, rfl⟩
  have HS24 := hid (show St F w [glC W, stkC s TSt [4, 4], stkC s2 TSt []] _ from (HS23.out.drewN nq).sub [0, 1, 3])
  generalize (World.alloc _ _).drewN nq = w25 at *
  clear Hsm HS23
  go_wp2_with fail
  obtain ⟨sv, hc, ho⟩ := stk_at 1 HS24.out
  have h1 := ctop_any hc ho (by decide)
  rw [show topOf [4, 4] = 4 by decide +kernel] at h1
  have H1 := hid h1
  have H2 := hid (clen_any hc ho)
  clear h1 hc ho
  refine H1.out.mono ?_; rintro e w26 ⟨rfl, rfl⟩
  go_wp2_with fail
  refine H2.out.mono ?_; rintro e w26 ⟨rfl, rfl⟩
  go_wp2_with fail
  obtain ⟨F27, g27, _, _, bk⟩ := HS24.out.sel [2]
  refine (clower_any (show Sts [stkC s2 TSt []] F27 _ from g27) (by decide)).mono ?_; rintro e w27 ⟨rfl, hS⟩
  have hS := bk hS
  simp only [Kw.red] at hS
  have HS27 := hid (show St F w [glC W, stkC s TSt [4, 4], stkC s2 TSt []] w27 from hS)
  clear hS bk g27 HS24 H1 H2
  go_wp2_with fail
  obtain ⟨F28, g28, _, _, bk⟩ := HS27.out.sel [2]
  have hc := craise_any (show Sts [stkC s2 TSt []] F28 _ from g28) (-3) (by decide)
  rw [show max (-3) (topOf []) = (0 : Int) by decide +kernel] at hc
  refine hc.mono ?_; rintro e w28 ⟨rfl, hS⟩
  have hS := bk hS
  simp only [Kw.red] at hS
  have HS28 := hid (show St F w [glC W, stkC s TSt [4, 4], stkC s2 TSt [0]] w28 from hS)
  clear hS bk hc g28 HS27
  go_wp2_with fail
  obtain ⟨sv, hc, ho⟩ := stk_at 2 HS28.out
  have H2 := hid (clen_any hc ho)
  clear hc ho
  refine H2.out.mono ?_; rintro e w29 ⟨rfl, rfl⟩
  go_wp2_with fail
  go_ret
  exact ⟨rfl, (glob_keeps Hg.out HS28.out).1⟩
end
end Go.Proofs.YtnkjjhenfhnajaaGreatDoor
