/-
  AdmitRuns, walked.
-/
import Derived.Test.YtdjgijndcjbpiaaGreatDoorBg
namespace Go.Proofs.YtdjgijndcjbpiaaGreatDoor
open Go.RowKit Go.Kw Go.Kreg Go.Tm Go.Ad
set_option linter.unusedSimpArgs false
set_option linter.unusedVariables false
section
variable {W w : World} {F : Nat → Prop}
open AR
set_option maxRecDepth 100000 in
set_option maxHeartbeats 8000000 in
theorem admitruns_any (hG : Glob W) (hg : (glC W).holds F w) : Calls Tryz.prog 71 #[] w fun e w' => e = .returned (.bool true) ∧ Keeps (fun _ => False) w w' := by
  have HSg := hid (St.of (Sts.one hg))
  have Hg := hid hg
  have HN1 := hid (new_any (SlIn.blk (b := w.heap.size) (l := [2, 1]) (Blk.new w TI' [.int .i64 2, .int .i64 1]) (by simp)) 8)
  clear hg
  go_enter Tryz.func71, Tryz.ntmps71
  go_wp2_with fail
  refine HN1.out.mono ?_; rintro e w1 hor
  obtain ⟨p, rfl, hS⟩ := newOk (by decide) (HSg.out.step ((Keeps.refl (fun _ => False) w).alloc (.cells #[.int .i64 2, .int .i64 1] TI'))) hor
  have HS1 := hid (show St F w [glC W, tabC p M0, .pt w1.heap.size TNd (needsC A.needs)] _ from hS.new TNd (needsC A.needs))
  clear hS HN1 HSg hor
  go_wp2_with fail
  refine (addSt hG HS1.out A (SlNd.blk (HS1.out.blk 2) (by decide) (by decide)) (by unfold big A; decide) (addYes c0)).mono ?_; rintro e w2 ⟨rfl, hS⟩
  have HS2 := hid (show St F w [glC W, tabC p M1, .pt w1.heap.size TNd (needsC A.needs), .pt w2.heap.size TNd (needsC B.needs)] _ from hS.new TNd (needsC B.needs))
  clear hS HS1
  go_wp2_with fail
  refine (addSt hG HS2.out B (SlNd.blk (HS2.out.blk 3) (by decide) (by decide)) (by unfold big B; decide) (addYes c1)).mono ?_; rintro e w3 ⟨rfl, hS⟩
  have HS3 := hid (show St F w [glC W, tabC p M2, .pt w1.heap.size TNd (needsC A.needs), .pt w2.heap.size TNd (needsC B.needs), .pt w3.heap.size TNd (needsC C.needs)] _ from hS.new TNd (needsC C.needs))
  clear hS HS2
  go_wp2_with fail
  refine (addSt hG HS3.out C (SlNd.blk (HS3.out.blk 4) (by decide) (by decide)) (by unfold big C; decide) (addYes c2)).mono ?_; rintro e w4 ⟨rfl, hS⟩
  have HS4 := hid hS
  clear hS HS3
  go_wp2_with fail
  refine (addSt hG HS4.out D (SlNd.nil _) (by unfold big D; decide) (addYes c3)).mono ?_; rintro e w5 ⟨rfl, hS⟩
  have HS5 := hid (show St F w [glC W, tabC p M] w5 from hS.sub [0, 1])
  clear hS HS4
  obtain ⟨y, hy⟩ := tab_at 1 HS5.out
  have Hy := hid hy
  clear hy
  go_wp2_with fail
  have hln := tlen_any Hy.out
  rw [show ((M.ts.length : Nat) : Int) = 4 from rfl] at hln
  refine hln.mono ?_; rintro e w6 ⟨rfl, rfl⟩
  clear hln
  go_wp2_with fail
  have hs0 := sections_any Hy.out 0
  rw [AR.s0] at hs0
  refine hs0.mono ?_; rintro e w6 ⟨v0, rfl, hS6⟩
  obtain ⟨a0, d0, rfl, -⟩ := (hS6.vec 0).shape
  have K6 := hid hS6.keeps
  have hR1 := (RdS.vec (hS6.vec 0) (by decide)).new ((Keeps.refl (fun _ => False) w6).alloc (.cells (secsC [⟨0, 1, 1, 0, 8⟩, ⟨1, 1, 1, 4, 7⟩]).toArray TSe))
  have hR2 : RdS (w6.alloc (.cells (secsC [⟨0, 1, 1, 0, 8⟩, ⟨1, 1, 1, 4, 7⟩]).toArray TSe)) (.slice (some ⟨w6.heap.size, 0, none⟩) 2 2) 2 5 (secsC [⟨0, 1, 1, 0, 8⟩, ⟨1, 1, 1, 4, 7⟩]) := RdS.blk (Blk.new w6 TSe _) (by decide) rfl
  have hsm := sameSe_any (xs := [⟨0, 1, 1, 0, 8⟩, ⟨1, 1, 1, 4, 7⟩]) (ys := [⟨0, 1, 1, 0, 8⟩, ⟨1, 1, 1, 4, 7⟩]) hR1 hR2
  rw [show decide (([⟨0, 1, 1, 0, 8⟩, ⟨1, 1, 1, 4, 7⟩] : List Sec) = [⟨0, 1, 1, 0, 8⟩, ⟨1, 1, 1, 4, 7⟩]) = true from rfl] at hsm
  have HSm := hid hsm
  clear hs0 hS6 hR1 hR2 hsm
  go_wp2_with fail
  refine HSm.out.mono ?_; rintro e w7 ⟨rfl, nq, hw7⟩
  have K7 := hid (show Keeps (fun _ => False) w5 w7 by rw [hw7]; exact (K6.out.alloc _).drewN nq)
  clear hw7 HSm K6
  go_wp2_with fail
  have hc := cost_any (Hy.out.keeps K7.out) 0
  rw [show cost M.ts 0 = 10 from AR.k0] at hc
  refine hc.mono ?_; rintro e w8 ⟨rfl, k⟩
  have K8 := hid (K7.out.trans k)
  clear hc k K7
  go_wp2_with fail
  have hs0 := sections_any (Hy.out.keeps K8.out) 1
  rw [AR.s1] at hs0
  refine hs0.mono ?_; rintro e w9 ⟨v0, rfl, hS6⟩
  obtain ⟨a0, d0, rfl, -⟩ := (hS6.vec 0).shape
  have K9 := hid (K8.out.trans hS6.keeps)
  have hR1 := (RdS.vec (hS6.vec 0) (by decide)).new ((Keeps.refl (fun _ => False) w9).alloc (.cells (secsC [⟨1, 1, 1, 0, 1⟩]).toArray TSe))
  have hR2 : RdS (w9.alloc (.cells (secsC [⟨1, 1, 1, 0, 1⟩]).toArray TSe)) (.slice (some ⟨w9.heap.size, 0, none⟩) 1 1) 1 5 (secsC [⟨1, 1, 1, 0, 1⟩]) := RdS.blk (Blk.new w9 TSe _) (by decide) rfl
  have hsm := sameSe_any (xs := [⟨1, 1, 1, 0, 1⟩]) (ys := [⟨1, 1, 1, 0, 1⟩]) hR1 hR2
  rw [show decide (([⟨1, 1, 1, 0, 1⟩] : List Sec) = [⟨1, 1, 1, 0, 1⟩]) = true from rfl] at hsm
  have HSm := hid hsm
  clear hs0 hS6 hR1 hR2 hsm K8
  go_wp2_with fail
  refine HSm.out.mono ?_; rintro e w10 ⟨rfl, nq2, hw7⟩
  have K10 := hid (show Keeps (fun _ => False) w5 w10 by rw [hw7]; exact (K9.out.alloc _).drewN nq2)
  clear hw7 HSm K9
  go_wp2_with fail
  have hu := sure_any (Hy.out.keeps K10.out) 1
  simp only [AR.u1] at hu
  refine hu.mono ?_; rintro e w11 ⟨rfl, k⟩
  have HT1 := hid (((St.start w5).step (K10.out.trans k)).new THit [.int .i64 0, .int .i64 0, .int .i64 8])
  clear hu k
  go_wp2_with fail
  have hu := sure_any (Hy.out.keeps HT1.out.keeps) 2
  simp only [AR.u2] at hu
  refine hu.mono ?_; rintro e w12 ⟨rfl, k⟩
  have HT2 := hid ((HT1.out.step k).new THit [.int .i64 0, .int .i64 0, .int .i64 8])
  clear hu k HT1
  go_wp2_with fail
  have hu := sure_any (Hy.out.keeps HT2.out.keeps) 0
  simp only [AR.u0] at hu
  refine hu.mono ?_; rintro e w13 ⟨rfl, k⟩
  have HT3 := hid ((HT2.out.step k).new THit [.int .i64 0, .int .i64 0, .int .i64 0])
  clear hu k HT2
  go_wp2_with fail
  generalize w11.heap.size = b1 at *
  generalize w12.heap.size = b2 at *
  generalize w13.heap.size = b3 at *
  generalize hwa : w13.alloc (.cells #[.int .i64 0, .int .i64 0, .int .i64 0] THit) = w14 at *
  have K14 := hid HT3.out.keeps
  have hy := Hy.out.keeps K14.out
  have Hz := hid hy
  have x0 := (HT3.out.blk 0).cell 0
  have x1 := (HT3.out.blk 0).cell 1
  have x2 := (HT3.out.blk 0).cell 2
  have y0 := (HT3.out.blk 1).cell 0
  have y1 := (HT3.out.blk 1).cell 1
  have y2 := (HT3.out.blk 1).cell 2
  simp only [List.getElem?_cons_zero, List.getElem?_cons_succ] at x0 x1 x2 y0 y1 y2
  have X0 := hid x0
  have X1 := hid x1
  have X2 := hid x2
  have Y0 := hid y0
  have Y1 := hid y1
  have Y2 := hid y2
  have KA := hid (Keeps.refl (fun _ => False) w14)
  clear hwa hy x0 x1 x2 y0 y1 y2
  have heq : ∀ w, (Op.equalIn 10000 THit (.agg #[.int .i64 0, .int .i64 0, .int .i64 8]) (.agg #[.int .i64 0, .int .i64 0, .int .i64 8])).run Tryz.prog w = .ok true w := fun w => eqHit w ⟨0, 0, 8⟩ ⟨0, 0, 8⟩
  have heqn := hid heq
  clear heq
  have hc := term_any (Hz.out.keeps KA.out) 0
  rw [show term M 0 = 0 from AR.t0] at hc
  refine hc.mono ?_; rintro e w15 ⟨rfl, k⟩
  have K15 := hid (KA.out.trans k)
  clear hc k KA
  go_wp2_with fail
  have hc := term_any (Hz.out.keeps K15.out) 1
  rw [show term M 1 = 8 from AR.t1] at hc
  refine hc.mono ?_; rintro e w16 ⟨rfl, k⟩
  have K16 := hid (K15.out.trans k)
  clear hc k K15
  go_wp2_with fail
  have hc := term_any (Hz.out.keeps K16.out) 2
  rw [show term M 2 = 8 from AR.t2] at hc
  refine hc.mono ?_; rintro e w17 ⟨rfl, k⟩
  have K17 := hid (K16.out.trans k)
  clear hc k K16
  go_wp2_with fail
  have hc := term_any (Hz.out.keeps K17.out) 3
  rw [show term M 3 = 8 from AR.t3] at hc
  refine hc.mono ?_; rintro e w18 ⟨rfl, k⟩
  have K18 := hid (K17.out.trans k)
  clear hc k K17
  go_wp2_with fail
  have hc := term_any (Hz.out.keeps K18.out) 9
  rw [AR.t9] at hc
  refine hc.mono ?_; rintro e w19 ⟨rfl, k⟩
  have K19 := hid (K18.out.trans k)
  clear hc k K18
  have x0 := cellIn K19.out X0.out
  have x1 := cellIn K19.out X1.out
  have x2 := cellIn K19.out X2.out
  have y0 := cellIn K19.out Y0.out
  have y1 := cellIn K19.out Y1.out
  have y2 := cellIn K19.out Y2.out
  have heq := heqn.out
  go_wp2_with fail
  clear x0 x1 x2 y0 y1 y2 heq
  have hc := longest_any (Hz.out.keeps K19.out) 1
  rw [show longest M 1 = 8 from AR.l1] at hc
  refine hc.mono ?_; rintro e w20 ⟨rfl, k⟩
  have K20 := hid (K19.out.trans k)
  clear hc k K19
  go_wp2_with fail
  have hc := greatest_any (Hz.out.keeps K20.out)
  rw [AR.g] at hc
  refine hc.mono ?_; rintro e w21 ⟨rfl, k⟩
  have K21 := hid (K14.out.trans (K20.out.trans k))
  clear hc k K20
  go_wp2_with fail
  refine (sure_nil _ _).mono ?_; rintro e w22 ⟨rfl, k⟩
  have K22 := hid ((K21.out.trans k).alloc (.cells #[.int .i64 0, .int .i64 0, .int .i64 0] THit))
  clear k K21
  go_wp2_with fail
  refine (cost_nil _ _).mono ?_; rintro e w23 ⟨rfl, k⟩
  have K23 := hid (K22.out.trans k)
  clear k K22
  go_wp2_with fail
  refine (sections_nil _ _).mono ?_; rintro e w24 ⟨rfl, k⟩
  have K24 := hid (K23.out.trans k)
  clear k K23
  go_wp2_with fail
  refine (term_nil _ _).mono ?_; rintro e w25 ⟨rfl, k⟩
  have K25 := hid (K24.out.trans k)
  clear k K24
  go_wp2_with fail
  refine (longest_nil _ _).mono ?_; rintro e w26 ⟨rfl, k⟩
  have K26 := hid (K25.out.trans k)
  clear k K25
  go_wp2_with fail
  refine (greatest_nil _).mono ?_; rintro e w27 ⟨rfl, k⟩
  have K27 := hid (K26.out.trans k)
  clear k K26
  go_wp2_with fail
  go_ret
  exact ⟨rfl, ((glob_keeps Hg.out HS5.out).1).trans K27.out⟩
end
end Go.Proofs.YtdjgijndcjbpiaaGreatDoor
