/-
  RespondRuns, walked.
-/
import Derived.Test.YtnkjjhenfhnajaaDoorEg
namespace Go.Proofs.YtnkjjhenfhnajaaDoor
open Go.RowKit Go.Kw Go.Kreg Go.Tm Go.Ad
set_option linter.unusedSimpArgs false
set_option linter.unusedVariables false

section
variable {w : World} {p : Nat} {m : TM} {x : TabX}
set_option maxRecDepth 100000 in
set_option maxHeartbeats 4000000 in
theorem all_nil (w : World) : Calls Tryd.prog 10 #[.pointer none] w fun e w' => e = .returned (.slice none 0 0) ∧ Keeps (fun _ => False) w w' := by
  go_enter Tryd.func10, Tryd.ntmps10
  go_wp2_with fail
  go_ret
  exact ⟨rfl, Keeps.refl _ _⟩
set_option maxRecDepth 100000 in
set_option maxHeartbeats 4000000 in
theorem fits_nil (w : World) : Calls Tryd.prog 9 #[.pointer none] w fun e w' => e = .returned (.bool false) ∧ Keeps (fun _ => False) w w' := by
  have HA := hid (all_nil w)
  go_enter Tryd.func9, Tryd.ntmps9
  go_wp2_with fail
  refine HA.out.mono ?_; rintro e w1 ⟨rfl, k1⟩
  have K1 := hid k1
  clear k1 HA
  go_wp2_with fail
  go_loopw [8] (fun y wr => y = .int .i64 0 ∧ w1 = wr) (fun _ _ => 0)
  case atStart => exact ⟨rfl, rfl⟩
  case round =>
    obtain ⟨rfl, rfl⟩ := hrel
    go_wp2_with fail
    go_ret
    exact ⟨rfl, K1.out⟩
set_option maxRecDepth 100000 in
set_option maxHeartbeats 4000000 in
theorem worstK_any (hm : m.Ok) (h : TabAt w p m x) {a e b f : Int} (h0 : worst m 0 = (a, e)) (h1 : worst m 1 = (b, f)) : Calls Tryd.prog 4 #[.pointer (some ⟨p, 0, none⟩), .int .i64 a, .int .i64 e, .int .i64 b, .int .i64 f] w fun r w' => r = .returned (.bool true) ∧ Keeps (fun _ => False) w w' := by
  have H0 := worst_any hm h 0
  rw [h0] at H0
  have H0 := hid H0
  have H1 := fun (w9 : World) (k9 : Keeps (fun _ => False) w w9) => worst_any hm (h.keeps k9) 1
  rw [h1] at H1
  have H1 := hid H1
  clear h0 h1 h hm
  go_enter Tryd.func4, Tryd.ntmps4
  go_wp2_with fail
  refine H0.out.mono ?_; rintro r w1 ⟨rfl, k1⟩
  go_wp2_with fail
  refine (H1.out w1 k1).mono ?_; rintro r w2 ⟨rfl, k2⟩
  have K2 := hid (k1.trans k2)
  clear k1 k2 H0 H1
  go_wp2_with fail
  go_ret
  exact ⟨rfl, K2.out⟩
end
section
variable {W w : World} {F : Nat → Prop}
set_option maxRecDepth 100000 in
set_option maxHeartbeats 4000000 in
theorem two_any (hG : Glob W) (hg : (glC W).holds F w) {x y : Task} {nx ny : Value} (hx : SlNd w nx x.needs) (hy : SlNd w ny y.needs) (bx : big x.frame) (by_ : big y.frame) {a e b f : Int} (h2 : RR.Two x y a e b f) :
    Calls Tryd.prog 5 #[taskV x nx, taskV y ny] w fun r w' => ∃ p, r = .returned (.pointer (some ⟨p, 0, none⟩)) ∧ St F w [glC W, tabC p ⟨8, [1], [x, y]⟩] w' := by
  have HSg := hid (St.of (Sts.one hg))
  have Hg := hid hg
  have Hx := hid hx
  have Hy := hid hy
  have c0 := hid (addYes h2.c0)
  have c1 := hid (addYes h2.c1)
  obtain ⟨xa, xc, rfl, -⟩ := id hx
  obtain ⟨ya, yc, rfl, -⟩ := id hy
  clear hg hx hy h2
  unfold taskV
  go_enter Tryd.func5, Tryd.ntmps5
  go_upto_region 1 with fail
  have hS0 := (HSg.out.new TTk [.string x.name, .int .i64 x.level, .int .i64 x.frame, .slice xa x.needs.length xc, .string x.code, .int .i64 x.period, .int .i64 x.first, .int .i64 x.gap]).new TTk [.string y.name, .int .i64 y.level, .int .i64 y.frame, .slice ya y.needs.length yc, .string y.code, .int .i64 y.period, .int .i64 y.first, .int .i64 y.gap]
  rw [show (w.alloc (.cells [.string x.name, .int .i64 x.level, .int .i64 x.frame, .slice xa x.needs.length xc, .string x.code, .int .i64 x.period, .int .i64 x.first, .int .i64 x.gap].toArray TTk)).heap.size = w.heap.size + 1 by simp] at hS0
  simp only [Kw.red] at hS0
  have HS0 := hid hS0
  clear hS0
  have d0 := hid (show TM.add ⟨8, [1], []⟩ x = (0, 0, ⟨8, [1], [x]⟩) from c0.out)
  have d1 := hid (show TM.add ⟨8, [1], [x]⟩ y = (1, 0, ⟨8, [1], [x, y]⟩) from c1.out)
  clear c0 c1
  generalize w.heap.size + 1 = yb at *
  generalize w.heap.size = xb at *
  generalize ((w.alloc (.cells #[.string x.name, .int .i64 x.level, .int .i64 x.frame, .slice xa x.needs.length xc, .string x.code, .int .i64 x.period, .int .i64 x.first, .int .i64 x.gap] TTk)).alloc (.cells #[.string y.name, .int .i64 y.level, .int .i64 y.frame, .slice ya y.needs.length yc, .string y.code, .int .i64 y.period, .int .i64 y.first, .int .i64 y.gap] TTk)) = w2 at *
  have HN := hid (new_any (SlIn.blk (b := w2.heap.size) (l := [1]) (Blk.new w2 TI' [.int .i64 1]) (by simp)) 8)
  go_wp2_with fail
  refine HN.out.mono ?_; rintro e w3 hor
  obtain ⟨p, rfl, hS⟩ := newOk (by decide) (HS0.out.step ((Keeps.refl (fun _ => False) w2).alloc (.cells #[.int .i64 1] TI'))) hor
  have HS3 := hid (show St F w [glC W, tabC p ⟨8, [1], []⟩, .pt xb TTk _, .pt yb TTk _] w3 from hS.sub [0, 3, 1, 2])
  have K3 := hid (glob_keeps Hg.out HS3.out).1
  clear hS HN HS0 hor
  obtain ⟨e0, e1, e2, e3, e4, e5, e6, e7, ez⟩ := cells8 (HS3.out.blk 2)
  go_wp2_with fail
  refine (addSt hG HS3.out x (Hx.out.new K3.out) bx d0.out).mono ?_; rintro e w4 ⟨rfl, hS⟩
  have HS4 := hid hS
  have K4 := hid (glob_keeps Hg.out HS4.out).1
  clear hS HS3 e0 e1 e2 e3 e4 e5 e6 e7 ez
  obtain ⟨e0, e1, e2, e3, e4, e5, e6, e7, ez⟩ := cells8 (HS4.out.blk 3)
  go_wp2_with fail
  refine (addSt hG HS4.out y (Hy.out.new K4.out) by_ d1.out).mono ?_; rintro e w5 ⟨rfl, hS⟩
  have HS5 := hid (hS.sub [0, 1])
  clear hS HS4 e0 e1 e2 e3 e4 e5 e6 e7 ez
  go_wp2_with fail
  go_ret
  exact ⟨p, rfl, HS5.out⟩
set_option maxRecDepth 100000 in
set_option maxHeartbeats 16000000 in
theorem runs12_any (hG : Glob W) (hg : (glC W).holds F w) : Calls Tryd.prog 3 #[] w fun e w' => e = .returned (.bool true) ∧ Keeps (fun _ => False) w w' := by
  have HSg := hid (St.of (Sts.one hg))
  have Hg := hid hg
  clear hg
  go_enter Tryd.func3, Tryd.ntmps3
  go_upto_region 3 with fail
  have hS := ((St.start w).new TTk [.string ⟨#[97]⟩, .int .i64 2, .int .i64 0, .slice none 0 0, .string ⟨#[119, 111, 114, 107, 32, 49]⟩, .int .i64 4, .int .i64 1, .int .i64 0]).new TTk [.string ⟨#[98]⟩, .int .i64 1, .int .i64 0, .slice none 0 0, .string ⟨#[119, 111, 114, 107, 32, 50]⟩, .int .i64 0, .int .i64 0, .int .i64 8]
  rw [show (w.alloc (.cells [.string ⟨#[97]⟩, .int .i64 2, .int .i64 0, .slice none 0 0, .string ⟨#[119, 111, 114, 107, 32, 49]⟩, .int .i64 4, .int .i64 1, .int .i64 0].toArray TTk)).heap.size = w.heap.size + 1 by simp] at hS
  simp only [Kw.red] at hS
  have HC := hid hS
  clear hS
  generalize w.heap.size + 1 = lb at *
  generalize w.heap.size = hb at *
  generalize ((w.alloc (.cells #[.string ⟨#[97]⟩, .int .i64 2, .int .i64 0, .slice none 0 0, .string ⟨#[119, 111, 114, 107, 32, 49]⟩, .int .i64 4, .int .i64 1, .int .i64 0] TTk)).alloc (.cells #[.string ⟨#[98]⟩, .int .i64 1, .int .i64 0, .slice none 0 0, .string ⟨#[119, 111, 114, 107, 32, 50]⟩, .int .i64 0, .int .i64 0, .int .i64 8] TTk)) = w1 at *
  obtain ⟨f0, f1, f2, f3, f4, f5, f6, f7, fz⟩ := cells8 (HC.out.blk 0)
  go_upto_region 4 with fail
  clear f0 f1 f2 f3 f4 f5 f6 f7 fz
  have HC := hid (HC.out.new TTk [.string ⟨#[97]⟩, .int .i64 2, .int .i64 0, .slice none 0 0, .string ⟨#[119, 111, 114, 107, 32, 49]⟩, .int .i64 4, .int .i64 1, .int .i64 0])
  generalize w1.heap.size = ob at *
  generalize (w1.alloc (.cells #[.string ⟨#[97]⟩, .int .i64 2, .int .i64 0, .slice none 0 0, .string ⟨#[119, 111, 114, 107, 32, 49]⟩, .int .i64 4, .int .i64 1, .int .i64 0] TTk)) = w2 at *
  have hq := HC.out
  simp only [Kw.red] at hq
  have HC := hid hq
  clear hq
  obtain ⟨g0, g1, g2, g3, g4, g5, g6, g7, gz⟩ := cells8 (HC.out.blk 2)
  go_upto_region 5 with fail
  clear g0 g1 g2 g3 g4 g5 g6 g7 gz
  have hq := HC.out.set 2 1 (.int .i64 1)
  simp only [Kw.red] at hq
  simp only [List.set_cons_zero, List.set_cons_succ] at hq
  have HC := hid hq
  clear hq
  generalize (w2.setCell ⟨ob, 1, none⟩ (.int .i64 1)) = w3 at *
  go_upto_region 6 with fail
  have hq := HC.out.new TTk [.string ⟨#[97]⟩, .int .i64 2, .int .i64 0, .slice none 0 0, .string ⟨#[119, 111, 114, 107, 32, 49]⟩, .int .i64 0, .int .i64 0, .int .i64 0]
  simp only [Kw.red] at hq
  have HC := hid hq
  clear hq
  generalize w3.heap.size = fb at *
  generalize (w3.alloc (.cells #[.string ⟨#[97]⟩, .int .i64 2, .int .i64 0, .slice none 0 0, .string ⟨#[119, 111, 114, 107, 32, 49]⟩, .int .i64 0, .int .i64 0, .int .i64 0] TTk)) = w4 at *
  obtain ⟨f0, f1, f2, f3, f4, f5, f6, f7, fz⟩ := cells8 (HC.out.blk 0)
  obtain ⟨g0, g1, g2, g3, g4, g5, g6, g7, gz⟩ := cells8 (HC.out.blk 1)
  go_wp2_with fail
  refine (two_any hG (glob_new Hg.out HC.out.keeps) (x := RR.hi) (y := RR.lo) (SlNd.nil _) (SlNd.nil _) (by unfold big RR.hi; decide) (by unfold big RR.lo; decide) RR.r1).mono ?_; rintro e w5 ⟨p5, rfl, hS⟩
  have k := (glob_keeps (glob_new Hg.out HC.out.keeps) hS).1
  obtain ⟨y5, hy⟩ := tab_at 1 hS
  have HY := hid hy
  have hq := HC.out.step k
  clear f0 f1 f2 f3 f4 f5 f6 f7 fz g0 g1 g2 g3 g4 g5 g6 g7 gz
  clear HC
  have HC := hid hq
  clear hS hy k hq
  go_wp2_with fail
  refine (worstK_any HY.out.tok.ok HY.out RR.r1.w0 RR.r1.w1).mono ?_; rintro e w6 ⟨rfl, k⟩
  have hq := HC.out.step k
  clear HC HY
  have HC := hid hq
  clear k hq
  obtain ⟨f0, f1, f2, f3, f4, f5, f6, f7, fz⟩ := cells8 (HC.out.blk 2)
  obtain ⟨g0, g1, g2, g3, g4, g5, g6, g7, gz⟩ := cells8 (HC.out.blk 1)
  go_wp2_with fail
  refine (two_any hG (glob_new Hg.out HC.out.keeps) (x := RR.one) (y := RR.lo) (SlNd.nil _) (SlNd.nil _) (by unfold big RR.one; decide) (by unfold big RR.lo; decide) RR.r2).mono ?_; rintro e w7 ⟨p7, rfl, hS⟩
  have k := (glob_keeps (glob_new Hg.out HC.out.keeps) hS).1
  obtain ⟨y7, hy⟩ := tab_at 1 hS
  have HY := hid hy
  have hq := HC.out.step k
  clear f0 f1 f2 f3 f4 f5 f6 f7 fz g0 g1 g2 g3 g4 g5 g6 g7 gz
  clear HC
  have HC := hid hq
  clear hS hy k hq
  go_wp2_with fail
  refine (worstK_any HY.out.tok.ok HY.out RR.r2.w0 RR.r2.w1).mono ?_; rintro e w8 ⟨rfl, k⟩
  have hq := HC.out.step k
  clear HC HY
  have HC := hid hq
  clear k hq
  obtain ⟨f0, f1, f2, f3, f4, f5, f6, f7, fz⟩ := cells8 (HC.out.blk 3)
  obtain ⟨g0, g1, g2, g3, g4, g5, g6, g7, gz⟩ := cells8 (HC.out.blk 1)
  go_wp2_with fail
  refine (two_any hG (glob_new Hg.out HC.out.keeps) (x := RR.free) (y := RR.lo) (SlNd.nil _) (SlNd.nil _) (by unfold big RR.free; decide) (by unfold big RR.lo; decide) RR.r3).mono ?_; rintro e w9 ⟨p9, rfl, hS⟩
  have k := (glob_keeps (glob_new Hg.out HC.out.keeps) hS).1
  obtain ⟨y9, hy⟩ := tab_at 1 hS
  have HY := hid hy
  have hq := HC.out.step k
  clear f0 f1 f2 f3 f4 f5 f6 f7 fz g0 g1 g2 g3 g4 g5 g6 g7 gz
  clear HC
  have HC := hid hq
  clear hS hy k hq
  go_wp2_with fail
  refine (worstK_any HY.out.tok.ok HY.out RR.r3.w0 RR.r3.w1).mono ?_; rintro e w10 ⟨rfl, k⟩
  have hq := HC.out.step k
  clear HC HY
  have HC := hid hq
  clear k hq
  go_upto_region 9 with fail
  have hq := HC.out.new TNd (needsC RR.hi2.needs)
  simp only [Kw.red] at hq
  have HC := hid hq
  clear hq
  generalize w10.heap.size = nb at *
  generalize hW1 : (w10.alloc (.cells #[.int .i64 0, .int .i64 1] TNd)) = wa at *
  have HC := hid (show St (fun _ => False) w _ wa from hW1 ▸ HC.out)
  clear hW1
  obtain ⟨f0, f1, f2, f3, f4, f5, f6, f7, fz⟩ := cells8 (HC.out.blk 0)
  go_upto_region 10 with fail
  clear f0 f1 f2 f3 f4 f5 f6 f7 fz
  have hq := HC.out.set 0 3 (.slice (some ⟨nb, 0, none⟩) 1 1)
  simp only [Kw.red] at hq
  simp only [List.set_cons_zero, List.set_cons_succ] at hq
  clear HC
  have HC := hid hq
  clear hq
  generalize (wa.setCell ⟨hb, 3, none⟩ (.slice (some ⟨nb, 0, none⟩) 1 1)) = wb at *
  obtain ⟨f0, f1, f2, f3, f4, f5, f6, f7, fz⟩ := cells8 (HC.out.blk 1)
  go_upto_region 11 with fail
  clear f0 f1 f2 f3 f4 f5 f6 f7 fz
  have hq := HC.out.set 1 3 (.slice (some ⟨nb, 0, none⟩) 1 1)
  simp only [Kw.red] at hq
  simp only [List.set_cons_zero, List.set_cons_succ] at hq
  clear HC
  have HC := hid hq
  clear hq
  generalize (wb.setCell ⟨lb, 3, none⟩ (.slice (some ⟨nb, 0, none⟩) 1 1)) = wc at *
  obtain ⟨f0, f1, f2, f3, f4, f5, f6, f7, fz⟩ := cells8 (HC.out.blk 1)
  go_upto_region 12 with fail
  clear f0 f1 f2 f3 f4 f5 f6 f7 fz
  have hq := HC.out.set 1 4 (.string ⟨#[108, 111, 99, 107, 32, 48, 32, 49, 59, 32, 119, 111, 114, 107, 32, 49, 59, 32, 117, 110, 108, 111, 99, 107, 32, 48]⟩)
  simp only [Kw.red] at hq
  simp only [List.set_cons_zero, List.set_cons_succ] at hq
  clear HC
  have HC := hid hq
  clear hq
  generalize (wc.setCell ⟨lb, 4, none⟩ (.string ⟨#[108, 111, 99, 107, 32, 48, 32, 49, 59, 32, 119, 111, 114, 107, 32, 49, 59, 32, 117, 110, 108, 111, 99, 107, 32, 48]⟩)) = wd at *
  obtain ⟨f0, f1, f2, f3, f4, f5, f6, f7, fz⟩ := cells8 (HC.out.blk 0)
  obtain ⟨g0, g1, g2, g3, g4, g5, g6, g7, gz⟩ := cells8 (HC.out.blk 1)
  go_wp2_with fail
  refine (two_any hG (glob_new Hg.out HC.out.keeps) (x := RR.hi2) (y := RR.lo2) (SlNd.blk (l := RR.hi2.needs) (HC.out.blk 4) (by decide) (by decide)) (SlNd.blk (l := RR.lo2.needs) (HC.out.blk 4) (by decide) (by decide)) (by unfold big RR.hi2; decide) (by unfold big RR.lo2; decide) RR.r4).mono ?_; rintro e w21 ⟨p21, rfl, hS⟩
  have k := (glob_keeps (glob_new Hg.out HC.out.keeps) hS).1
  obtain ⟨y21, hy⟩ := tab_at 1 hS
  have HY := hid hy
  have hq := HC.out.step k
  clear f0 f1 f2 f3 f4 f5 f6 f7 fz g0 g1 g2 g3 g4 g5 g6 g7 gz
  clear HC
  have HC := hid hq
  clear hS hy k hq
  go_wp2_with fail
  refine (worstK_any HY.out.tok.ok HY.out RR.r4.w0 RR.r4.w1).mono ?_; rintro e w22 ⟨rfl, k⟩
  have hq := HC.out.step k
  clear HC HY
  have HC := hid hq
  clear k hq
  obtain ⟨f0, f1, f2, f3, f4, f5, f6, f7, fz⟩ := cells8 (HC.out.blk 1)
  go_upto_region 15 with fail
  clear f0 f1 f2 f3 f4 f5 f6 f7 fz
  have hq := HC.out.set 1 4 (.string ⟨#[108, 111, 99, 107, 32, 48, 32, 49, 59, 32, 119, 111, 114, 107, 32, 50, 59, 32, 117, 110, 108, 111, 99, 107, 32, 48]⟩)
  simp only [Kw.red] at hq
  simp only [List.set_cons_zero, List.set_cons_succ] at hq
  clear HC
  have HC := hid hq
  clear hq
  generalize (w22.setCell ⟨lb, 4, none⟩ (.string ⟨#[108, 111, 99, 107, 32, 48, 32, 49, 59, 32, 119, 111, 114, 107, 32, 50, 59, 32, 117, 110, 108, 111, 99, 107, 32, 48]⟩)) = we at *
  obtain ⟨f0, f1, f2, f3, f4, f5, f6, f7, fz⟩ := cells8 (HC.out.blk 0)
  obtain ⟨g0, g1, g2, g3, g4, g5, g6, g7, gz⟩ := cells8 (HC.out.blk 1)
  go_wp2_with fail
  refine (two_any hG (glob_new Hg.out HC.out.keeps) (x := RR.hi2) (y := RR.lo3) (SlNd.blk (l := RR.hi2.needs) (HC.out.blk 4) (by decide) (by decide)) (SlNd.blk (l := RR.lo3.needs) (HC.out.blk 4) (by decide) (by decide)) (by unfold big RR.hi2; decide) (by unfold big RR.lo3; decide) RR.r5).mono ?_; rintro e w23 ⟨p23, rfl, hS⟩
  have k := (glob_keeps (glob_new Hg.out HC.out.keeps) hS).1
  obtain ⟨y23, hy⟩ := tab_at 1 hS
  have HY := hid hy
  have hq := HC.out.step k
  clear f0 f1 f2 f3 f4 f5 f6 f7 fz g0 g1 g2 g3 g4 g5 g6 g7 gz
  clear HC
  have HC := hid hq
  clear hS hy k hq
  go_wp2_with fail
  refine (worstK_any HY.out.tok.ok HY.out RR.r5.w0 RR.r5.w1).mono ?_; rintro e w24 ⟨rfl, k⟩
  have hq := HC.out.step k
  have hy := HY.out.keeps k
  clear HC HY
  have HY := hid hy
  clear hy
  have HC := hid hq
  clear k hq
  have K0 := hid HC.out.keeps
  have HM := hid HY.out.tok.ok
  clear HC
  have KA := hid (Keeps.refl (fun _ => False) w24)
  go_wp2_with fail
  have hc := gapI_any (HY.out.keeps KA.out) 1
  rw [show gapI (TM.mk 8 [1] [RR.hi2, RR.lo3]).ts 1 = 8 from RR.g1] at hc
  rw [show decide ((0 : Int) < 8) = true from rfl] at hc
  refine hc.mono ?_; rintro e v1 ⟨rfl, k⟩
  have K1 := hid (KA.out.trans k)
  clear hc k KA
  go_wp2_with fail
  have hc := gapI_any (HY.out.keeps K1.out) 2
  rw [show gapI (TM.mk 8 [1] [RR.hi2, RR.lo3]).ts 2 = 0 from RR.g2] at hc
  rw [show decide ((0 : Int) < 0) = false from rfl] at hc
  refine hc.mono ?_; rintro e v2 ⟨rfl, k⟩
  have K2 := hid (K1.out.trans k)
  clear hc k K1
  go_wp2_with fail
  have hc := demandI_any HM.out (HY.out.keeps K2.out) 0 4
  rw [show demandI (TM.mk 8 [1] [RR.hi2, RR.lo3]) 0 4 = (5, 0) from RR.d1] at hc
  refine hc.mono ?_; rintro e v3 ⟨rfl, k⟩
  have K3 := hid (K2.out.trans k)
  clear hc k K2
  go_wp2_with fail
  have hc := demandI_any HM.out (HY.out.keeps K3.out) 0 0
  rw [show demandI (TM.mk 8 [1] [RR.hi2, RR.lo3]) 0 0 = (0, 1) from RR.d2] at hc
  refine hc.mono ?_; rintro e v4 ⟨rfl, k⟩
  have K4 := hid (K3.out.trans k)
  clear hc k K3
  go_wp2_with fail
  have hc := demandI_nil v4 0 1
  refine hc.mono ?_; rintro e v5 ⟨rfl, k⟩
  have K5 := hid (K4.out.trans k)
  clear hc k K4
  go_wp2_with fail
  have hc := worst_nil v5 0
  refine hc.mono ?_; rintro e v6 ⟨rfl, k⟩
  have K6 := hid (K5.out.trans k)
  clear hc k K5
  go_wp2_with fail
  have hc := fits_nil v6
  refine hc.mono ?_; rintro e v7 ⟨rfl, k⟩
  have K7 := hid (K6.out.trans k)
  clear hc k K6
  go_wp2_with fail
  have hc := all_nil v7
  refine hc.mono ?_; rintro e v8 ⟨rfl, k⟩
  have K8 := hid (K7.out.trans k)
  clear hc k K7
  go_wp2_with fail
  go_ret
  exact ⟨rfl, K0.out.trans K8.out⟩
end
end Go.Proofs.YtnkjjhenfhnajaaDoor
