/-
  AdmitTells, walked.
-/
import Derived.Test.YtnkjjhenfhnajaaGreatDoorG37
import Derived.Test.YtnkjjhenfhnajaaGreatDoorDm
import Derived.Test.YtnkjjhenfhnajaaGreatDoorBm
namespace Go.Proofs.YtnkjjhenfhnajaaGreatDoor
open Go.RowKit Go.Kw Go.Kreg Go.Tm Go.Ad
set_option linter.unusedSimpArgs false
set_option linter.unusedVariables false

theorem sectionsR_any {w : World} {p : Nat} {m : TM} {y : RefX} (h : RefAt w p m y) (id : Int) : Calls Tryz.prog 28 #[.pointer (some ⟨p, 0, none⟩), .int .i64 id] w fun e w' => ∃ a c, e = .returned (.slice a (secsI m.ts id).length c) ∧ St (fun _ => False) w [.row TS1 5 (.slice a (secsI m.ts id).length c) (secsI m.ts id).length (secsC (secsI m.ts id))] w' := by
  rcases id_cases m.ts id with ho | ⟨i, t, rfl, ht⟩
  · rw [secs_no ho]
    refine (sectionsR_out h id ho).mono ?_; rintro e w1 ⟨rfl, k⟩
    exact ⟨none, 0, rfl, st_nilrow1 ((St.start w).step k) TS1 5⟩
  · have e1 : secsI m.ts (i : Int) = secsOf t := by unfold secsI secsAt; rw [if_neg (by omega), Int.toNat_natCast, ht]
    rw [e1]
    refine (sectionsR_in h ht).mono ?_; rintro e w1 ⟨v, rfl, hS⟩
    obtain ⟨a, c, rfl, -⟩ := (hS.own 0).shape
    exact ⟨a, c, rfl, hS⟩
theorem secsI_few {m : TM} (hm : m.Ok) (id : Int) : (secsI m.ts id).length ≤ 4096 := by
  rcases id_cases m.ts id with ho | ⟨i, t, rfl, ht⟩
  · rw [secs_no ho]; exact Nat.zero_le _
  · have e1 : secsI m.ts (i : Int) = secsOf t := by unfold secsI secsAt; rw [if_neg (by omega), Int.toNat_natCast, ht]
    rw [e1]; exact secs_few hm ht
theorem three_at (a i : Int) {j : Nat} (h : j < 3) : ∃ id, [Value.int .i64 a, .int .i64 i, .int .i64 (-1)][j]? = some (.int .i64 id) := by
  match j, h with
  | 0, _ => exact ⟨_, rfl⟩
  | 1, _ => exact ⟨_, rfl⟩
  | 2, _ => exact ⟨_, rfl⟩
section
variable {W w : World} {F : Nat → Prop}
set_option maxRecDepth 100000 in
set_option maxHeartbeats 8000000 in
theorem admittells_law (hG : Glob W) (hg : (glC W).holds F w) {W0 : Int} {uv tv : Value} {us : List Int} {ts : List Task} (hu : SlIm w uv us) (ht : SlTk w tv ts) (hnm : ∀ x ∈ ts, x.name.size ≤ 9223372036854775807) (a : Int) (ha : big a) :
    Calls Tryz.prog 4 #[.agg #[.int .i64 W0, uv, tv], .int .i64 a] w fun e w' => e = .returned (.bool true) ∧ Keeps (fun _ => False) w w' := by
  have hk0 := (Keeps.refl (fun _ => False) w).alloc (.cells #[.int .i64 W0, uv, tv] TSet)
  have HT := hid (made (W0 := W0) hG hg hu ht hnm hk0)
  have hok := setM_ok W0 us ts
  have hlen := setM_len W0 us ts
  obtain ⟨m, hm⟩ : ∃ m, setM W0 us ts = m := ⟨_, rfl⟩
  rw [hm] at hok hlen HT
  have Hg := hid hg
  have Hok := hid hok
  obtain ⟨ua, uc, rfl, -⟩ := id hu
  obtain ⟨la, lc, rfl, -⟩ := id ht
  clear hg hu ht hnm hk0 hm hok
  go_enter Tryz.func4, Tryz.ntmps4
  go_wp2_with fail
  refine HT.out.mono ?_; rintro e w1 ⟨p, q, rfl, hS⟩
  have K1 := hid (glob_keeps Hg.out hS).1
  obtain ⟨y, hy⟩ := tab_at 1 hS
  obtain ⟨z, hz⟩ := ref_at 2 hS
  have Hy := hid hy
  have Hz := hid hz
  have hwb := within_bd a 0 (m.ts.length : Int) (by omega)
  have hwa := fun w => within_any w a 0 (m.ts.length : Int) (by omega) (by omega) (by omega) ha.1 ha.2
  generalize within a 0 (m.ts.length : Int) = i at *
  have hB := (St.start w1).new TBs [.slice none 0 0, .slice none 0 0, .int .i64 0, .bool false]
  simp only [Kw.red] at hB
  have hB2 := (hB.fold [0] (bookS w1.heap.size []) (fun F h => bookS_start (Sts.of_one h))).sub [0]
  have HB := hid hB2
  clear hS hy hz HT hB hB2
  go_upto_region 5 with fail
  generalize hkb : w1.heap.size = kb at *
  generalize (w1.alloc (Obj.cells #[.slice none 0 0, .slice none 0 0, .int .i64 0, .bool false] TBs)) = wb at *
  have hzb := Hz.out.keeps HB.out.keeps
  obtain ⟨c0, c1, c2, cz⟩ := hzb.cells
  obtain ⟨ta, tc, etv⟩ := ref_shape hzb
  rw [etv] at c2
  clear hzb etv hkb
  go_wp2_with fail
  refine (hwa _).mono ?_; rintro e w2 ⟨rfl, rfl⟩
  have hB3 := HB.out.new TI' [.int .i64 a, .int .i64 i, .int .i64 (-1)]
  simp only [Kw.red] at hB3
  have HB3 := hid hB3
  clear hB3 c0 c1 c2 cz hwa HB
  go_wp2_with fail
  generalize wb.heap.size = ib at *
  go_loopw [10] (fun k wr => ∃ (j : Nat) (es : List EntS), j ≤ 3 ∧ k = .int .i64 j ∧ es.length = j ∧ heldS es ≤ j * 4097 ∧ (∀ e ∈ es, e.n ≤ 65536) ∧ Hid (St (fun _ => False) w1 [bookS kb es, .pt ib TI' [.int .i64 a, .int .i64 i, .int .i64 (-1)]] wr)) (fun k _ => 3 - (intOf k).toNat)
  case atStart => exact ⟨0, [], by omega, rfl, rfl, by decide, by simp, hid HB3.out⟩
  case round =>
    clear HB3
    obtain ⟨j, es, hj, rfl, hel, heh, hes, HS⟩ := hrel
    by_cases hlt : j < 3
    · have b0 : decide (j < 3) = true := decide_eq_true hlt
      have i0 : (0 : Int) ≤ (j : Int) := by omega
      have i1 : (j : Int) < 3 := by omega
      obtain ⟨id, hid1⟩ := three_at a i hlt
      have d0 := (HS.out.blk 1).at hid1
      have HC1 := hid (fun (w9 : World) (k9 : Keeps (fun _ => False) w1 w9) => sectionsC_any (Hy.out.keeps k9) id)
      have HC2 := hid (fun (w9 : World) (k9 : Keeps (fun _ => False) w1 w9) => sectionsR_any (Hz.out.keeps k9) id)
      have HC3 := hid (fun (w9 : World) (k9 : Keeps (fun _ => False) w1 w9) => sure_any (Hy.out.keeps k9) id)
      have HC4 := hid (fun (w9 : World) (k9 : Keeps (fun _ => False) w1 w9) => sureR_any (Hz.out.keeps k9) id)
      have HC5 := hid (fun (w9 : World) (k9 : Keeps (fun _ => False) w1 w9) => cost_any (Hy.out.keeps k9) id)
      have HC6 := hid (fun (w9 : World) (k9 : Keeps (fun _ => False) w1 w9) => costR_any (Hz.out.keeps k9) id)
      have HC7 := hid (fun (w9 : World) (k9 : Keeps (fun _ => False) w1 w9) => term_any (Hy.out.keeps k9) id)
      have HC8 := hid (fun (w9 : World) (k9 : Keeps (fun _ => False) w1 w9) => termR_any (Hz.out.keeps k9) id)
      have HC9 := hid (fun (w9 : World) (k9 : Keeps (fun _ => False) w1 w9) => longest_any (Hy.out.keeps k9) id)
      have HCa := hid (fun (w9 : World) (k9 : Keeps (fun _ => False) w1 w9) => longestR_any (Hz.out.keeps k9) id)
      have hsf := secsI_few Hok.out id
      generalize secsI m.ts id = L at *
      generalize sure m id = R at *
      generalize cost m.ts id = CC at *
      generalize term m id = TT at *
      generalize longest m id = LL at *
      clear hid1
      go_upto_region 10 with fail
      clear d0
      go_wp2_with fail
      refine (HC1.out _ HS.out.keeps).mono ?_; rintro e w2 ⟨ao, rfl, hS⟩
      have hS := HS.out.adds hS
      simp only [Kw.red] at hS
      have HS1 := hid hS
      clear hS HS HC1
      go_wp2_with fail
      refine (HC2.out _ HS1.out.keeps).mono ?_; rintro e w3 ⟨va, vc, rfl, hS⟩
      have hS := HS1.out.adds hS
      simp only [Kw.red] at hS
      have HS2 := hid hS
      clear hS HS1 HC2
      go_wp2_with fail
      go_loopw [14] (fun k wy => ∃ (n : Nat), n ≤ L.length ∧ k = .int .i64 n ∧ Hid (St (fun _ => False) w1 [bookS kb es, .pt ib TI' [.int .i64 a, .int .i64 i, .int .i64 (-1)], .vec TSe 5 (.slice ao L.length L.length) L.length (secsC L), .row TS1 5 (.slice va L.length vc) L.length (secsC L)] wy)) (fun k _ => L.length - (intOf k).toNat)
      case atStart => exact ⟨0, Nat.zero_le _, rfl, hid HS2.out⟩
      case round =>
        clear HS2
        obtain ⟨n, hn, rfl, HS⟩ := hrel
        by_cases hnl : n < L.length
        · have b1 : decide (n < L.length) = true := decide_eq_true hnl
          have hs := List.getElem?_eq_getElem hnl
          generalize L[n] = s at hs
          obtain ⟨e0, e1, e2, e3, e4⟩ := secsC_at hs
          obtain ⟨g1, gc1, ee, -⟩ := (HS.out.vec 2).form (by omega)
          cases ee
          obtain ⟨g2, gc2, ee, -⟩ := (HS.out.own 3).form (by omega)
          cases ee
          have s0 := (HS.out.vec 2).cells' (g := g1) rfl e0
          have s1 := (HS.out.vec 2).cells' (g := g1) rfl e1
          have s2 := (HS.out.vec 2).cells' (g := g1) rfl e2
          have s3 := (HS.out.vec 2).cells' (g := g1) rfl e3
          have s4 := (HS.out.vec 2).cells' (g := g1) rfl e4
          have r0 := (HS.out.own 3).cells' (g := g2) rfl e0
          have r1 := (HS.out.own 3).cells' (g := g2) rfl e1
          have r2 := (HS.out.own 3).cells' (g := g2) rfl e2
          have r3 := (HS.out.own 3).cells' (g := g2) rfl e3
          have r4 := (HS.out.own 3).cells' (g := g2) rfl e4
          have heq := fun w => eqSe w s s
          rw [decide_eq_true rfl] at heq
          have j0 : (0 : Int) ≤ (n : Int) := by omega
          have j1 : (n : Int) < (L.length : Int) := by omega
          clear hs e0 e1 e2 e3 e4
          go_wp2_with fail
          go_quiet (fail)
          go_wp2_with fail
          go_roundw
          case rel => exact ⟨n + 1, by omega, by go_num, hid (HS.out.drewN _)⟩
          case measure => simp [intOf]; omega
        · have b1 : decide (n < L.length) = false := decide_eq_false hnl
          have hnn : n = L.length := by omega
          subst hnn
          obtain ⟨F1, g1, _, _, bk⟩ := HS.out.sel [0, 2]
          have hKp := keepS_any (w := wr) (F := F1) (kb := kb) (es := es) (ao := ao) (n := L.length) (l := L) g1 (by omega) (by omega) (by omega)
          have HKp := hid hKp
          clear hKp g1
          go_wp2_with fail
          refine HKp.out.mono ?_; rintro e w4 ⟨rfl, was, hS⟩
          have hS := bk hS
          simp only [Kw.red] at hS
          have HS4 := hid (hS.sub [0, 1])
          clear hS bk HKp HS
          go_wp2_with fail
          refine (HC3.out _ HS4.out.keeps).mono ?_; rintro e w5 ⟨rfl, k5⟩
          have HS5 := hid ((HS4.out.step k5).new THit [.int .i64 R.1.task, .int .i64 R.1.frm, .int .i64 R.1.upto])
          clear k5 HS4 HC3
          go_wp2_with fail
          refine (HC4.out _ HS5.out.keeps).mono ?_; rintro e w6 ⟨rfl, k6⟩
          have hS6 := (HS5.out.step k6).new TH1 [.int .i64 R.1.task, .int .i64 R.1.frm, .int .i64 R.1.upto]
          simp only [Kw.red] at hS6
          have HS6 := hid hS6
          clear k6 HS5 HC4 hS6
          go_upto_region 22 with fail
          generalize w5.heap.size = h5 at *
          generalize w6.heap.size = h6 at *
          generalize (w6.alloc (.cells #[.int .i64 R.1.task, .int .i64 R.1.frm, .int .i64 R.1.upto] TH1)) = w7 at *
          have x0 := (HS6.out.blk 2).cell 0
          have x1 := (HS6.out.blk 2).cell 1
          have x2 := (HS6.out.blk 2).cell 2
          have y0 := (HS6.out.blk 3).cell 0
          have y1 := (HS6.out.blk 3).cell 1
          have y2 := (HS6.out.blk 3).cell 2
          simp only [List.getElem?_cons_zero, List.getElem?_cons_succ] at x0 x1 x2 y0 y1 y2
          have heq := fun w => eqHit w R.1 R.1
          rw [decide_eq_true rfl] at heq
          have hbn : (R.2 != R.2) = false := by simp
          go_wp2_with fail
          refine (HC5.out _ HS6.out.keeps).mono ?_; rintro e w10 ⟨rfl, k10⟩
          have HT0 := hid (HS6.out.step k10)
          clear k10 HS6 HC5
          go_wp2_with fail
          refine (HC6.out _ HT0.out.keeps).mono ?_; rintro e w11 ⟨rfl, k11⟩
          have HT1 := hid (HT0.out.step k11)
          clear k11 HT0 HC6
          go_wp2_with fail
          refine (HC7.out _ HT1.out.keeps).mono ?_; rintro e w12 ⟨rfl, k12⟩
          have HT2 := hid (HT1.out.step k12)
          clear k12 HT1 HC7
          go_wp2_with fail
          refine (HC8.out _ HT2.out.keeps).mono ?_; rintro e w13 ⟨rfl, k13⟩
          have HT3 := hid (HT2.out.step k13)
          clear k13 HT2 HC8
          go_wp2_with fail
          refine (HC9.out _ HT3.out.keeps).mono ?_; rintro e w14 ⟨rfl, k14⟩
          have HT4 := hid (HT3.out.step k14)
          clear k14 HT3 HC9
          go_wp2_with fail
          refine (HCa.out _ HT4.out.keeps).mono ?_; rintro e w15 ⟨rfl, k15⟩
          have HT5 := hid (HT4.out.step k15)
          clear k15 HT4 HCa
          go_wp2_with fail
          go_roundw
          case rel => exact ⟨j + 1, es ++ [(⟨ao, L.length, L, was⟩ : EntS)], by omega, by go_num, by simp [hel], by rw [heldS_app]; simp only; omega, fun e he => by
            rcases List.mem_append.1 he with he | he
            · exact hes e he
            · rw [List.mem_singleton.1 he]; simp only; omega, hid (HT5.out.sub [0, 1])⟩
          case measure => simp [intOf]; omega
    · have b0 : decide (j < 3) = false := decide_eq_false hlt
      have HG1 := hid (fun (w9 : World) (k9 : Keeps (fun _ => False) w1 w9) => greatest_any (Hy.out.keeps k9))
      have HG2 := hid (fun (w9 : World) (k9 : Keeps (fun _ => False) w1 w9) => greatestR_any (Hz.out.keeps k9))
      have HCr := hid (fun (w9 : World) (k9 : Keeps (fun _ => False) w w9) => admitruns_any hG (glob_new Hg.out k9))
      generalize greatest m = GG at *
      go_wp2_with fail
      refine (HG1.out _ HS.out.keeps).mono ?_; rintro e w2 ⟨rfl, k2⟩
      have HS1 := hid (HS.out.step k2)
      clear HS k2
      go_wp2_with fail
      refine (HG2.out _ HS1.out.keeps).mono ?_; rintro e w3 ⟨rfl, k3⟩
      have HS2 := hid (HS1.out.step k3)
      obtain ⟨F1, g1, _, _, bk⟩ := HS2.out.sel [0]
      have hAp := apartS_any (w := w3) (F := F1) (kb := kb) (es := es) g1 (by omega) hes
      have HAp := hid hAp
      clear HS1 k3 hAp g1
      go_wp2_with fail
      refine HAp.out.mono ?_; rintro e w4 ⟨rfl, hS⟩
      have hS := bk hS
      have K4 := hid (K1.out.trans hS.keeps)
      clear hS bk HAp HS2
      go_wp2_with fail
      refine (HCr.out _ K4.out).mono ?_; rintro e w5 ⟨rfl, k5⟩
      have K5 := hid (K4.out.trans k5)
      clear k5 K4
      go_wp2_with fail
      go_ret
      exact ⟨rfl, K5.out⟩
end
end Go.Proofs.YtnkjjhenfhnajaaGreatDoor
