/-
  keelref11.Sure, walked.
-/
import Derived.Test.YtnkjjhenfhnajaaGreatDoorG36
import Derived.Test.YtnkjjhenfhnajaaGreatDoorG28
namespace Go.Proofs.YtnkjjhenfhnajaaGreatDoor
open Go.RowKit Go.Kw Go.Kreg Go.Tm Go.Ad Go.Um
set_option linter.unusedSimpArgs false
set_option linter.unusedVariables false

abbrev TH1 : Nat := 73
theorem sizeH1 : (Tryz.prog.info? TH1).map (·.size) = some 3 := by kernel_rfl
section
variable {w : World} {p : Nat} {m : TM} {y : RefX}
set_option maxRecDepth 100000 in
set_option maxHeartbeats 8000000 in
theorem sureR_any (h : RefAt w p m y) (id : Int) : Calls Tryz.prog 31 #[.pointer (some ⟨p, 0, none⟩), .int .i64 id] w fun e w' => e = .returned (.tuple #[.agg #[.int .i64 (sure m id).1.task, .int .i64 (sure m id).1.frm, .int .i64 (sure m id).1.upto], .bool (sure m id).2]) ∧ Keeps (fun _ => False) w w' := by
  have hm := h.tok.ok
  rw [sure_eq, lev_ref hm, lows_ref hm]
  have hlen := h.few
  obtain ⟨lev, hlev⟩ : ∃ lev, levI m.ts id = lev := ⟨_, rfl⟩
  rw [hlev]
  have H := hid h
  have HL := hid (fun (w9 : World) (k9 : Keeps (fun _ => False) w w9) => by have := levelR_any (h.keeps k9) id; rwa [hlev] at this)
  clear h hlev
  obtain ⟨RF, hRF⟩ : ∃ RF, sureFrom m lev (lowsTo lev m.ts m.ts.length) = RF := ⟨_, rfl⟩
  rw [hRF]
  have HRF := hid hRF
  clear hRF
  have hS := ((St.start w).new TH1 zHit).new TH1 zHit
  simp only [World.size_alloc] at hS
  simp only [Kw.red] at hS
  have HS := hid hS
  clear hS
  go_enter Tryz.func31, Tryz.ntmps31
  go_wp2_with fail
  generalize w.heap.size + 1 = h6 at *
  generalize w.heap.size = r4 at *
  go_loopw [7, 8] (fun f i wr => ∃ (j : Nat) (R : Ad.Hit × Bool), j ≤ m.ts.length ∧ i = .int .i64 j ∧ f = .bool R.2 ∧ sureFrom m lev (lowsTo lev m.ts j) = R ∧ (0 ≤ R.1.frm ∧ R.1.frm ≤ R.1.upto ∧ R.1.upto ≤ 4096) ∧ Hid (St (fun _ => False) w [.pt r4 TH1 zHit, .pt h6 TH1 [.int .i64 R.1.task, .int .i64 R.1.frm, .int .i64 R.1.upto]] wr)) (fun _ i _ => m.ts.length - (intOf i).toNat)
  case atStart => exact ⟨0, (⟨0, 0, 0⟩, false), Nat.zero_le _, rfl, rfl, rfl, ⟨by decide, by decide, by decide⟩, hid HS.out⟩
  case round =>
    clear HS
    obtain ⟨j, R, hj, rfl, rfl, hsu, hbd, HS⟩ := hrel
    have hR := H.out.keeps HS.out.keeps
    obtain ⟨c0, c1, c2, cz⟩ := hR.cells
    obtain ⟨ta, tc, etv⟩ := ref_shape hR
    rw [etv] at c2
    by_cases hlt : j < m.ts.length
    · have b0 : decide (j < m.ts.length) = true := decide_eq_true hlt
      have ht := List.getElem?_eq_getElem hlt
      generalize m.ts[j] = t at ht
      have Ht := hid ht
      have hsf := secs_few hm ht
      have HSec := hid (sectionsR_in hR ht)
      have i0 : (0 : Int) ≤ (j : Int) := by omega
      have i1 : (j : Int) < (m.ts.length : Int) := by omega
      have hlow := accL_all (lev := lev) ht
      have hac0 := accL_0 lev m.ts t j
      have hacs := fun (k : Nat) (s : Sec) (hs : (secsOf t)[k]? = some s) => accL_step (lev := lev) (ts := m.ts) (j := j) hs
      rw [← hac0] at hsu
      have Hlow := hid hlow
      have Hacs := hid hacs
      have Etv := hid etv
      have Hsu := hid hsu
      have Hbd := hid hbd
      clear hR etv ht hlow hacs hac0 hsu hbd
      go_wp2_with fail
      refine HSec.out.mono ?_; rintro e w2 ⟨v, rfl, hS⟩
      have hS := HS.out.adds hS
      simp only [Kw.red] at hS
      obtain ⟨la, lc, rfl, -⟩ := (hS.own 2).shape
      have HS2 := hid hS
      clear hS HSec c0 c1 c2 cz HS
      go_wp2_with fail
      go_loopw [7, 10] (fun f i wy => ∃ (k : Nat) (R : Ad.Hit × Bool), k ≤ (secsOf t).length ∧ i = .int .i64 k ∧ f = .bool R.2 ∧ sureFrom m lev (accL lev m.ts t j k) = R ∧ (0 ≤ R.1.frm ∧ R.1.frm ≤ R.1.upto ∧ R.1.upto ≤ 4096) ∧ Hid (St (fun _ => False) w [.pt r4 TH1 zHit, .pt h6 TH1 [.int .i64 R.1.task, .int .i64 R.1.frm, .int .i64 R.1.upto], .row TS1 5 (.slice la (secsOf t).length lc) (secsOf t).length (secsC (secsOf t))] wy)) (fun _ i _ => (secsOf t).length - (intOf i).toNat)
      case atStart => exact ⟨0, R, Nat.zero_le _, rfl, rfl, Hsu.out, Hbd.out, hid HS2.out⟩
      case round =>
        clear HS2 Hsu Hbd
        obtain ⟨k, R, hk, rfl, rfl, hsu, hbd, HS⟩ := hrel
        have hS := HS.out
        by_cases hkl : k < (secsOf t).length
        · have n0 : decide (k < (secsOf t).length) = true := decide_eq_true hkl
          have hs := List.getElem?_eq_getElem hkl
          have hsm := List.getElem_mem hkl
          generalize (secsOf t)[k] = s at hs hsm
          have hq := Hacs.out k s hs
          obtain ⟨hb1, hb2⟩ := lenP_bd hm Ht.out hsm
          obtain ⟨hh, hd1, hd2⟩ := sec_has hm (List.mem_of_getElem? Ht.out) hsm
          have hub := unitsOf_bd hm hh
          obtain ⟨q, hqq⟩ := Int.eq_ofNat_of_zero_le hh.1
          have hqn : q < m.units.length := by have := hh.2; omega
          have hun : m.units[q]? = some (m.unitsOf s.res) := by
            unfold TM.unitsOf
            rw [hqq, Int.toNat_natCast, List.getD_eq_getElem?_getD, List.getElem?_eq_getElem hqn]; rfl
          have hga : sureFrom m lev (accL lev m.ts t j k ++ [(j, s)]) = if sureP m lev s = true ∧ (R.2 = false ∨ R.1.upto - R.1.frm < (s.upto : Int) - s.frm) then (⟨j, s.frm, s.upto⟩, true) else R := by rw [sureFrom_app, hsu]; rfl
          obtain ⟨gs, gcp, e9, -⟩ := (hS.own 2).form (by omega)
          cases e9
          obtain ⟨e0, e1, e2, e3, e4⟩ := secsC_at hs
          have s0 := (hS.own 2).cells' (g := gs) rfl e0
          have s1 := (hS.own 2).cells' (g := gs) rfl e1
          have s2 := (hS.own 2).cells' (g := gs) rfl e2
          have s3 := (hS.own 2).cells' (g := gs) rfl e3
          have s4 := (hS.own 2).cells' (g := gs) rfl e4
          rw [hqq] at s0
          have hS1 := hS.new TS1 [.int .i64 (q : Int), .int .i64 s.units, .int .i64 s.held, .int .i64 s.frm, .int .i64 s.upto]
          simp only [Kw.red] at hS1
          have HS1 := hid hS1
          have j0 : (0 : Int) ≤ (k : Int) := by omega
          have j1 : (k : Int) < ((secsOf t).length : Int) := by omega
          have hPP : sureP m lev s = decide (lev ≤ m.ceilAt (q : Int) (m.unitsOf s.res - s.held)) := by rw [← hqq]; rfl
          rw [hPP] at hga
          have hwu : IntKind.i64.wrap (m.unitsOf s.res - s.held) = m.unitsOf s.res - s.held := IntWalk.i64_in _ (by omega)
          have hwp : IntKind.i64.wrap ((s.upto : Int) - s.frm) = (s.upto : Int) - s.frm := IntWalk.i64_in _ (by omega)
          obtain ⟨hbd0, hbd1, hbd2⟩ := hbd
          obtain ⟨⟨RT, RF1, RU⟩, RB⟩ := R
          simp only at hbd0 hbd1 hbd2 hsu hga HS HS1 ⊢
          have hwr : IntKind.i64.wrap (RU - RF1) = RU - RF1 := IntWalk.i64_in _ (by omega)
          generalize hUH : m.unitsOf s.res - s.held = UH at *
          have k0 : (0 : Int) ≤ (q : Int) := by omega
          have k1 : (q : Int) < (m.units.length : Int) := by omega
          clear hS hs hsm e0 e1 e2 e3 e4 hS1 hh hqq hPP
          go_upto_region 11 with fail
          generalize wr.heap.size = xb at *
          generalize (wr.alloc (.cells #[.int .i64 (q : Int), .int .i64 s.units, .int .i64 s.held, .int .i64 s.frm, .int .i64 s.upto] TS1)) = wx at *
          have x0 := (HS1.out.blk 3).cell 0
          have x2 := (HS1.out.blk 3).cell 2
          have x3 := (HS1.out.blk 3).cell 3
          have x4 := (HS1.out.blk 3).cell 4
          have y1 := (HS1.out.blk 1).cell 1
          have y2 := (HS1.out.blk 1).cell 2
          simp only [List.getElem?_cons_zero, List.getElem?_cons_succ] at x0 x2 x3 x4 y1 y2
          have hRy := H.out.keeps HS1.out.keeps
          obtain ⟨c0, c1, c2, cz⟩ := hRy.cells
          rw [Etv.out] at c2
          obtain ⟨g, cap, na, nc, e, ⟨d0, d1, d2, d3, d4, d5, d6, d7⟩, hown⟩ := ref_task hRy Ht.out
          rw [Etv.out] at e
          cases e
          obtain ⟨gu, gcu, eu, -⟩ := hRy.units.form (by omega)
          have ho := hRy.units
          rw [eu] at ho c1
          have v0 := ho.cells' (g := gu) rfl (intsC_at hun)
          have HLy := hid (fun u => HL.out (wx.drewN u) (HS1.out.keeps.drewN u))
          have HC := hid (fun u => atR_any (hRy.keeps ((Keeps.refl _ _).drewN u)) (q : Int) UH)
          generalize m.ceilAt (q : Int) UH = CE at *
          clear hRy hown eu ho hun HS s0 s1 s2 s3 s4
          by_cases hl : t.level < lev
          · have n1 : decide (t.level < lev) = true := decide_eq_true hl
            rw [if_pos hl] at hq
            rw [← hq] at hga
            clear hq hl
            by_cases hc : lev ≤ CE
            · have n2 : decide (lev ≤ CE) = true := decide_eq_true hc
              rw [n2] at hga
              clear hc
              cases RB with
              | false =>
                rw [if_pos ⟨rfl, .inl rfl⟩] at hga
                have Hq := hid hga
                clear hga hsu
                go_quiet (first | exact (HC.out _).mono fun e w' h => ⟨h.1, _, h.2.symm⟩ | exact (HLy.out _).mono fun e w' h => ⟨h.1, _, h.2.symm⟩)
                go_wp2_with (refine wpList_storeS 1 TH1 _ _ rfl rfl [.int .i64 j, .int .i64 s.frm, .int .i64 s.upto] (HS1.out.drewN _) rfl rfl rfl sizeH1 rfl (by intro u hu; simp only [List.mem_cons, List.not_mem_nil, or_false] at hu; rcases hu with rfl | rfl | rfl <;> rfl) ?_; intro w9 hS9; simp only [Kw.red] at hS9; have HS9 := hid (hS9.sub [0, 1, 2]); clear hS9)
                go_roundw
                case rel => exact ⟨k + 1, (⟨j, s.frm, s.upto⟩, true), by omega, by go_num, rfl, Hq.out, ⟨by simp only; omega, by simp only; omega, by simp only; omega⟩, HS9⟩
                case measure => simp [intOf]; omega
              | true =>
                by_cases hb : RU - RF1 < (s.upto : Int) - s.frm
                · have n3 : decide (RU - RF1 < (s.upto : Int) - s.frm) = true := decide_eq_true hb
                  rw [if_pos ⟨rfl, .inr hb⟩] at hga
                  have Hq := hid hga
                  clear hga hsu hb
                  go_quiet (first | exact (HC.out _).mono fun e w' h => ⟨h.1, _, h.2.symm⟩ | exact (HLy.out _).mono fun e w' h => ⟨h.1, _, h.2.symm⟩)
                  go_wp2_with (refine wpList_storeS 1 TH1 _ _ rfl rfl [.int .i64 j, .int .i64 s.frm, .int .i64 s.upto] (HS1.out.drewN _) rfl rfl rfl sizeH1 rfl (by intro u hu; simp only [List.mem_cons, List.not_mem_nil, or_false] at hu; rcases hu with rfl | rfl | rfl <;> rfl) ?_; intro w9 hS9; simp only [Kw.red] at hS9; have HS9 := hid (hS9.sub [0, 1, 2]); clear hS9)
                  go_roundw
                  case rel => exact ⟨k + 1, (⟨j, s.frm, s.upto⟩, true), by omega, by go_num, rfl, Hq.out, ⟨by simp only; omega, by simp only; omega, by simp only; omega⟩, HS9⟩
                  case measure => simp [intOf]; omega
                · have n3 : decide (RU - RF1 < (s.upto : Int) - s.frm) = false := decide_eq_false hb
                  rw [if_neg (fun e => e.2.elim (fun e => by cases e) hb)] at hga
                  have Hq := hid hga
                  clear hga hsu hb
                  go_quiet (first | exact (HC.out _).mono fun e w' h => ⟨h.1, _, h.2.symm⟩ | exact (HLy.out _).mono fun e w' h => ⟨h.1, _, h.2.symm⟩)
                  go_wp2_with fail
                  go_roundw
                  case rel => exact ⟨k + 1, (⟨RT, RF1, RU⟩, _), by omega, by go_num, rfl, Hq.out, ⟨by simp only; omega, by simp only; omega, by simp only; omega⟩, hid ((HS1.out.sub [0, 1, 2]).drewN _)⟩
                  case measure => simp [intOf]; omega
            · have n2 : decide (lev ≤ CE) = false := decide_eq_false hc
              rw [n2, if_neg (fun e => by cases e.1)] at hga
              have Hq := hid hga
              clear hga hsu hc
              go_quiet (first | exact (HC.out _).mono fun e w' h => ⟨h.1, _, h.2.symm⟩ | exact (HLy.out _).mono fun e w' h => ⟨h.1, _, h.2.symm⟩)
              go_wp2_with fail
              go_roundw
              case rel => exact ⟨k + 1, (⟨RT, RF1, RU⟩, _), by omega, by go_num, rfl, Hq.out, ⟨by simp only; omega, by simp only; omega, by simp only; omega⟩, hid ((HS1.out.sub [0, 1, 2]).drewN _)⟩
              case measure => simp [intOf]; omega
          · have n1 : decide (t.level < lev) = false := decide_eq_false hl
            rw [if_neg hl] at hq
            rw [← hq] at hsu
            have Hq := hid hsu
            clear hga hsu hl hq
            go_quiet (first | exact (HC.out _).mono fun e w' h => ⟨h.1, _, h.2.symm⟩ | exact (HLy.out _).mono fun e w' h => ⟨h.1, _, h.2.symm⟩)
            go_wp2_with fail
            go_roundw
            case rel => exact ⟨k + 1, (⟨RT, RF1, RU⟩, _), by omega, by go_num, rfl, Hq.out, ⟨by simp only; omega, by simp only; omega, by simp only; omega⟩, hid ((HS1.out.sub [0, 1, 2]).drewN _)⟩
            case measure => simp [intOf]; omega
        · have n0 : decide (k < (secsOf t).length) = false := decide_eq_false hkl
          have hkk : k = (secsOf t).length := by omega
          subst hkk
          rw [Hlow.out] at hsu
          have Hsu := hid hsu
          have Hbd := hid hbd
          have KS := hid (HS.out.sub [0, 1])
          clear hS HS hsu hbd
          go_wp2_with fail
          go_roundw
          case rel => exact ⟨j + 1, R, by omega, by go_num, rfl, Hsu.out, Hbd.out, KS⟩
          case measure => simp [intOf]; omega
    · have b0 : decide (j < m.ts.length) = false := decide_eq_false hlt
      have hjj : j = m.ts.length := by omega
      subst hjj
      obtain rfl : RF = R := by rw [← HRF.out, hsu]
      have g0 := (HS.out.blk 1).cell 0
      have g1 := (HS.out.blk 1).cell 1
      have g2 := (HS.out.blk 1).cell 2
      simp only [List.getElem?_cons_zero, List.getElem?_cons_succ] at g0 g1 g2
      clear hR etv hsu hbd
      go_wp2_with (refine wpList_storeS 0 TH1 _ _ rfl rfl [.int .i64 RF.1.task, .int .i64 RF.1.frm, .int .i64 RF.1.upto] HS.out rfl rfl rfl sizeH1 rfl (by intro u hu; simp only [List.mem_cons, List.not_mem_nil, or_false] at hu; rcases hu with rfl | rfl | rfl <;> rfl) ?_; intro w9 hS9; simp only [Kw.red] at hS9; have f0 := (hS9.blk 0).cell 0; have f1 := (hS9.blk 0).cell 1; have f2 := (hS9.blk 0).cell 2; simp only [List.getElem?_cons_zero, List.getElem?_cons_succ] at f0 f1 f2)
      refine bodyPost_ret (v := .tuple #[.agg #[.int .i64 RF.1.task, .int .i64 RF.1.frm, .int .i64 RF.1.upto], .bool RF.2]) (by simp [results, Tryz.results31, go_sem, f0, f1, f2]) rfl ?_
      exact ⟨rfl, hS9.keeps⟩
end
end Go.Proofs.YtnkjjhenfhnajaaGreatDoor
