/-
  CeilAdded, walked.
-/
import Derived.Test.YtdjgijndcjbpiaaGreatDoorUg
namespace Go.Proofs.YtdjgijndcjbpiaaGreatDoor
open Go.RowKit Go.Kw Go.Kreg Go.Tm
set_option linter.unusedSimpArgs false
set_option linter.unusedVariables false

theorem add_bad {m : TM} {x : Task} {n e : Int} {m' : TM} (h : m.add x = (n, e, m')) (he : e ≠ 0) : n = -1 := by
  unfold TM.add at h
  split at h
  · cases h; rfl
  · cases h; exact absurd rfl he
theorem add_good {m : TM} {x : Task} {n : Int} {m' : TM} (h : m.add x = (n, 0, m')) : n = m.ts.length ∧ m' = ⟨m.words, m.units, m.ts ++ [x]⟩ := by
  unfold TM.add at h
  split at h
  · rename_i hc
    simp only [Prod.mk.injEq] at h
    obtain ⟨_, h2, _⟩ := h
    rw [h2] at hc
    simp at hc
  · cases h; exact ⟨rfl, rfl⟩
section
variable {W w : World} {F : Nat → Prop}
set_option maxRecDepth 100000 in
set_option maxHeartbeats 8000000 in
theorem added_law (hG : Glob W) (hg : (glC W).holds F w) {uv lv : Value} {us : List Int} {l : List Task} (hu : SlIn w uv us) (hub : ∀ x ∈ us, big x) (hl : SlTk w lv l) (hnm : ∀ x ∈ l, x.name.size ≤ 9223372036854775807)
    {x : Task} {nd : Value} (hnd : SlNd w nd x.needs) (hxb : big x.level ∧ big x.frame ∧ big x.period ∧ big x.first ∧ big x.gap) (hxn : x.name.size ≤ 9223372036854775807) :
    Calls Tryz.prog 8 #[uv, lv, .agg #[.string x.name, .int .i64 x.level, .int .i64 x.frame, nd, .string x.code, .int .i64 x.period, .int .i64 x.first, .int .i64 x.gap]] w fun e w' => e = .returned (.bool true) ∧ Keeps (fun _ => False) w w' := by
  obtain ⟨na, nc, rfl, -⟩ := id hnd
  have hS := (St.of (Sts.one hg)).new TTk (taskL' x (.slice na x.needs.length nc))
  simp only [Kw.red] at hS
  have hk0 := (Keeps.refl (fun _ => False) w).alloc (.cells (taskL' x (.slice na x.needs.length nc)).toArray TTk)
  obtain ⟨F1, g1, _, _, bk⟩ := hS.sel [0]
  have g1' : Sts [glC W] F1 _ := g1
  have HT := hid (table_any hG (Sts.of_one g1') (hu.new hk0) (hl.new hk0) hnm)
  obtain ⟨ua, uc, rfl, -⟩ := id hu
  obtain ⟨la, lc, rfl, -⟩ := id hl
  have Hu := hid hu
  have Hl := hid hl
  have Hn := hid hnd
  have Hnm := hid hnm
  have hfew := tableM_few us l
  obtain ⟨m, hm⟩ : ∃ m, tableM us l = m := ⟨_, rfl⟩
  rw [hm] at hfew HT
  have HM := hid hm
  have Hg := hid hg
  have HS0 := hid hS
  clear hS g1 g1' hu hl hnd hnm hm hub hg hk0
  go_enter Tryz.func8, Tryz.ntmps8
  go_wp2_with fail
  refine HT.out.mono ?_; rintro e w1 ⟨p, q, rfl, hS⟩
  have hS := bk hS
  simp only [Kw.red] at hS
  have HS1 := hid hS
  have k1 := (glob_keeps Hg.out hS).1
  obtain ⟨F2, g2, _, _, bk2⟩ := hS.sel [0]
  have g2' : Sts [glC W] F2 _ := g2
  have ht2 := table_any hG (Sts.of_one g2') (Hu.out.new k1) (Hl.out.new k1) Hnm.out
  rw [HM.out] at ht2
  have HT2 := hid ht2
  clear hS g2 g2' ht2 bk HT HS0 k1
  go_wp2_with fail
  refine HT2.out.mono ?_; rintro e w2 ⟨p2, q2, rfl, hS⟩
  have hS := bk2 hS
  simp only [Kw.red] at hS
  have K2 := hid (glob_keeps Hg.out hS).1
  have hX := hS.blk 1
  obtain ⟨d0, d1, d2, d3, d4, d5, d6, d7, dz⟩ := cells8 hX
  have HS2 := hid (hS.sub [0, 4, 1, 2, 5])
  clear hS hX bk2 HT2 HS1 HM Hu Hl Hnm
  generalize w.heap.size = xb at *
  by_cases hcode : 5000 < x.code.size
  · have b2 : decide ((5000 : Int) < (x.code.size : Int)) = true := by simp; omega
    have HC := hid (ceilruns_any hG (glob_new Hg.out K2.out))
    go_wp2_with fail
    refine HC.out.mono ?_; rintro e w3 ⟨rfl, k3⟩
    have K3 := hid (K2.out.trans k3)
    clear k3
    go_wp2_with fail
    go_ret
    exact ⟨rfl, K3.out⟩
  · have b2 : decide ((5000 : Int) < (x.code.size : Int)) = false := by simp; omega
    by_cases hnl : 40 < x.needs.length
    · have b3 : decide ((40 : Int) < (x.needs.length : Int)) = true := by simp; omega
      have HC := hid (ceilruns_any hG (glob_new Hg.out K2.out))
      go_wp2_with fail
      refine HC.out.mono ?_; rintro e w3 ⟨rfl, k3⟩
      have K3 := hid (K2.out.trans k3)
      clear k3
      go_wp2_with fail
      go_ret
      exact ⟨rfl, K3.out⟩
    · have b3 : decide ((40 : Int) < (x.needs.length : Int)) = false := by simp; omega
      obtain ⟨⟨n3, e3, m3⟩, hadd⟩ : ∃ r, m.add x = r := ⟨_, rfl⟩
      have hS2 := HS2.out
      simp only [Kw.red] at hS2
      have HA := hid (add_st hG hS2 x (Hn.out.newer Hn.out K2.out fun _ => False.elim) hxb.2.1 hadd)
      have HAdd := hid hadd
      unfold taskV at HA
      clear hadd hS2 hcode hnl
      go_wp2_with fail
      refine HA.out.mono ?_; rintro r w3 ⟨rfl, hS3⟩
      have K3 := hid (glob_keeps Hg.out hS3).1
      have HS3 := hid hS3
      clear hS3 HA HS2 d0 d1 d2 d3 d4 d5 d6 d7 dz
      by_cases he : e3 = 0
      · subst he
        obtain ⟨hn, hm3⟩ := add_good HAdd.out
        subst hn
        subst hm3
        obtain ⟨xa, hxa⟩ := tab_at 3 HS3.out
        obtain ⟨xb3, hxb3⟩ := tab_at 1 HS3.out
        obtain ⟨yr, hyr⟩ := ref_at 4 HS3.out
        have HXA := hid hxa
        have HXB := hid hxb3
        have hok := hxa.tok.ok
        have hok3 := hxb3.tok.ok
        obtain ⟨-, c1, -, -⟩ := hyr.cells
        obtain ⟨ra, rc, euv⟩ := ref_ushape hyr
        rw [euv] at c1
        have C1 := hid c1
        have D1 := hid ((HS3.out.blk 2).cell 1)
        have hnx : ∀ r : Int, Tm.need (m.ts ++ [x]) m.ts.length r = needOf x.needs r := fun r => by
          unfold Tm.need
          rw [if_neg (by omega), Int.toNat_natCast, List.getElem?_append_right (Nat.le_refl _), Nat.sub_self]; rfl
        have HNX := hid hnx
        clear hxa hxb3 hyr c1 euv hnx HS3 HAdd
        go_wp2_with fail
        go_loopw [13] (fun i wr => ∃ k : Nat, k ≤ m.units.length ∧ i = .int .i64 k ∧ Keeps (fun _ => False) w3 wr) (fun i _ => m.units.length - (intOf i).toNat)
        case atStart => exact ⟨0, Nat.zero_le _, rfl, Keeps.refl _ _⟩
        case round =>
          obtain ⟨k, hk, rfl, hK⟩ := hrel
          have c1 := cellIn hK C1.out
          have KR := hid hK
          by_cases hlt : k < m.units.length
          · have b5 : decide (k < m.units.length) = true := by simpa using hlt
            have hh : m.has k := by unfold TM.has; omega
            have hh3 : (TM.mk m.words m.units (m.ts ++ [x])).has k := hh
            clear hK
            go_wp2_with fail
            refine (crow_any (HXA.out.keeps KR.out) k).mono ?_; rintro e w4 ⟨rv, rfl, hS4⟩
            have hlen := ceilRow_n hh
            have hat := fun j hj => ceilRow_at (m := m) hh (j := j) hj
            have hub := unitsOf_bd hok hh
            have hlen3 := ceilRow_n hh3
            have hat3 := fun j hj => ceilRow_at (m := TM.mk m.words m.units (m.ts ++ [x])) hh3 (j := j) hj
            have hun : (TM.mk m.words m.units (m.ts ++ [x])).unitsOf k = m.unitsOf k := rfl
            rw [hun] at hlen3 hat3
            obtain ⟨N, hN⟩ : ∃ N : Nat, m.unitsOf k = N := ⟨(m.unitsOf k).toNat, by omega⟩
            rw [hN] at hlen hat hub hlen3 hat3
            rw [Int.toNat_natCast] at hlen hat hlen3 hat3
            have ho := hS4.own 0
            rw [hlen] at ho
            obtain ⟨g4, cap4, e4, -⟩ := ho.form (by omega)
            subst e4
            have K4 := hid (KR.out.trans hS4.keeps)
            have HO := hid ho
            have Hat := hid hat
            have Hat3 := hid hat3
            have Hlen3 := hid hlen3
            clear hS4 ho hlen hat hat3 hlen3 hun hN c1
            go_wp2_with fail
            refine (crow_any (HXB.out.keeps K4.out) k).mono ?_; rintro e w5 ⟨rv, rfl, hS5⟩
            have ho2 := hS5.own 0
            rw [Hlen3.out] at ho2
            obtain ⟨g5, cap5, e5, -⟩ := ho2.form (by omega)
            subst e5
            have HR := hid (fun j hj => cellIn hS5.keeps (HO.out.cells' (g := g4) rfl (intsC_at (Hat.out j hj))))
            have HR3 := hid (fun j hj => ho2.cells' (g := g5) rfl (intsC_at (Hat3.out j hj)))
            have K5 := hid (K4.out.trans hS5.keeps)
            clear hS5 ho2 HO Hat Hat3 Hlen3
            have q1 : ((N : Int) + 1 != (N : Int) + 1) = false := by simp
            go_wp2_with fail
            clear q1
            go_loopw [16] (fun i wx => ∃ j : Nat, j ≤ N + 1 ∧ i = .int .i64 j ∧ Keeps (fun _ => False) w5 wx) (fun i _ => N + 1 - (intOf i).toNat)
            case atStart => exact ⟨0, Nat.zero_le _, rfl, Keeps.refl _ _⟩
            case round =>
              obtain ⟨j, hj, rfl, hK⟩ := hrel
              have KJ := hid hK
              by_cases hjl : j < N + 1
              · have b6 : decide ((j : Int) < (N : Int) + 1) = true := by simp; omega
                have i0 : (0 : Int) ≤ (j : Int) := by omega
                have i1 : (j : Int) < (N : Int) + 1 := by omega
                have da := cellIn hK (HR.out j (by omega))
                have db := cellIn hK (HR3.out j (by omega))
                have dl := cellIn ((K5.out.trans hK)) D1.out
                have hnd := need_any (HXB.out.keeps (K5.out.trans hK)) m.ts.length k
                rw [HNX.out] at hnd
                have hap := ceil0_app m.ts x k j
                rw [hap] at db
                have HN := hid hnd
                clear hnd hap hK
                generalize ceil0 m.ts k j = C at *
                generalize needOf x.needs k = NT at *
                have DA := hid da
                have DB := hid db
                have DL := hid dl
                clear db dl
                by_cases hN : (j : Int) < NT
                · have n1 : decide ((j : Int) < NT) = true := by simpa using hN
                  have db := DB.out
                  rw [if_pos hN] at db
                  by_cases hC : C < x.level
                  · have n2 : decide (C < x.level) = true := by simpa using hC
                    rw [show max C x.level = x.level by omega] at db
                    have DB2 := hid db
                    clear hN hC db
                    go_wp2_with fail
                    refine HN.out.mono ?_; rintro e w6 ⟨rfl, k6⟩
                    have dl := cellIn k6 DL.out
                    have db := cellIn k6 DB2.out
                    have K6 := hid (KJ.out.trans k6)
                    clear k6 da
                    go_wp2_with fail
                    go_roundw
                    case rel => exact ⟨j + 1, by omega, by go_num, K6.out⟩
                    case measure => simp [intOf]; omega
                  · have n2 : decide (C < x.level) = false := by simpa using hC
                    rw [show max C x.level = C by omega] at db
                    have DB2 := hid db
                    clear hN hC db
                    go_wp2_with fail
                    refine HN.out.mono ?_; rintro e w6 ⟨rfl, k6⟩
                    have dl := cellIn k6 DL.out
                    have db := cellIn k6 DB2.out
                    have K6 := hid (KJ.out.trans k6)
                    clear k6 da
                    go_wp2_with fail
                    go_roundw
                    case rel => exact ⟨j + 1, by omega, by go_num, K6.out⟩
                    case measure => simp [intOf]; omega
                · have n1 : decide ((j : Int) < NT) = false := by simpa using hN
                  have db := DB.out
                  rw [if_neg hN] at db
                  have DB2 := hid db
                  clear hN db
                  go_wp2_with fail
                  refine HN.out.mono ?_; rintro e w6 ⟨rfl, k6⟩
                  have dl := cellIn k6 DL.out
                  have db := cellIn k6 DB2.out
                  have K6 := hid (KJ.out.trans k6)
                  clear k6 da
                  go_wp2_with fail
                  go_roundw
                  case rel => exact ⟨j + 1, by omega, by go_num, K6.out⟩
                  case measure => simp [intOf]; omega
              · have b6 : decide ((j : Int) < (N : Int) + 1) = false := by simp; omega
                clear hK
                go_wp2_with fail
                go_roundw
                case rel => exact ⟨k + 1, by omega, by go_num, K5.out.trans KJ.out⟩
                case measure => simp [intOf]; omega
          · have b5 : decide (k < m.units.length) = false := by simpa using hlt
            have HC := hid (ceilruns_any hG (glob_new Hg.out (K3.out.trans hK)))
            clear hK
            go_wp2_with fail
            refine HC.out.mono ?_; rintro e w4 ⟨rfl, k4⟩
            have K4 := hid ((K3.out.trans KR.out).trans k4)
            clear k4
            go_wp2_with fail
            go_ret
            exact ⟨rfl, K4.out⟩
      · have hn := add_bad HAdd.out he
        subst hn
        have b4 : (e3 != 0) = true := by simpa using he
        have HC := hid (ceilruns_any hG (glob_new Hg.out K3.out))
        clear he
        go_wp2_with fail
        refine HC.out.mono ?_; rintro e w4 ⟨rfl, k4⟩
        have K4 := hid (K3.out.trans k4)
        clear k4
        go_wp2_with fail
        go_ret
        exact ⟨rfl, K4.out⟩
end
end Go.Proofs.YtdjgijndcjbpiaaGreatDoor
