/-
  RespondLower, walked.
-/
import Derived.Test.YtnkjjhenfhnajaaGreatDoorEh
import Derived.Test.YtnkjjhenfhnajaaGreatDoorG29
import Derived.Test.YtnkjjhenfhnajaaGreatDoorBm
namespace Go.Proofs.YtnkjjhenfhnajaaGreatDoor
open Go.RowKit Go.Kw Go.Kreg Go.Tm Go.Ad
set_option linter.unusedSimpArgs false
set_option linter.unusedVariables false

theorem addGood {m : TM} {x : Task} {n : Int} {m' : TM} (h : m.add x = (n, 0, m')) : n = m.ts.length ∧ m' = ⟨m.words, m.units, m.ts ++ [x]⟩ := by
  unfold TM.add at h
  split at h
  · rename_i hc
    simp only [Prod.mk.injEq] at h
    obtain ⟨_, h2, _⟩ := h
    rw [h2] at hc
    simp at hc
  · cases h; exact ⟨rfl, rfl⟩
section
variable {W w : World} {F : Nat → Prop}
set_option maxRecDepth 100000 in
set_option maxHeartbeats 8000000 in
theorem lower_law (hG : Glob W) (hg : (glC W).holds F w) {W0 : Int} {uv tv : Value} {us : List Int} {ts : List Task} (hu : SlIm w uv us) (ht : SlTk w tv ts) (hnm : ∀ x ∈ ts, x.name.size ≤ 9223372036854775807)
    {x : Task} {nd : Value} (hnd : SlNd w nd x.needs) (hxb : big x.level ∧ big x.frame ∧ big x.period ∧ big x.first ∧ big x.gap) (hxn : x.name.size ≤ 9223372036854775807) :
    Calls Tryz.prog 8 #[.agg #[.int .i64 W0, uv, tv], .agg #[.string x.name, .int .i64 x.level, .int .i64 x.frame, nd, .string x.code, .int .i64 x.period, .int .i64 x.first, .int .i64 x.gap]] w fun e w' => e = .returned (.bool true) ∧ Keeps (fun _ => False) w w' := by
  obtain ⟨na, nc, rfl, -⟩ := id hnd
  have hS := ((St.of (Sts.one hg)).new TSet [.int .i64 W0, uv, tv]).new TTk (taskL' x (.slice na x.needs.length nc))
  simp only [World.size_alloc] at hS
  simp only [Kw.red] at hS
  have hk0 := (glob_keeps hg hS).1
  obtain ⟨F1, g1, _, _, bk⟩ := hS.sel [0]
  have g1' : Sts [glC W] F1 _ := g1
  have HT := hid (make_any (W0 := W0) hG (Sts.of_one g1') (hu.new hk0) (ht.new hk0) hnm)
  have hok := setM_ok W0 us ts
  have hlen := setM_len W0 us ts
  obtain ⟨ua, uc, rfl, -⟩ := id hu
  obtain ⟨la, lc, rfl, -⟩ := id ht
  have Hu := hid hu
  have Hl := hid ht
  have Hn := hid hnd
  have Hnm := hid hnm
  obtain ⟨m, hm⟩ : ∃ m, setM W0 us ts = m := ⟨_, rfl⟩
  rw [hm] at hok hlen HT
  have HM := hid hm
  have Hok := hid hok
  have Hg := hid hg
  have HS0 := hid hS
  clear hS g1 g1' hu ht hnd hnm hm hok hg hk0
  go_enter Tryz.func8, Tryz.ntmps8
  go_wp2_with fail
  refine HT.out.mono ?_; rintro e w1 ⟨p, q, rfl, hS⟩
  have hS := bk hS
  simp only [Kw.red] at hS
  have k1 := (glob_keeps Hg.out hS).1
  have c0 := (hS.blk 1).cell 0
  have c1 := (hS.blk 1).cell 1
  have c2 := (hS.blk 1).cell 2
  simp only [List.getElem?_cons_zero, List.getElem?_cons_succ] at c0 c1 c2
  obtain ⟨F2, g2, _, _, bk2⟩ := hS.sel [0]
  have g2' : Sts [glC W] F2 _ := g2
  have ht2 := make_any (W0 := W0) hG (Sts.of_one g2') (Hu.out.new k1) (Hl.out.new k1) Hnm.out
  rw [HM.out] at ht2
  have HT2 := hid ht2
  clear hS g2 g2' ht2 bk HT HS0 k1
  go_wp2_with fail
  refine HT2.out.mono ?_; rintro e w2 ⟨p2, q2, rfl, hS⟩
  have hS := bk2 hS
  simp only [Kw.red] at hS
  have K2 := hid (glob_keeps Hg.out hS).1
  have hX := hS.blk 2
  obtain ⟨d0, d1, d2, d3, d4, d5, d6, d7, dz⟩ := cells8 hX
  obtain ⟨z1, hz1⟩ := ref_at 4 hS
  have HV := hid (heavy_any hz1)
  have HS2 := hid (hS.sub [0, 5, 2, 3])
  clear hS hX bk2 hz1 HT2 HM Hu Hl Hnm c0 c1 c2
  generalize w.heap.size + 1 = xb at *
  by_cases hcode : 4096 < x.code.size
  · have b2 : decide ((4096 : Int) < (x.code.size : Int)) = true := by simp; omega
    clear hcode
    have HC := hid (runs12_any hG (glob_new Hg.out K2.out))
    go_wp2_with fail
    refine HC.out.mono ?_; rintro e w9 ⟨rfl, k9⟩
    have K9 := hid (K2.out.trans k9)
    clear k9 HC
    go_wp2_with fail
    go_ret
    exact ⟨rfl, K9.out⟩
  · have b2 : decide ((4096 : Int) < (x.code.size : Int)) = false := by simp; omega
    by_cases hnl : 20 < x.needs.length
    · have b3 : decide ((20 : Int) < (x.needs.length : Int)) = true := by simp; omega
      clear hcode hnl
      have HC := hid (runs12_any hG (glob_new Hg.out K2.out))
      go_wp2_with fail
      refine HC.out.mono ?_; rintro e w9 ⟨rfl, k9⟩
      have K9 := hid (K2.out.trans k9)
      clear k9 HC
      go_wp2_with fail
      go_ret
      exact ⟨rfl, K9.out⟩
    · have b3 : decide ((20 : Int) < (x.needs.length : Int)) = false := by simp; omega
      clear hcode hnl
      cases hv : heavyM m.ts with
      | true =>
        rw [hv] at HV
        clear hv
        go_wp2_with fail
        refine HV.out.mono ?_; rintro e w3 ⟨rfl, rfl⟩
        have HC := hid (runs12_any hG (glob_new Hg.out K2.out))
        go_wp2_with fail
        refine HC.out.mono ?_; rintro e w9 ⟨rfl, k9⟩
        have K9 := hid (K2.out.trans k9)
        clear k9 HC
        go_wp2_with fail
        go_ret
        exact ⟨rfl, K9.out⟩
      | false =>
        rw [hv] at HV
        clear hv
        by_cases hp : 20000 < x.period
        · have b4 : decide (20000 < x.period) = true := by simpa using hp
          clear hp
          go_wp2_with fail
          refine HV.out.mono ?_; rintro e w3 ⟨rfl, rfl⟩
          have HC := hid (runs12_any hG (glob_new Hg.out K2.out))
          go_wp2_with fail
          refine HC.out.mono ?_; rintro e w9 ⟨rfl, k9⟩
          have K9 := hid (K2.out.trans k9)
          clear k9 HC
          go_wp2_with fail
          go_ret
          exact ⟨rfl, K9.out⟩
        have b4 : decide (20000 < x.period) = false := by simpa using hp
        by_cases hq : 20000 < x.gap
        · have b5 : decide (20000 < x.gap) = true := by simpa using hq
          clear hp hq
          go_wp2_with fail
          refine HV.out.mono ?_; rintro e w3 ⟨rfl, rfl⟩
          have HC := hid (runs12_any hG (glob_new Hg.out K2.out))
          go_wp2_with fail
          refine HC.out.mono ?_; rintro e w9 ⟨rfl, k9⟩
          have K9 := hid (K2.out.trans k9)
          clear k9 HC
          go_wp2_with fail
          go_ret
          exact ⟨rfl, K9.out⟩
        have b5 : decide (20000 < x.gap) = false := by simpa using hq
        clear hp hq
        obtain ⟨⟨n3, e3, m3⟩, hadd⟩ : ∃ r, m.add x = r := ⟨_, rfl⟩
        have hS2 := HS2.out
        simp only [Kw.red] at hS2
        have HA := hid (addSt hG hS2 x (Hn.out.newer Hn.out K2.out fun _ => False.elim) hxb.2.1 hadd)
        have HAdd := hid hadd
        have hok3 := TM.add_ok Hok.out x
        rw [hadd] at hok3
        unfold taskV at HA
        clear hadd hS2
        go_wp2_with fail
        refine HV.out.mono ?_; rintro e w3 ⟨rfl, rfl⟩
        clear HV
        go_wp2_with fail
        refine HA.out.mono ?_; rintro r w3 ⟨rfl, hS3⟩
        have K3 := hid (glob_keeps Hg.out hS3).1
        have HS3 := hid hS3
        clear hS3 HA HS2 d0 d1 d2 d3 d4 d5 d6 d7 dz
        by_cases he : e3 = 0
        · subst he
          obtain ⟨hn, hm3⟩ := addGood HAdd.out
          subst hn
          subst hm3
          obtain ⟨y1, hy1⟩ := tab_at 3 HS3.out
          obtain ⟨y2, hy2⟩ := tab_at 1 HS3.out
          have HY1 := hid hy1
          have HY2 := hid hy2
          have Hok3 := hid hok3
          have xl0 : w3.cell? ⟨xb, 1, none⟩ = some (.int .i64 x.level) := (HS3.out.blk 2).cell 1
          have XL := hid xl0
          clear hy1 hy2 xl0 HS3 HAdd hok3
          go_wp2_with fail
          go_loopw [13] (fun y wx => ∃ i : Nat, i ≤ m.ts.length ∧ y = .int .i64 i ∧ Keeps (fun _ => False) w3 wx) (fun y _ => m.ts.length - (intOf y).toNat)
          case atStart => exact ⟨0, Nat.zero_le _, rfl, Keeps.refl _ _⟩
          case round =>
            obtain ⟨i, hi, rfl, hK⟩ := hrel
            have KR := hid hK
            have HLn := hid (tlen_any (HY1.out.keeps hK))
            clear hK
            go_wp2_with fail
            refine HLn.out.mono ?_; rintro e w5 ⟨rfl, rfl⟩
            clear HLn
            by_cases hil : i < m.ts.length
            · have a2 : decide (i < m.ts.length) = true := by simpa using hil
              have ht := List.getElem?_eq_getElem hil
              have HG := hid (get_in (HY1.out.keeps KR.out) ht)
              have hlow := fun h1 h2 => worst_lower (x := x) (in_some ht) (by omega) h1 h2
              generalize m.ts[i] = t at *
              have Hlow := hid hlow
              unfold taskV at HG
              clear ht hlow
              go_wp2_with fail
              refine HG.out.mono ?_; rintro e w6 ⟨gt, rfl, hS6⟩
              have HT6 := hid (((St.start wr).step hS6.keeps).new TTk [.string t.name, .int .i64 t.level, .int .i64 t.frame, .slice (some ⟨gt, 0, none⟩) t.needs.length t.needs.length, .string t.code, .int .i64 t.period, .int .i64 t.first, .int .i64 t.gap])
              clear hS6 HG
              go_upto_region 14 with fail
              generalize w6.heap.size = tb at *
              generalize w6.alloc (.cells #[.string t.name, .int .i64 t.level, .int .i64 t.frame, .slice (some ⟨gt, 0, none⟩) t.needs.length t.needs.length, .string t.code, .int .i64 t.period, .int .i64 t.first, .int .i64 t.gap] TTk) = w7 at *
              have tl : w7.cell? ⟨tb, 1, none⟩ = some (.int .i64 t.level) := (HT6.out.blk 0).cell 1
              have K7 := hid (KR.out.trans HT6.out.keeps)
              have xl := cellIn K7.out XL.out
              clear HT6 KR
              by_cases hle : t.level ≤ x.level
              · have c1 : decide (t.level ≤ x.level) = true := by simpa using hle
                clear hle
                go_wp2_with fail
                go_roundw
                case rel => exact ⟨i + 1, by omega, by go_num, K7.out⟩
                case measure => simp [intOf]; omega
              have c1 : decide (t.level ≤ x.level) = false := by simpa using hle
              have hlt := Int.not_le.1 hle
              have HTa := hid (term_any (HY1.out.keeps K7.out) i)
              have HTb := hid (fun (w9 : World) (k9 : Keeps (fun _ => False) w3 w9) => term_any (HY2.out.keeps k9) i)
              have HWa := hid (fun (w9 : World) (k9 : Keeps (fun _ => False) w3 w9) => worst_any Hok.out (HY1.out.keeps k9) i)
              have HWb := hid (fun (w9 : World) (k9 : Keeps (fun _ => False) w3 w9) => worst_any Hok3.out (HY2.out.keeps k9) i)
              have hlow := Hlow.out hlt
              obtain ⟨TA, hTA⟩ : ∃ TA, term m i = TA := ⟨_, rfl⟩
              obtain ⟨TB, hTB⟩ : ∃ TB, term ⟨m.words, m.units, m.ts ++ [x]⟩ i = TB := ⟨_, rfl⟩
              rw [hTA] at HTa hlow
              rw [hTB] at HTb hlow
              have Hlw := hid hlow
              clear hlow hTA hTB Hlow hle hlt
              go_wp2_with fail
              refine HTa.out.mono ?_; rintro e w8 ⟨rfl, k8⟩
              have K8 := hid (K7.out.trans k8)
              clear k8 HTa tl xl
              go_wp2_with fail
              refine (HTb.out _ K8.out).mono ?_; rintro e w10 ⟨rfl, k10⟩
              have K10 := hid (K8.out.trans k10)
              clear k10 HTb
              by_cases hab : TA = TB
              · have c2 : (TA != TB) = false := by simpa using hab
                have hw := Hlw.out hab
                rw [hw] at HWb
                obtain ⟨⟨A, E⟩, hWA⟩ : ∃ WA, worst m i = WA := ⟨_, rfl⟩
                rw [hWA] at HWa HWb
                have c3 : (A != A) = false := by simp
                have c4 : (E != E) = false := by simp
                clear hab hw hWA Hlw
                go_wp2_with fail
                refine (HWa.out _ K10.out).mono ?_; rintro e w11 ⟨rfl, k11⟩
                have K11 := hid (K10.out.trans k11)
                clear k11 HWa
                go_wp2_with fail
                refine (HWb.out _ K11.out).mono ?_; rintro e w12 ⟨rfl, k12⟩
                have K12 := hid (K11.out.trans k12)
                clear k12 HWb
                go_wp2_with fail
                go_roundw
                case rel => exact ⟨i + 1, by omega, by go_num, K12.out⟩
                case measure => simp [intOf]; omega
              · have c2 : (TA != TB) = true := by simpa using hab
                clear hab
                go_wp2_with fail
                go_roundw
                case rel => exact ⟨i + 1, by omega, by go_num, K10.out⟩
                case measure => simp [intOf]; omega
            · have a2 : decide (i < m.ts.length) = false := by simpa using hil
              have KQ := hid (K3.out.trans KR.out)
              clear hil
              have HC := hid (runs12_any hG (glob_new Hg.out KQ.out))
              go_wp2_with fail
              refine HC.out.mono ?_; rintro e w9 ⟨rfl, k9⟩
              have K9 := hid (KQ.out.trans k9)
              clear k9 HC
              go_wp2_with fail
              go_ret
              exact ⟨rfl, K9.out⟩
        · have b6 : (e3 != 0) = true := by simpa using he
          clear he
          have HC := hid (runs12_any hG (glob_new Hg.out K3.out))
          go_wp2_with fail
          refine HC.out.mono ?_; rintro e w9 ⟨rfl, k9⟩
          have K9 := hid (K3.out.trans k9)
          clear k9 HC
          go_wp2_with fail
          go_ret
          exact ⟨rfl, K9.out⟩
end
end Go.Proofs.YtnkjjhenfhnajaaGreatDoor
