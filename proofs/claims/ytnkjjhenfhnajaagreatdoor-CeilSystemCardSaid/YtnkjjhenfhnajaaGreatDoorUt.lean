/-
  keellaw6.table, walked.
-/
import Derived.Test.YtnkjjhenfhnajaaGreatDoorG24
import Derived.Test.YtnkjjhenfhnajaaGreatDoorG20
import Derived.Test.YtnkjjhenfhnajaaGreatDoorG20
import Derived.Test.YtnkjjhenfhnajaaGreatDoorUd
import Derived.Deep.Cut
import Derived.Deep.DeepCutAuto
namespace Go
namespace Proofs.YtnkjjhenfhnajaaGreatDoor
open Go.RowKit Go.Kw Go.Kreg Go.Tm
set_option linter.unusedSimpArgs false
set_option linter.unusedVariables false

set_option maxRecDepth 100000 in
theorem clamp_any (w : World) (n : Int) : Calls Tryz.prog 109 #[.int .i64 n, .int .i64 1, .int .i64 255] w fun e w' => e = .returned (.int .i64 (clampI n)) ∧ w = w' := by
  by_cases h0 : n < 1
  · have b0 : decide (n < 1) = true := by simpa using h0
    rw [show clampI n = 1 by unfold clampI; rw [if_pos h0]]
    clear h0
    go_enter Tryz.func109, Tryz.ntmps109
    go_wp2_with fail
    go_ret
    exact ⟨rfl, rfl⟩
  · have b0 : decide (n < 1) = false := by simpa using h0
    by_cases h1 : 255 < n
    · have b1 : decide (255 < n) = true := by simpa using h1
      rw [show clampI n = 255 by unfold clampI; rw [if_neg h0, if_pos h1]]
      clear h0 h1
      go_enter Tryz.func109, Tryz.ntmps109
      go_wp2_with fail
      go_ret
      exact ⟨rfl, rfl⟩
    · have b1 : decide (255 < n) = false := by simpa using h1
      rw [show clampI n = n by unfold clampI; rw [if_neg h0, if_neg h1]]
      clear h0 h1
      go_enter Tryz.func109, Tryz.ntmps109
      go_wp2_with fail
      go_ret
      exact ⟨rfl, rfl⟩
theorem SlIn.own {w : World} {v : Value} {l : List Int} (h : Own w TI' 1 v l.length (intsC l)) (hl : l.length ≤ 1000000) : SlIn w v l := by
  rcases h.2 with ⟨rfl, h0⟩ | ⟨g, cap, cur, rfl, hb, hh, hn, hm, hs, ht⟩
  · have : l = [] := List.length_eq_zero_iff.1 h0
    subst this
    exact ⟨none, 0, rfl, by simp, by simp, by simp [maxLen], fun j x hj => by simp at hj, fun _ => rfl⟩
  · refine ⟨_, _, rfl, by omega, hn, hm, fun j x hj => ⟨g, 0, rfl, ?_⟩, (fun e => by cases e)⟩
    rw [Nat.zero_add]
    exact h.cells' (g := g) rfl (intsC_at hj)
theorem addR_st {w w0 : World} {F0 : Nat → Prop} {c1 c2 : Ch} {cs : List Ch} {p : Nat} {m m' : TM} {n e : Int} (hS : St F0 w0 (c1 :: c2 :: refC p m :: cs) w) (x : Task) {nd : Value} (hv : SlNd w nd x.needs) (hnm : x.name.size ≤ 9223372036854775807) (hb : big x.frame) (ha : m.add x = (n, e, m')) :
    Calls Tryz.prog 20 #[.pointer (some ⟨p, 0, none⟩), taskV x nd] w fun r w' => r = .returned (.tuple #[.int .i64 n, .int .i64 e]) ∧ St F0 w0 (c1 :: c2 :: refC p m' :: cs) w' := by
  obtain ⟨F1, g1, _, _, bk⟩ := hS.sel [2]
  have g2 : Sts [refC p m] F1 w := g1
  refine (addR_any g2 x hv hnm hb).mono fun r w' ⟨h1, h2⟩ => ⟨?_, ?_⟩
  · rw [h1, ha]
  · rw [ha] at h2; exact bk h2
section
variable {W w : World} {F : Nat → Prop}
set_option maxRecDepth 100000 in
set_option maxHeartbeats 8000000 in
theorem table_any (hG : Glob W) (hg : (glC W).holds F w) {uv lv : Value} {us : List Int} {l : List Task} (hu : SlIn w uv us) (hl : SlTk w lv l) (hnm : ∀ x ∈ l, x.name.size ≤ 9223372036854775807) :
    Calls Tryz.prog 43 #[uv, lv] w fun e w' => ∃ p q, e = .returned (.tuple #[.pointer (some ⟨p, 0, none⟩), .pointer (some ⟨q, 0, none⟩)]) ∧ St F w [glC W, tabC p (tableM us l), refC q (tableM us l)] w' := by
  obtain ⟨ua, uc, rfl, hu1, hu2, hu3, hu4, -⟩ := id hu
  obtain ⟨la, lc, rfl, hl1, hl2, hl3, -⟩ := id hl
  obtain ⟨M, hM⟩ : ∃ M, tableM us l = M := ⟨_, rfl⟩
  rw [hM]
  have HM := hid hM
  have HS := hid (St.of (Sts.one hg))
  have HU := hid hu4
  have HL := hid hl
  have Hnm := hid hnm
  have Hg := hid hg
  clear hM hg hu hl hu4 hnm
  go_enter Tryz.func43, Tryz.ntmps43
  go_upto_if 18 with fail
  go_cut [0] (fun y wx => y = .slice ua (us.take 16).length uc ∧ wx = w)
  case first =>
    by_cases h16 : 16 < us.length
    · have b0 : decide ((16 : Int) < (us.length : Int)) = true := decide_eq_true (by omega)
      have i0 : (16 : Int) ≤ (uc : Int) := by omega
      have i1 : (16 : Int) ≤ (us.length : Int) := by omega
      have e : (us.take 16).length = 16 := by rw [List.length_take]; omega
      have He := hid e
      clear e
      go_wp2_with fail
      go_meet
      case rel => exact ⟨by rw [He.out], rfl⟩
    · have b0 : decide ((16 : Int) < (us.length : Int)) = false := decide_eq_false (by omega)
      have e : (us.take 16).length = us.length := by rw [List.length_take]; omega
      have He := hid e
      clear e
      go_wp2_with fail
      go_meet
      case rel => exact ⟨by rw [He.out], rfl⟩
  case rest =>
    obtain ⟨rfl, rfl⟩ := hcut
    go_upto_if 23 with fail
    go_cut [1] (fun y wx => y = .slice la (l.take 40).length lc ∧ wx = wc)
    case first =>
      by_cases h40 : 40 < l.length
      · have b0 : decide ((40 : Int) < (l.length : Int)) = true := decide_eq_true (by omega)
        have i0 : (40 : Int) ≤ (lc : Int) := by omega
        have i1 : (40 : Int) ≤ (l.length : Int) := by omega
        have e : (l.take 40).length = 40 := by rw [List.length_take]; omega
        have He := hid e
        clear e
        go_wp2_with fail
        go_meet
        case rel => exact ⟨by rw [He.out], rfl⟩
      · have b0 : decide ((40 : Int) < (l.length : Int)) = false := decide_eq_false (by omega)
        have e : (l.take 40).length = l.length := by rw [List.length_take]; omega
        have He := hid e
        clear e
        go_wp2_with fail
        go_meet
        case rel => exact ⟨by rw [He.out], rfl⟩
    case rest =>
      obtain ⟨rfl, rfl⟩ := hcut
      have hm := HM.out
      unfold tableM at hm
      have hbg := clamp_begins us
      have hul : (us.take 16).length ≤ 16 := by rw [List.length_take]; omega
      have hll : (l.take 40).length ≤ 40 := by rw [List.length_take]; omega
      have hu' : ∀ (j : Nat) x, (us.take 16)[j]? = some x → ∃ b o, ua = some ⟨b, o, none⟩ ∧ wc.cell? ⟨b, o + j, none⟩ = some (.int .i64 x) := fun j x hj => by
        rw [List.getElem?_take] at hj
        split at hj
        · exact HU.out j x hj
        · cases hj
      have hl' : SlTk wc (.slice la (l.take 40).length lc) (l.take 40) := by
        obtain ⟨ao, c, e, -, -, -, hx⟩ := HL.out
        cases e
        refine ⟨la, lc, rfl, by omega, by rw [List.length_take]; omega, hl3, fun j x hj => ?_⟩
        rw [List.getElem?_take] at hj
        split at hj
        · exact hx j x hj
        · cases hj
      have hn' : ∀ x ∈ l.take 40, x.name.size ≤ 9223372036854775807 := fun x hx => Hnm.out x (List.mem_of_mem_take hx)
      generalize us.take 16 = us' at *
      generalize l.take 40 = l' at *
      have HU2 := hid hu'
      have HL2 := hid hl'
      have HN2 := hid hn'
      have HM2 := hid hm
      have HB := hid hbg
      have HS0 := hid (show St F wc [glC W, .row TI' 1 (.slice none 0 0) ((us'.take 0).map clampI).length (intsC ((us'.take 0).map clampI))] wc from HS.out.add (Keeps.refl (fun _ => False) _) (G := fun _ => False) ⟨⟨rfl, .inl ⟨rfl, rfl⟩⟩, fun b => by simp [Value.ownBlock]⟩ (fun b hb => hb.elim))
      clear hu' hl' hn' hm hbg HU HL HM Hnm HS
      go_wp2_with fail
      go_loopw [7, 6] (fun x y wr => ∃ (k : Nat), k ≤ us'.length ∧ x = .int .i64 k ∧ St F wc [glC W, .row TI' 1 y ((us'.take k).map clampI).length (intsC ((us'.take k).map clampI))] wr) (fun x _ _ => us'.length - (intOf x).toNat)
      case atStart => exact ⟨0, Nat.zero_le _, rfl, HS0.out⟩
      case round =>
        clear HS0
        obtain ⟨k, hk, rfl, hS⟩ := hrel
        obtain ⟨ia, ic, rfl, -⟩ := (hS.own 1).shape
        by_cases hlt : k < us'.length
        · have a1 : decide (k < us'.length) = true := by simpa using hlt
          have hx := List.getElem?_eq_getElem hlt
          have hkp := (glob_keeps Hg.out hS).1
          obtain ⟨b, o, rfl, d0⟩ := HU2.out k _ hx
          have d0 := cellIn hkp d0
          have i0 : (0 : Int) ≤ (k : Int) := by omega
          have i1 : (k : Int) < (us'.length : Int) := by omega
          have htk : (us'.take (k + 1)).map clampI = (us'.take k).map clampI ++ [clampI us'[k]] := by rw [List.take_succ_eq_append_getElem hlt, List.map_append]; rfl
          have hcl := fun w => clamp_any w us'[k]
          generalize us'[k] = u at *
          have hS1 := hS.new TI' (intsC [clampI u])
          simp only [Kw.red] at hS1
          have hlen := hid (show ((us'.take k).map clampI).length ≤ 16 by rw [List.length_map, List.length_take]; omega)
          have Htk := hid htk
          generalize (us'.take k).map clampI = L at *
          generalize clampI u = cu at *
          have HS1 := hid hS1
          clear hS hS1 hx hkp htk
          go_wp2_with fail
          refine (hcl _).mono ?_; rintro e w2 ⟨rfl, rfl⟩
          go_wp2_with (at_builtin; refine wpList_appS 1 2 _ _ 22 TI' (.int .i64 0) 1 8 infoI Tryz.underlying22 rfl (by decide) rfl rfl HS1.out rfl rfl rfl rfl rfl (intsC_one [cu]) (by omega) (by unfold maxLen; have := hlen.out; omega) (by have := hlen.out; omega) ?_; intro gb gc w7 hSc hat)
          go_roundw
          case rel =>
            refine ⟨k + 1, by omega, by go_num, ?_⟩
            have h := hSc.sub [0, 1]
            simp only [Kw.red] at h
            rw [Htk.out, List.length_append, List.length_singleton, show intsC (L ++ [cu]) = intsC L ++ intsC [cu] by simp [intsC]]
            exact h
          case measure => simp [intOf]; omega
        · have a1 : decide (k < us'.length) = false := by simpa using hlt
          have htl : us'.take k = us' := List.take_of_length_le (by omega)
          rw [htl] at hS ⊢
          have hb0 := HB.out
          have hm := HM2.out
          have hunl : (us'.map clampI).length ≤ 16 := by rw [List.length_map]; exact hul
          clear htl
          generalize us'.map clampI = Un at *
          have hnw := new_any (SlIn.own (hS.own 1) (by omega)) 65536
          have HN := hid hnw
          have HS := hid hS
          have HB0 := hid hb0
          have HM3 := hid hm
          clear hS hb0 hm hnw HU2 HM2 HB
          go_wp2_with fail
          refine HN.out.mono ?_; rintro e w2 hor
          obtain ⟨p, rfl, hS⟩ := new_ok HB0.out HS.out hor
          simp only [Kw.red] at hS
          have HS2 := hid hS
          clear hS hor HN HS
          go_wp2_with fail
          obtain ⟨y0, hy0⟩ := tab_at 2 HS2.out
          have hok0 := hy0.tok.ok
          have hS3 := HS2.out.new TRf [.int .i64 65536, .slice ia Un.length ic, .slice none 0 0]
          simp only [Kw.red] at hS3
          have hS4 := hS3.add (Keeps.refl (fun _ => False) _) (G := fun _ => False) (c := .row TTk 8 (.slice none 0 0) 0 (tasksV [] [])) ⟨⟨rfl, .inl ⟨rfl, rfl⟩⟩, fun b => by simp [Value.ownBlock]⟩ (fun b hb => hb.elim)
          have hS5 := hS4.add (Keeps.refl (fun _ => False) _) (G := fun _ => False) (c := .stars (needsCh [] [])) (fun b => id) (fun b hb => hb.elim)
          have hS6 := hS5.add (Keeps.refl (fun _ => False) _) (G := fun _ => False) (c := .pr (RefOk ⟨65536, Un, []⟩ ⟨.slice ia Un.length ic, .slice none 0 0, []⟩)) ⟨⟨hok0, rfl⟩, fun b => id⟩ (fun b hb => hb.elim)
          simp only [Kw.red] at hS6
          have hS7 := (hS6.fold [3, 1, 4, 5, 6] (refC w2.heap.size ⟨65536, Un, []⟩) (fun F h => ⟨⟨.slice ia Un.length ic, .slice none 0 0, []⟩, h⟩)).sub [0, 2, 3]
          simp only [Kw.red] at hS7
          generalize w2.heap.size = q at hS7 ⊢
          obtain ⟨m0, hm0⟩ : ∃ m0 : TM, m0 = ⟨65536, Un, []⟩ := ⟨_, rfl⟩
          rw [← hm0] at hS7
          have hm3 := HM3.out
          rw [← hm0] at hm3
          have HM4 := hid hm3
          have HS7 := hid hS7
          clear hS3 hS4 hS5 hS6 hS7 hm3 HM3 hm0 hok0 hy0 HS2 HB0
          go_loopw [11] (fun x wr => ∃ (k : Nat), k ≤ l'.length ∧ x = .int .i64 k ∧ St F wc [glC W, tabC p ((l'.take k).foldl TM.takeM m0), refC q ((l'.take k).foldl TM.takeM m0)] wr) (fun x _ => l'.length - (intOf x).toNat)
          case atStart => exact ⟨0, Nat.zero_le _, rfl, HS7.out⟩
          case round =>
            clear HS7
            obtain ⟨k2, hk2, rfl, hS⟩ := hrel
            by_cases hlt2 : k2 < l'.length
            · have hx := List.getElem?_eq_getElem hlt2
              have hkp := (glob_keeps Hg.out hS).1
              obtain ⟨b, o, na, nc, rfl, ⟨d0, d1, d2, d3, d4, d5, d6, d7⟩, hnd, hlv, hfb, -, -, -⟩ := (HL2.out.new hkp).one hx
              obtain ⟨b', o', na', nc', e1, ⟨-, -, -, g3, -⟩, -⟩ := HL2.out.one hx
              cases e1
              have hnn : Value.slice na l'[k2].needs.length nc = .slice na' l'[k2].needs.length nc' := by
                have := cellIn hkp g3
                rw [d3] at this; exact Option.some.inj this
              cases hnn
              have hnmx := HN2.out _ (List.getElem_mem hlt2)
              have hstep := takeM_take hx m0
              generalize l'[k2] = x at *
              generalize (l'.take k2).foldl TM.takeM m0 = m at *
              have a1 : decide (k2 < l'.length) = true := by simpa using hlt2
              have i0 : (0 : Int) ≤ (k2 : Int) := by omega
              have i1 : (k2 : Int) < (l'.length : Int) := by omega
              have HSr := hid hS
              have Hnd := hid hnd
              have Hx := hid hx
              have D3 := hid g3
              have Hstep := hid hstep
              clear hS hnd hx hkp g3 hstep
              by_cases hcode : 5000 < x.code.size
              · have b2 : decide ((5000 : Int) < (x.code.size : Int)) = true := by simp; omega
                go_wp2_with fail
                have hst2 : m.takeM x = m := by unfold TM.takeM; rw [if_pos (by omega)]
                have Hst2 := hid hst2
                clear hst2
                go_roundw
                case rel => exact ⟨k2 + 1, by omega, by go_num, by rw [Hstep.out, Hst2.out]; exact HSr.out⟩
                case measure => simp [intOf]; omega
              · have b2 : decide ((5000 : Int) < (x.code.size : Int)) = false := by simp; omega
                by_cases hnl : 40 < x.needs.length
                · have b3 : decide ((40 : Int) < (x.needs.length : Int)) = true := by simp; omega
                  go_wp2_with fail
                  have hst2 : m.takeM x = m := by unfold TM.takeM; rw [if_pos (by omega)]
                  have Hst2 := hid hst2
                  clear hst2
                  go_roundw
                  case rel => exact ⟨k2 + 1, by omega, by go_num, by rw [Hstep.out, Hst2.out]; exact HSr.out⟩
                  case measure => simp [intOf]; omega
                · have b3 : decide ((40 : Int) < (x.needs.length : Int)) = false := by simp; omega
                  obtain ⟨⟨n3, e3, m3⟩, hadd⟩ : ∃ r, m.add x = r := ⟨_, rfl⟩
                  have hst2 : m.takeM x = m3 := by unfold TM.takeM; rw [if_neg (by omega), hadd]
                  have HA := hid (add_st hG HSr.out x Hnd.out hfb hadd)
                  have HAdd := hid hadd
                  have Hst2 := hid hst2
                  unfold taskV at HA
                  clear hadd hst2 hcode hnl
                  go_wp2_with fail
                  refine HA.out.mono ?_; rintro r w3 ⟨rfl, hS3⟩
                  have hkp3 := (glob_keeps Hg.out hS3).1
                  obtain ⟨b', o', na', nc', e1, ⟨g0, g1, g2, g3, g4, g5, g6, g7⟩, hnd3, -⟩ := (HL2.out.new hkp3).one Hx.out
                  cases e1
                  have hnn : Value.slice na x.needs.length nc = .slice na' x.needs.length nc' := by
                    have := cellIn hkp3 D3.out
                    rw [g3] at this; exact (Option.some.inj this).symm
                  cases hnn
                  have HB2 := hid (addR_st hS3 x hnd3 hnmx hfb HAdd.out)
                  unfold taskV at HB2
                  clear d0 d1 d2 d3 d4 d5 d6 d7 HSr HA hS3 hkp3 hnd3
                  go_wp2_with fail
                  refine HB2.out.mono ?_; rintro r w4 ⟨rfl, hS4⟩
                  have HS4 := hid hS4
                  clear hS4 HB2 g0 g1 g2 g3 g4 g5 g6 g7
                  go_wp2_with fail
                  go_roundw
                  case rel => exact ⟨k2 + 1, by omega, by go_num, by rw [Hstep.out, Hst2.out]; exact HS4.out⟩
                  case measure => simp [intOf]; omega
            · have a1 : decide (k2 < l'.length) = false := by simpa using hlt2
              rw [List.take_of_length_le (show l'.length ≤ k2 by omega), HM4.out] at hS
              have HS := hid hS
              clear hS
              go_wp2_with fail
              go_ret2
              exact ⟨p, q, rfl, HS.out⟩
end
end Proofs.YtnkjjhenfhnajaaGreatDoor
end Go
