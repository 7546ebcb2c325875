/-
  AdmitLowest, walked.
-/
import Derived.Test.YtdjgijndcjbpiaaGreatDoorBh
import Derived.Test.YtdjgijndcjbpiaaGreatDoorBf
import Derived.Test.YtdjgijndcjbpiaaGreatDoorG20
namespace Go.Proofs.YtdjgijndcjbpiaaGreatDoor
open Go.RowKit Go.Kw Go.Kreg Go.Tm Go.Ad
set_option linter.unusedSimpArgs false
set_option linter.unusedVariables false

theorem lev_in {ts : List Task} {i : Nat} {t : Task} (ht : ts[i]? = some t) : levAt ts i = some t.level := by
  unfold levAt; rw [if_neg (by omega), Int.toNat_natCast, ht]; rfl
theorem term_in {m : TM} {i : Nat} {t : Task} (ht : m.ts[i]? = some t) : term m i = termL m t.level := by
  unfold term; rw [lev_in ht]
theorem long_in {m : TM} {i : Nat} {t : Task} (ht : m.ts[i]? = some t) : longest m i = longL m t.level := by
  unfold longest; rw [lev_in ht]
/-- How two levels stand to one another, and what the law asks of them. -/
theorem hlevs (m : TM) {i j : Nat} {x z : Task} (hx : m.ts[i]? = some x) (hz : m.ts[j]? = some z) :
    (decide (z.level ≤ x.level) = false ∧ (x.level == z.level) = false) ∨ (decide (z.level ≤ x.level) = true ∧ decide (longest m i < longest m j) = false ∧ ((x.level == z.level) = false ∨ (x.level == z.level) = true ∧ (term m i != term m j) = false)) := by
  rw [long_in hx, long_in hz, term_in hx, term_in hz]
  by_cases h1 : z.level ≤ x.level
  · right
    refine ⟨decide_eq_true h1, decide_eq_false (by have := long_mono (m := m) h1; omega), ?_⟩
    by_cases h2 : x.level = z.level
    · right; rw [h2]; exact ⟨by simp, by simp⟩
    · left; simpa using h2
  · left; exact ⟨decide_eq_false h1, by rw [beq_eq_false_iff_ne]; omega⟩
theorem within_at {ts : List Task} (a : Int) (h : 0 < ts.length) : ∃ (i : Nat) (t : Task), within a 0 ((ts.length : Int) - 1) = i ∧ ts[i]? = some t := by
  have hwb := within_bd a 0 ((ts.length : Int) - 1) (by omega)
  obtain ⟨i, hi⟩ := Int.eq_ofNat_of_zero_le hwb.1
  exact ⟨i, ts[i]'(by omega), hi, List.getElem?_eq_getElem _⟩
/-- What a law's set makes: the tables, and what is in memory behind it. -/
theorem made {W w : World} {F : Nat → Prop} (hG : Glob W) (hg : (glC W).holds F w) {W0 : Int} {uv tv : Value} {us : List Int} {ts : List Task} (hu : SlIm w uv us) (ht : SlTk w tv ts) (hnm : ∀ x ∈ ts, x.name.size ≤ 9223372036854775807) {w1 : World} (hk : Keeps (fun _ => False) w w1) :
    Calls Tryz.prog 55 #[.agg #[.int .i64 W0, uv, tv], .int .i64 10] w1 fun e w' => ∃ p q, e = .returned (.tuple #[.pointer (some ⟨p, 0, none⟩), .pointer (some ⟨q, 0, none⟩), .bool true]) ∧ St F w [glC W, tabC p (setM W0 us ts), refC q (setM W0 us ts)] w' := by
  have hS := (St.of (Sts.one hg)).step hk
  obtain ⟨F1, g1, _, _, bk⟩ := hS.sel [0]
  refine (make_any hG (Sts.of_one g1) (hu.new hk) (ht.new hk) hnm).mono ?_
  rintro e w' ⟨p, q, rfl, h⟩
  exact ⟨p, q, rfl, bk h⟩
section
variable {W w : World} {F : Nat → Prop}
set_option maxRecDepth 100000 in
set_option maxHeartbeats 8000000 in
theorem lowest_law (hG : Glob W) (hg : (glC W).holds F w) {W0 : Int} {uv tv : Value} {us : List Int} {ts : List Task} (hu : SlIm w uv us) (ht : SlTk w tv ts) (hnm : ∀ x ∈ ts, x.name.size ≤ 9223372036854775807) (a : Int) (ha : big a) (b : Int) (hb : big b) :
    Calls Tryz.prog 12 #[.agg #[.int .i64 W0, uv, tv], .int .i64 a, .int .i64 b] w fun e w' => e = .returned (.bool true) ∧ Keeps (fun _ => False) w w' := by
  have hk0 := (Keeps.refl (fun _ => False) w).alloc (.cells #[.int .i64 W0, uv, tv] TSet)
  have HT := hid (made (W0 := W0) hG hg hu ht hnm hk0)
  have hok := setM_ok W0 us ts
  have hlen := setM_len W0 us ts
  obtain ⟨m, hm⟩ : ∃ m, setM W0 us ts = m := ⟨_, rfl⟩
  rw [hm] at hok hlen HT
  have Hg := hid hg
  have Hok := hid hok
  obtain ⟨ua, uc, rfl, -⟩ := id hu
  obtain ⟨la, lc, rfl, -⟩ := id ht
  clear hg hu ht hnm hk0 hm hok
  go_enter Tryz.func12, Tryz.ntmps12
  go_wp2_with fail
  refine HT.out.mono ?_; rintro e w1 ⟨p, q, rfl, hS⟩
  have K1 := hid (glob_keeps Hg.out hS).1
  obtain ⟨y, hy⟩ := tab_at 1 hS
  have Hy := hid hy
  have HS1 := hid hS
  have HL := hid (tlen_any hy)
  clear hS hy HT
  go_wp2_with fail
  by_cases h0 : m.ts.length = 0
  · have b0 : ((m.ts.length : Int) == 0) = true := by rw [h0]; rfl
    have HC := hid (admitruns_any hG (glob_new Hg.out K1.out))
    clear h0
    go_wp2_with fail
    refine HL.out.mono ?_; rintro e w2 ⟨rfl, rfl⟩
    go_wp2_with fail
    refine HC.out.mono ?_; rintro e w2 ⟨rfl, k2⟩
    have K2 := hid (K1.out.trans k2)
    clear k2 HC HL
    go_wp2_with fail
    go_ret
    exact ⟨rfl, K2.out⟩
  · have b0 : ((m.ts.length : Int) == 0) = false := by rw [beq_eq_false_iff_ne]; omega
    go_wp2_with fail
    refine HL.out.mono ?_; rintro e w2 ⟨rfl, rfl⟩
    have hlow : 0 < m.ts.length := by omega
    obtain ⟨i, x, hwi, hx⟩ := within_at a hlow
    obtain ⟨j, z, hwj, hz⟩ := within_at b hlow
    have hwa := fun w => within_any w a 0 ((m.ts.length : Int) - 1) (by omega) (by omega) (by omega) ha.1 ha.2
    have hwb := fun w => within_any w b 0 ((m.ts.length : Int) - 1) (by omega) (by omega) (by omega) hb.1 hb.2
    rw [hwi] at hwa
    rw [hwj] at hwb
    have HL2 := hid (tlen_any Hy.out)
    clear hwi hwj h0
    go_wp2_with fail
    refine HL2.out.mono ?_; rintro e w2 ⟨rfl, rfl⟩
    go_wp2_with fail
    refine (hwa _).mono ?_; rintro e w2 ⟨rfl, rfl⟩
    go_wp2_with fail
    refine HL2.out.mono ?_; rintro e w2 ⟨rfl, rfl⟩
    go_wp2_with fail
    refine (hwb _).mono ?_; rintro e w2 ⟨rfl, rfl⟩
    have hlv := hlevs m hx hz
    have HG1 := hid (get_in Hy.out hx)
    have Hx := hid hx
    have Hz := hid hz
    have Htx := hid (term_in hx)
    have Htz := hid (term_in hz)
    have Hlx := hid (long_in hx)
    have Hlz := hid (long_in hz)
    unfold taskV at HG1
    clear hwa hwb HL HL2
    go_wp2_with fail
    refine HG1.out.mono ?_; rintro e w2 ⟨g1, rfl, hS⟩
    have hS2 := (HS1.out.step hS.keeps).new TTk [.string x.name, .int .i64 x.level, .int .i64 x.frame, .slice (some ⟨g1, 0, none⟩) x.needs.length x.needs.length, .string x.code, .int .i64 x.period, .int .i64 x.first, .int .i64 x.gap]
    simp only [Kw.red] at hS2
    have HS2 := hid hS2
    have HG2 := hid (get_in (Hy.out.keeps (hS.keeps.alloc (.cells #[.string x.name, .int .i64 x.level, .int .i64 x.frame, .slice (some ⟨g1, 0, none⟩) x.needs.length x.needs.length, .string x.code, .int .i64 x.period, .int .i64 x.first, .int .i64 x.gap] TTk))) hz)
    have K2 := hid (hS.keeps.alloc (.cells #[.string x.name, .int .i64 x.level, .int .i64 x.frame, .slice (some ⟨g1, 0, none⟩) x.needs.length x.needs.length, .string x.code, .int .i64 x.period, .int .i64 x.first, .int .i64 x.gap] TTk))
    unfold taskV at HG2
    clear hS hS2 HS1 HG1
    go_wp2_with fail
    refine HG2.out.mono ?_; rintro e w3 ⟨g2, rfl, hS⟩
    have hS3 := (HS2.out.step hS.keeps).new TTk [.string z.name, .int .i64 z.level, .int .i64 z.frame, .slice (some ⟨g2, 0, none⟩) z.needs.length z.needs.length, .string z.code, .int .i64 z.period, .int .i64 z.first, .int .i64 z.gap]
    simp only [Kw.red] at hS3
    have K3 := hid ((K2.out.trans hS.keeps).alloc (.cells #[.string z.name, .int .i64 z.level, .int .i64 z.frame, .slice (some ⟨g2, 0, none⟩) z.needs.length z.needs.length, .string z.code, .int .i64 z.period, .int .i64 z.first, .int .i64 z.gap] TTk))
    have xl := (hS3.blk 3).cell 1
    have zl := (hS3.blk 4).cell 1
    simp only [List.getElem?_cons_zero, List.getElem?_cons_succ] at xl zl
    have HS3 := hid hS3
    clear hS hS3 HS2 HG2 K2
    go_upto_region 8 with fail
    generalize w2.heap.size = xb at *
    generalize w3.heap.size = zb at *
    generalize w3.alloc (.cells #[.string z.name, .int .i64 z.level, .int .i64 z.frame, .slice (some ⟨g2, 0, none⟩) z.needs.length z.needs.length, .string z.code, .int .i64 z.period, .int .i64 z.first, .int .i64 z.gap] TTk) = w4 at *
    have hy4 := Hy.out.keeps K3.out
    have HY := hid hy4
    have KA := hid (Keeps.refl (fun _ => False) w4)
    clear hy4
    go_cut [90] (fun y wx => y = .bool false ∧ Keeps (fun _ => False) w4 wx)
    case first =>
      have HLa := fun (w9 : World) (k9 : Keeps (fun _ => False) w4 w9) => longest_any (HY.out.keeps k9) i
      have HLb := fun (w9 : World) (k9 : Keeps (fun _ => False) w4 w9) => longest_any (HY.out.keeps k9) j
      have HTa := fun (w9 : World) (k9 : Keeps (fun _ => False) w4 w9) => term_any (HY.out.keeps k9) i
      have HTb := fun (w9 : World) (k9 : Keeps (fun _ => False) w4 w9) => term_any (HY.out.keeps k9) j
      generalize longest m i = LA at *
      generalize longest m j = LB at *
      generalize term m i = TA at *
      generalize term m j = TB at *
      have HLa := hid HLa
      have HLb := hid HLb
      have HTa := hid HTa
      have HTb := hid HTb
      rcases hlv with ⟨c1, c2⟩ | ⟨c1, c2, c3⟩
      · go_wp2_with fail
        go_meet
        case rel => exact ⟨rfl, KA.out⟩
      · go_wp2_with fail
        refine (HLa.out _ KA.out).mono ?_; rintro e w5 ⟨rfl, k⟩
        have K5 := hid (KA.out.trans k)
        clear k KA
        go_wp2_with fail
        refine (HLb.out _ K5.out).mono ?_; rintro e w6 ⟨rfl, k⟩
        have K6 := hid (K5.out.trans k)
        have xl := cellIn K6.out xl
        have zl := cellIn K6.out zl
        clear k K5
        rcases c3 with c3 | ⟨c3, c4⟩
        · go_wp2_with fail
          go_meet
          case rel => exact ⟨rfl, K6.out⟩
        · go_wp2_with fail
          refine (HTa.out _ K6.out).mono ?_; rintro e w7 ⟨rfl, k⟩
          have K7 := hid (K6.out.trans k)
          clear k K6
          go_wp2_with fail
          refine (HTb.out _ K7.out).mono ?_; rintro e w8 ⟨rfl, k⟩
          have K8 := hid (K7.out.trans k)
          clear k K7
          go_wp2_with fail
          go_meet
          case rel => exact ⟨rfl, K8.out⟩
    case rest =>
      obtain ⟨rfl, hK⟩ := hcut
      have KC := hid hK
      clear hK hlv
      have Hxl := hid xl
      have HT1 := hid (term_any (HY.out.keeps KC.out) i)
      have htl := term_is (m := m) x.level
      rw [← Htx.out] at htl
      have hlo : (∀ t ∈ m.ts, ¬ t.level < x.level) → _ := fun h => lowest (m := m) (lev := x.level) h
      rw [← Htx.out, ← Hlx.out] at hlo
      have Htl := hid htl
      have Hlo := hid hlo
      obtain ⟨N, hN⟩ : ∃ N, term m i = N := ⟨_, rfl⟩
      rw [hN] at HT1 Htl Hlo
      clear htl hlo hN xl zl
      go_wp2_with fail
      refine HT1.out.mono ?_; rintro e w5 ⟨rfl, k5⟩
      have K5 := hid (KC.out.trans k5)
      clear k5 HT1 KC
      go_wp2_with fail
      go_loopw [17, 15, 16] (fun jv fv lv wr => ∃ (k : Nat) (fb lb : Bool), k ≤ m.ts.length ∧ jv = .int .i64 k ∧ fv = .bool fb ∧ lv = .bool lb ∧ Hid ((N = 0 → fb = true) ∧ (∀ (j : Nat) t s, j < k → m.ts[j]? = some t → t.level < x.level → s ∈ secsOf t → N = s.len → fb = true)) ∧ Hid (lb = true → ∀ (j : Nat) t, j < k → m.ts[j]? = some t → ¬ t.level < x.level) ∧ Keeps (fun _ => False) w4 wr) (fun jv _ _ _ => m.ts.length - (intOf jv).toNat)
      case atStart => exact ⟨0, _, true, Nat.zero_le _, rfl, rfl, rfl, hid ⟨fun h => by rw [h]; rfl, fun j t s hj => by omega⟩, hid fun _ j t hj => by omega, K5.out⟩
      case round =>
        obtain ⟨k, fb, lb, hk, rfl, rfl, rfl, Hf, Hl, hK⟩ := hrel
        have KR := hid hK
        have hln := tlen_any (HY.out.keeps hK)
        have HLn := hid hln
        clear hK hln K5
        go_wp2_with fail
        refine HLn.out.mono ?_; rintro e w6 ⟨rfl, rfl⟩
        clear HLn
        by_cases hlt : k < m.ts.length
        · have a1 : decide (k < m.ts.length) = true := by simpa using hlt
          have ht := List.getElem?_eq_getElem hlt
          have hft := Hok.out.fit _ (List.getElem_mem hlt)
          have HG := hid (get_in (HY.out.keeps KR.out) ht)
          generalize m.ts[k] = t at *
          have Ht := hid ht
          unfold taskV at HG
          clear ht
          go_wp2_with fail
          refine HG.out.mono ?_; rintro e w7 ⟨gt, rfl, hS⟩
          have K7 := hid ((KR.out.trans hS.keeps).alloc (.cells #[.string t.name, .int .i64 t.level, .int .i64 t.frame, .slice (some ⟨gt, 0, none⟩) t.needs.length t.needs.length, .string t.code, .int .i64 t.period, .int .i64 t.first, .int .i64 t.gap] TTk))
          have xl := cellIn K7.out Hxl.out
          clear hS HG
          by_cases hge : x.level ≤ t.level
          · have b1 : decide (x.level ≤ t.level) = true := by simpa using hge
            have hge2 := hid hge
            clear hge
            go_wp2_with fail
            go_roundw
            case rel =>
              refine ⟨k + 1, fb, lb, by omega, by go_num, rfl, rfl, hid ⟨Hf.out.1, fun j t' s hj ht' hl hs hN => ?_⟩, hid fun hl j t' hj ht' => ?_, K7.out⟩
              · by_cases hjk : j = k
                · subst hjk
                  rw [Ht.out] at ht'
                  cases ht'
                  have := hge2.out; omega
                · exact Hf.out.2 j t' s (by omega) ht' hl hs hN
              · by_cases hjk : j = k
                · subst hjk
                  rw [Ht.out] at ht'
                  cases ht'
                  have := hge2.out; omega
                · have := Hl.out hl j t' (by omega) ht'
                  omega
            case measure => simp [intOf]; omega
          · have b1 : decide (x.level ≤ t.level) = false := by simpa using hge
            have HSc := hid (sections_in (HY.out.keeps K7.out) Ht.out)
            have hql : (secsOf t).length ≤ 4096 := Nat.le_trans (secs_ok hft).few (Cm.prog_le _)
            have hbd : ∀ (i : Nat) s, (secsOf t)[i]? = some s → (s.frm : Int) < s.upto ∧ (s.upto : Int) ≤ 4096 := fun i s hs => lenP_bd Hok.out Ht.out (List.mem_of_getElem? hs)
            obtain ⟨q, hq⟩ : ∃ q, secsOf t = q := ⟨_, rfl⟩
            have Hq := hid hq
            rw [hq] at HSc hql hbd
            have Hbd := hid hbd
            have Hge := hid hge
            clear hge hft hq hbd
            go_wp2_with fail
            refine HSc.out.mono ?_; rintro e w8 ⟨sv, rfl, hS8⟩
            obtain ⟨sa, sc, rfl, hsc⟩ := (hS8.vec 0).shape
            have HV := hid (hS8.vec 0)
            have K8 := hid (K7.out.trans hS8.keeps)
            clear hS8 HSc xl
            go_wp2_with fail
            go_loopw [21, 15] (fun iv fv wx => ∃ (i : Nat) (fb2 : Bool), i ≤ q.length ∧ iv = .int .i64 i ∧ fv = .bool fb2 ∧ Hid ((fb = true → fb2 = true) ∧ ∀ (a : Nat) s, a < i → q[a]? = some s → N = s.len → fb2 = true) ∧ Keeps (fun _ => False) w8 wx) (fun iv _ _ => q.length - (intOf iv).toNat)
            case atStart => exact ⟨0, fb, Nat.zero_le _, rfl, rfl, hid ⟨id, fun a s ha => by omega⟩, Keeps.refl _ _⟩
            case round =>
              obtain ⟨i2, fb2, hi2, rfl, rfl, Hf2, hK⟩ := hrel
              have KX := hid hK
              clear hK
              by_cases hil : i2 < q.length
              · have a2 : decide (i2 < q.length) = true := by simpa using hil
                have hs := List.getElem?_eq_getElem hil
                have hb2 := Hbd.out _ _ hs
                have hv := HV.out.keeps KX.out (fun _ _ => id)
                obtain ⟨gs, cs, e1, -, -⟩ := hv.form (by omega)
                cases e1
                obtain ⟨-, -, -, e3, e4⟩ := secsC_at hs
                have s3 := hv.cells' (g := gs) rfl e3
                have s4 := hv.cells' (g := gs) rfl e4
                generalize q[i2] = s at *
                have Hs := hid hs
                have i0 : (0 : Int) ≤ (i2 : Int) := by omega
                have i1 : (i2 : Int) < (q.length : Int) := by omega
                clear hv e3 e4 hs
                cases fb2 with
                | true =>
                  go_wp2_with fail
                  refine wp_region_keep (by kernel_rfl) (by kernel_rfl) ?_
                  repeat (first | go_big_quiet_skip | ((first | refine wpKeep_load rfl ?_ | refine wpKeep_other rfl ?_); (first | go_big_quiet_step (fail) | quiet_step (fail)); refine wpQuiet_nil ?_; refine Shut.mk ?_) | (refine wpQuiet_step (fun K hK => ?_); go_simp; first | (refine hK _ ?_; clear hK K) | (apply Exists.intro; refine ⟨fun w9 k9 => ?_, hK _ ?_⟩; (fail); clear hK K)))
                  refine wpQuiet_nil ?_
                  intro w9 k9
                  have K9 := hid (KX.out.trans k9)
                  clear k9 s3 s4
                  go_wp2_with fail
                  go_roundw
                  case rel => exact ⟨i2 + 1, true, by omega, by go_num, rfl, hid ⟨fun _ => rfl, fun _ _ _ _ _ => rfl⟩, K9.out⟩
                  case measure => simp [intOf]; omega
                | false =>
                  by_cases hN : (s.upto : Int) - s.frm = N
                  · have c1 : ((s.upto : Int) - (s.frm : Int) == N) = true := by simpa using hN
                    clear hN
                    go_wp2_with fail
                    refine wp_region_keep (by kernel_rfl) (by kernel_rfl) ?_
                    repeat (first | go_big_quiet_skip | ((first | refine wpKeep_load rfl ?_ | refine wpKeep_other rfl ?_); (first | go_big_quiet_step (fail) | quiet_step (fail)); refine wpQuiet_nil ?_; refine Shut.mk ?_) | (refine wpQuiet_step (fun K hK => ?_); go_simp; first | (refine hK _ ?_; clear hK K) | (apply Exists.intro; refine ⟨fun w9 k9 => ?_, hK _ ?_⟩; (fail); clear hK K)))
                    refine wpQuiet_nil ?_
                    intro w9 k9
                    have K9 := hid (KX.out.trans k9)
                    clear k9 s3 s4
                    go_wp2_with fail
                    go_roundw
                    case rel => exact ⟨i2 + 1, true, by omega, by go_num, rfl, hid ⟨fun _ => rfl, fun _ _ _ _ _ => rfl⟩, K9.out⟩
                    case measure => simp [intOf]; omega
                  · have c1 : ((s.upto : Int) - (s.frm : Int) == N) = false := by simpa using hN
                    have HN := hid hN
                    clear hN
                    go_wp2_with fail
                    refine wp_region_keep (by kernel_rfl) (by kernel_rfl) ?_
                    repeat (first | go_big_quiet_skip | ((first | refine wpKeep_load rfl ?_ | refine wpKeep_other rfl ?_); (first | go_big_quiet_step (fail) | quiet_step (fail)); refine wpQuiet_nil ?_; refine Shut.mk ?_) | (refine wpQuiet_step (fun K hK => ?_); go_simp; first | (refine hK _ ?_; clear hK K) | (apply Exists.intro; refine ⟨fun w9 k9 => ?_, hK _ ?_⟩; (fail); clear hK K)))
                    refine wpQuiet_nil ?_
                    intro w9 k9
                    have K9 := hid (KX.out.trans k9)
                    clear k9 s3 s4
                    go_wp2_with fail
                    go_roundw
                    case rel =>
                      refine ⟨i2 + 1, false, by omega, by go_num, rfl, hid ⟨Hf2.out.1, fun a s' ha hs' hN' => ?_⟩, K9.out⟩
                      by_cases hai : a = i2
                      · subst hai
                        rw [Hs.out] at hs'
                        cases hs'
                        exact absurd hN'.symm HN.out
                      · exact Hf2.out.2 a s' (by omega) hs' hN'
                    case measure => simp [intOf]; omega
              · have a2 : decide (i2 < q.length) = false := by simpa using hil
                have Hil := hid hil
                clear hil
                go_wp2_with fail
                go_roundw
                case rel =>
                  refine ⟨k + 1, fb2, false, by omega, by go_num, rfl, rfl, hid ⟨fun h => Hf2.out.1 (Hf.out.1 h), fun j t' s hj ht' hl hs hN => ?_⟩, hid (fun h => by cases h), K8.out.trans KX.out⟩
                  by_cases hjk : j = k
                  · subst hjk
                    rw [Ht.out] at ht'
                    cases ht'
                    rw [Hq.out] at hs
                    obtain ⟨a, ha⟩ := List.getElem?_of_mem hs
                    have hal := (List.getElem?_eq_some_iff.1 ha).1
                    have := Hil.out
                    exact Hf2.out.2 a s (by omega) ha hN
                  · exact Hf2.out.1 (Hf.out.2 j t' s (by omega) ht' hl hs hN)
                case measure => simp [intOf]; omega
        · have a1 : decide (k < m.ts.length) = false := by simpa using hlt
          have hfb : fb = true := by
            rcases Htl.out with h | ⟨j, t, s, h1, h2, h3, h4⟩
            · exact Hf.out.1 h
            · have := (List.getElem?_eq_some_iff.1 h1).1
              exact Hf.out.2 j t s (by omega) h1 h2 h3 h4
          subst hfb
          cases lb with
          | false =>
            have HC := hid (admitruns_any hG (glob_new Hg.out (K1.out.trans (K3.out.trans KR.out))))
            go_wp2_with fail
            refine HC.out.mono ?_; rintro e w6 ⟨rfl, k6⟩
            have K6 := hid ((K1.out.trans (K3.out.trans KR.out)).trans k6)
            clear k6 HC
            go_wp2_with fail
            go_ret
            exact ⟨rfl, K6.out⟩
          | true =>
            have hall := Hlo.out (fun t ht => by
              obtain ⟨j, hj⟩ := List.getElem?_of_mem ht
              have hjl := (List.getElem?_eq_some_iff.1 hj).1
              have := Hl.out rfl j t (by omega) hj
              omega)
            have n0 : (N == 0) = true := by rw [hall.1]; rfl
            have hlg := longest_any (HY.out.keeps KR.out) i
            rw [hall.2] at hlg
            have HLg := hid hlg
            clear hall hlg
            go_wp2_with fail
            refine HLg.out.mono ?_; rintro e w5 ⟨rfl, k5⟩
            have K5 := hid (KR.out.trans k5)
            have HC := hid (admitruns_any hG (glob_new Hg.out (K1.out.trans (K3.out.trans K5.out))))
            clear k5 HLg
            go_wp2_with fail
            refine HC.out.mono ?_; rintro e w6 ⟨rfl, k6⟩
            have K6 := hid ((K1.out.trans (K3.out.trans K5.out)).trans k6)
            clear k6 HC
            go_wp2_with fail
            go_ret
            exact ⟨rfl, K6.out⟩
end
end Go.Proofs.YtdjgijndcjbpiaaGreatDoor
