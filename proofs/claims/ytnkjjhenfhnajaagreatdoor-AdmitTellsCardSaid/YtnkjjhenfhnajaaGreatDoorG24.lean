/-
  Texts Rad Rae Raf in one.
-/
import Derived.Test.YtnkjjhenfhnajaaGreatDoorRps
import Derived.Test.YtnkjjhenfhnajaaGreatDoorG23
import Derived.Test.YtnkjjhenfhnajaaGreatDoorG17
import Derived.Test.YtnkjjhenfhnajaaGreatDoorG14
import Derived.Test.YtnkjjhenfhnajaaGreatDoorG04
/-
  keelref4: program, Pattern, walked; the table's Sound, Check and Add as plain data.
-/
namespace Go
namespace Tm
/-- Check, but for the stack. -/
def TM.sound (m : TM) (x : Task) : Int :=
  if (prog x).2 ≠ 0 then (prog x).2
  else if Cm.legal x.name.data.toList = false then 2
  else if (find m.ts x.name).isSome then 3
  else if bad x.level x.frame ∨ timesOk x = false then 1
  else if needsErr m.units x.needs ≠ 0 then needsErr m.units x.needs
  else if 64 ≤ m.ts.length then 4
  else 0
theorem check_sound (m : TM) (x : Task) : m.check x = if m.sound x ≠ 0 then m.sound x else if m.words < withOne m.ts x.level x.frame then 25 else 0 := by
  unfold TM.check TM.sound
  split
  · first | rfl | simp_all
  · split
    · first | rfl | simp_all
    · split
      · first | rfl | simp_all
      · split
        · first | rfl | simp_all
        · split
          · first | rfl | simp_all
          · split
            · first | rfl | simp_all
            · simp
theorem parse_err_ne {l : List UInt8} {a e : Int} (h : Cm.parse l = .err a e) : e ≠ 0 ∧ Cm.program l = ([], e) := by
  have hp : Cm.program l = ([], e) := by unfold Cm.program; rw [h]
  refine ⟨?_, hp⟩
  unfold Cm.parse at h
  split at h
  · simp only [Cm.Res.err.injEq] at h; omega
  · have := Cm.parseT_err h
    unfold Cm.okE at this
    omega
end Tm
namespace Proofs.YtnkjjhenfhnajaaGreatDoor
open Go.RowKit Go.Kw Go.Kreg Go.Tm
set_option linter.unusedSimpArgs false
set_option linter.unusedVariables false

set_option maxRecDepth 100000 in
set_option maxHeartbeats 2000000 in
theorem programR_any (w : World) (s : ByteArray) (R : List Cm.Op × Int) (hR : Cm.program s.data.toList = R) :
    Calls Tryz.prog 141 #[.string s] w fun e w' => ∃ lv, e = .returned (.tuple #[lv, .int .i64 R.2]) ∧ Keeps (fun _ => False) w w' ∧ (R.2 = 0 → St (fun _ => False) w [.row TOp 4 lv R.1.length (opsC R.1)] w') := by
  have hp := parseR_any w s
  obtain ⟨R1, R2⟩ := R
  have HR := hid hR
  have HP := hid hp
  clear hp hR
  go_enter Tryz.func141, Tryz.ntmps141
  go_wp2_with fail
  refine HP.out.mono ?_; rintro e w1 (⟨at_, e1, rfl, Hx, k1⟩ | ⟨ops, ov, rfl, Hx, hS⟩)
  · obtain ⟨hne, hpr⟩ := parse_err_ne Hx.out
    rw [HR.out] at hpr
    obtain ⟨rfl, rfl⟩ := Prod.mk.inj hpr
    have b1 : (R2 != 0) = true := by simpa using hne
    have Hne := hid hne
    have K1 := hid k1
    clear hpr hne k1 HP Hx HR
    go_wp2_with fail
    go_ret2
    exact ⟨_, rfl, K1.out, fun h => absurd h Hne.out⟩
  · obtain ⟨hpo, hl⟩ := Hx.out
    have hst : Cm.steps ops = (R1, R2) := by
      have := HR.out
      unfold Cm.program at this
      rw [hpo] at this
      exact this
    obtain ⟨F1, h1, hM⟩ := hS
    have hsr := stepsR_any h1 hl (R1, R2) hst
    have HM := hid hM
    have HT := hid hsr
    clear hpo hst h1 hM hsr HP Hx HR
    go_wp2_with fail
    refine HT.out.mono ?_; rintro e w2 ⟨lv, rfl, hor⟩
    have Hor := hid hor
    clear hor HT
    go_wp2_with fail
    go_ret2
    refine ⟨lv, rfl, ?_⟩
    rcases Hor.out with ⟨h0, F2, h2, hM2⟩ | ⟨h0, F2, h2, hM2⟩
    · exact ⟨(HM.out.trans hM2).1, fun h => absurd h h0⟩
    · exact ⟨(HM.out.trans hM2).1, fun _ => ⟨F2, h2, HM.out.trans hM2⟩⟩

set_option maxRecDepth 100000 in
set_option maxHeartbeats 2000000 in
theorem patternR_any (w : World) (t : Task) (na : Option Addr) (nl nc : Nat) : Calls Tryz.prog 143 #[taskV t (.slice na nl nc)] w fun e w' => e = .returned (.bool (timesOk t)) ∧ Keeps (fun _ => False) w w' := by
  obtain ⟨R, hR⟩ : ∃ R, R = timesOk t := ⟨_, rfl⟩
  rw [← hR]
  unfold timesOk at hR
  unfold taskV
  have ga := fun w => gapR_any w t.period
  have gb := fun w => gapR_any w t.first
  have gc := fun w => gapR_any w t.gap
  have oa : gapOk t.period = true → 0 ≤ t.period := fun h => by unfold gapOk at h; simp at h; omega
  have oc : gapOk t.gap = true → 0 ≤ t.gap := fun h => by unfold gapOk at h; simp at h; omega
  generalize gapOk t.period = A at *
  generalize gapOk t.first = B at *
  generalize gapOk t.gap = C at *
  generalize t.period = a at *
  generalize t.first = b at *
  generalize t.gap = c at *
  cases A with
  | false =>
    obtain rfl : R = false := by rw [hR]; rfl
    clear hR oa oc
    go_enter Tryz.func143, Tryz.ntmps143
    go_wp2_with fail
    refine (ga _).mono ?_; rintro e w1 ⟨rfl, rfl⟩
    go_wp2_with fail
    go_ret
    exact ⟨rfl, (Keeps.refl _ _).alloc _⟩
  | true =>
    cases B with
    | false =>
      obtain rfl : R = false := by rw [hR]; rfl
      clear hR oa oc
      go_enter Tryz.func143, Tryz.ntmps143
      go_wp2_with fail
      refine (ga _).mono ?_; rintro e w1 ⟨rfl, rfl⟩
      go_wp2_with fail
      refine (gb _).mono ?_; rintro e w1 ⟨rfl, rfl⟩
      go_wp2_with fail
      go_ret
      exact ⟨rfl, (Keeps.refl _ _).alloc _⟩
    | true =>
      cases C with
      | false =>
        obtain rfl : R = false := by rw [hR]; rfl
        clear hR oa oc
        go_enter Tryz.func143, Tryz.ntmps143
        go_wp2_with fail
        refine (ga _).mono ?_; rintro e w1 ⟨rfl, rfl⟩
        go_wp2_with fail
        refine (gb _).mono ?_; rintro e w1 ⟨rfl, rfl⟩
        go_wp2_with fail
        refine (gc _).mono ?_; rintro e w1 ⟨rfl, rfl⟩
        go_wp2_with fail
        go_ret
        exact ⟨rfl, (Keeps.refl _ _).alloc _⟩
      | true =>
        have oa := oa rfl
        have oc := oc rfl
        simp only [Bool.true_and] at hR
        by_cases ha : 0 < a
        · have b1 : decide (0 < a) = true := by simpa using ha
          have h0 : decide (a = 0) = false := decide_eq_false (by omega)
          rw [h0, b1, Bool.false_or] at hR
          by_cases hc : 0 < c
          · have b2 : decide (0 < c) = true := by simpa using hc
            have h1 : decide (c = 0) = false := decide_eq_false (by omega)
            obtain rfl : R = false := by rw [hR, h1]; rfl
            clear hR oa oc ha hc h0 h1
            go_enter Tryz.func143, Tryz.ntmps143
            go_wp2_with fail
            refine (ga _).mono ?_; rintro e w1 ⟨rfl, rfl⟩
            go_wp2_with fail
            refine (gb _).mono ?_; rintro e w1 ⟨rfl, rfl⟩
            go_wp2_with fail
            refine (gc _).mono ?_; rintro e w1 ⟨rfl, rfl⟩
            go_wp2_with fail
            go_ret
            exact ⟨rfl, (Keeps.refl _ _).alloc _⟩
          · have b2 : decide (0 < c) = false := by simpa using hc
            have h1 : decide (c = 0) = true := decide_eq_true (by omega)
            rw [h1, Bool.true_and] at hR
            have HR := hid hR
            by_cases hb : 0 < b
            · have b3 : decide (0 < b) = true := by simpa using hb
              obtain rfl : R = true := by rw [hR, b3]; rfl
              clear hR HR oa oc ha hc h0 h1 hb
              go_enter Tryz.func143, Tryz.ntmps143
              go_wp2_with fail
              refine (ga _).mono ?_; rintro e w1 ⟨rfl, rfl⟩
              go_wp2_with fail
              refine (gb _).mono ?_; rintro e w1 ⟨rfl, rfl⟩
              go_wp2_with fail
              refine (gc _).mono ?_; rintro e w1 ⟨rfl, rfl⟩
              go_wp2_with fail
              go_ret
              exact ⟨rfl, (Keeps.refl _ _).alloc _⟩
            · have b3 : decide (0 < b) = false := by simpa using hb
              obtain rfl : R = false := by rw [hR, b3]; rfl
              clear hR HR oa oc ha hc h0 h1 hb
              go_enter Tryz.func143, Tryz.ntmps143
              go_wp2_with fail
              refine (ga _).mono ?_; rintro e w1 ⟨rfl, rfl⟩
              go_wp2_with fail
              refine (gb _).mono ?_; rintro e w1 ⟨rfl, rfl⟩
              go_wp2_with fail
              refine (gc _).mono ?_; rintro e w1 ⟨rfl, rfl⟩
              go_wp2_with fail
              go_ret
              exact ⟨rfl, (Keeps.refl _ _).alloc _⟩
        · have b1 : decide (0 < a) = false := by simpa using ha
          have h0 : decide (a = 0) = true := decide_eq_true (by omega)
          rw [h0, b1, Bool.true_or, Bool.true_and] at hR
          by_cases hb : 0 < b
          · have b3 : decide (0 < b) = true := by simpa using hb
            obtain rfl : R = false := by rw [hR, b3]; rfl
            clear hR oa oc ha h0 hb
            go_enter Tryz.func143, Tryz.ntmps143
            go_wp2_with fail
            refine (ga _).mono ?_; rintro e w1 ⟨rfl, rfl⟩
            go_wp2_with fail
            refine (gb _).mono ?_; rintro e w1 ⟨rfl, rfl⟩
            go_wp2_with fail
            refine (gc _).mono ?_; rintro e w1 ⟨rfl, rfl⟩
            go_wp2_with fail
            go_ret
            exact ⟨rfl, (Keeps.refl _ _).alloc _⟩
          · have b3 : decide (0 < b) = false := by simpa using hb
            obtain rfl : R = true := by rw [hR, b3]; rfl
            clear hR oa oc ha h0 hb
            go_enter Tryz.func143, Tryz.ntmps143
            go_wp2_with fail
            refine (ga _).mono ?_; rintro e w1 ⟨rfl, rfl⟩
            go_wp2_with fail
            refine (gb _).mono ?_; rintro e w1 ⟨rfl, rfl⟩
            go_wp2_with fail
            refine (gc _).mono ?_; rintro e w1 ⟨rfl, rfl⟩
            go_wp2_with fail
            go_ret
            exact ⟨rfl, (Keeps.refl _ _).alloc _⟩
end Proofs.YtnkjjhenfhnajaaGreatDoor
end Go

/-
  The reference's table of tasks: Sound and Check, walked.
-/
namespace Go.Proofs.YtnkjjhenfhnajaaGreatDoor
open Go.RowKit Go.Kw Go.Kreg Go.Tm
set_option linter.unusedSimpArgs false
set_option linter.unusedVariables false

abbrev taskL (x : Task) (nd : Value) : List Value := [.string x.name, .int .i64 x.level, .int .i64 x.frame, nd, .string x.code, .int .i64 x.period, .int .i64 x.first, .int .i64 x.gap]
section
variable {w : World} {p : Nat} {m : TM} {y : RefX}
set_option maxRecDepth 100000 in
set_option maxHeartbeats 8000000 in
theorem soundR_any (h : RefAt w p m y) (x : Task) {nd : Value} (hv : SlNd w nd x.needs) (hnm : x.name.size ≤ 9223372036854775807) : Calls Tryz.prog 79 #[.pointer (some ⟨p, 0, none⟩), taskV x nd] w fun e w' => e = .returned (.int .i64 (m.sound x)) ∧ Keeps (fun _ => False) w w' := by
  have hv' := hv
  obtain ⟨na, nc, rfl, hnl1, hnl2, hnl3, -, -, hnb⟩ := hv
  have hfew := h.few
  have hB := Blk.new w TTk (taskL x (.slice na x.needs.length nc))
  have k0 := (Keeps.refl (fun _ => False) w).alloc (.cells (taskL x (.slice na x.needs.length nc)).toArray TTk)
  have hpr := programR_any (w.alloc (.cells (taskL x (.slice na x.needs.length nc)).toArray TTk)) x.code _ rfl
  have hlen : x.code.size ≤ 9223372036854775807 ∨ True := .inr trivial
  obtain ⟨R, hR⟩ : ∃ R, m.sound x = R := ⟨_, rfl⟩
  rw [hR]
  unfold TM.sound prog at hR
  have HR := hid hR
  have H := hid h
  have HV := hid hv'
  have HB := hid hB
  have HK := hid k0
  have HP := hid hpr
  have Hnb := hid hnb
  unfold taskV
  clear h hv' hB k0 hpr hR hnb hlen
  go_enter Tryz.func79, Tryz.ntmps79
  go_wp2_with fail
  refine HP.out.mono ?_; rintro e w1 ⟨lv, rfl, k1, -⟩
  have HB1 := hid (k1.blk HB.out id)
  have HK1 := hid (HK.out.trans k1)
  clear k1 HB HP HK
  have HK := HK1
  obtain ⟨c0, c1, c2, c3, c4, c5, c6, c7, cz⟩ := cells8 HB1.out
  have hr := HR.out
  generalize (Cm.program x.code.data.toList).2 = E at *
  by_cases hE : E ≠ 0
  · rw [if_pos hE] at hr
    have bE : (E != 0) = true := by simpa using hE
    subst hr
    clear hE HR
    go_wp2_with fail
    go_ret
    exact ⟨rfl, HK.out⟩
  · rw [if_neg hE] at hr
    have bE : (E != 0) = false := by simpa using hE
    have HR1 := hid hr
    clear hE hr HR
    go_wp2_with fail
    have hlg := legalR_any x.name hnm w1
    have Hlg := hid hlg
    clear hlg
    refine Hlg.out.mono ?_; rintro e w2 ⟨rfl, k2⟩
    have HK2 := hid (HK.out.trans k2)
    have HB2 := hid (k2.blk HB1.out id)
    generalize Cm.legal x.name.data.toList = lg at *
    clear k2 HK HK1 HB1 Hlg c0 c1 c2 c3 c4 c5 c6 c7 cz
    have HK := HK2
    obtain ⟨c0, c1, c2, c3, c4, c5, c6, c7, cz⟩ := cells8 HB2.out
    have hr := HR1.out
    cases lg with
    | false =>
      rw [if_pos rfl] at hr
      subst hr
      clear HR1
      go_wp2_with fail
      go_ret
      exact ⟨rfl, HK.out⟩
    | true =>
      rw [if_neg (by simp)] at hr
      have HR2 := hid hr
      clear hr HR1
      have H2 := hid (H.out.keeps HK.out)
      have HV2 := hid (HV.out.new HK.out)
      have hfd := findR_any H2.out x.name
      have Hfd := hid hfd
      clear hfd
      go_wp2_with fail
      refine Hfd.out.mono ?_; rintro e w3 ⟨rfl, rfl⟩
      have hr := HR2.out
      generalize find m.ts x.name = fo at *
      cases hfo : fo.isSome with
      | true =>
        rw [if_pos hfo] at hr
        subst hr
        clear HR2 Hfd
        go_wp2_with fail
        go_ret
        exact ⟨rfl, HK.out⟩
      | false =>
        rw [if_neg (by rw [hfo]; decide)] at hr
        have HR3 := hid hr
        clear hr HR2 Hfd
        by_cases hbad : bad x.level x.frame
        · have hr := HR3.out
          rw [if_pos (.inl hbad)] at hr
          subst hr
          rcases bad_cases hbad with f1 | ⟨f1, f2⟩ | ⟨f1, f2, f3⟩ | ⟨f1, f2, f3, f4⟩
          all_goals
            clear hbad HR3
            go_wp2_with fail
            go_ret
            exact ⟨rfl, HK.out⟩
        · obtain ⟨f1, f2, f3, f4⟩ := not_bad hbad
          have hpt := fun w => patternR_any w x na x.needs.length nc
          unfold taskV at hpt
          have hr := HR3.out
          cases hto : timesOk x with
          | false =>
            rw [if_pos (.inr hto)] at hr
            rw [hto] at hpt
            subst hr
            clear hbad HR3 hto
            go_wp2_with fail
            refine (hpt _).mono ?_; rintro e w4 ⟨rfl, k4⟩
            have HK4 := hid (HK.out.trans k4)
            go_wp2_with fail
            go_ret
            exact ⟨rfl, HK4.out⟩
          | true =>
            rw [if_neg (by rw [hto]; exact fun h => h.elim hbad (by simp))] at hr
            rw [hto] at hpt
            have HR4 := hid hr
            clear hbad HR3 hto hr
            go_wp2_with fail
            refine (hpt _).mono ?_; rintro e w4 ⟨rfl, k4⟩
            have HK4 := hid (HK.out.trans k4)
            have HB4 := hid (k4.blk HB2.out id)
            have H4 := hid (H2.out.keeps k4)
            have HV4 := hid (HV2.out.new k4)
            clear k4 HB2 H2 HV2 c0 c1 c2 c3 c4 c5 c6 c7 cz hpt H HV HK HK2 f1 f2 f3 f4 hfo bE
            have HK := HK4
            clear HK4
            generalize w.heap.size = xb at *
            generalize x.needs = l at *
            obtain ⟨ua, uc, euv⟩ := ref_ushape H4.out
            obtain ⟨ta, tc, etv⟩ := ref_shape H4.out
            have hun := H4.out.units
            rw [euv] at hun
            have hrc := H4.out.cells
            rw [euv, etv] at hrc
            have Hrc := hid hrc
            have Hun := hid hun
            obtain ⟨_, _, e1, -, -, -, hc, -, -⟩ := HV4.out
            cases e1
            have Hc := hid hc
            have hr := HR4.out
            obtain ⟨NE, hNE⟩ : ∃ NE, needsErr m.units l = NE := ⟨_, rfl⟩
            rw [hNE] at hr
            have HR := hid hr
            have HNE := hid (show needsFrom m.units (preOf l 0) (l.drop 0) = NE from hNE)
            clear hun hrc hc hr HR4 hNE HV4 euv etv H4
            go_wp2_with fail
            go_loopw [9] (fun y wr => ∃ k : Nat, k ≤ l.length ∧ y = .int .i64 k ∧ Hid (needsFrom m.units (preOf l k) (l.drop k) = NE) ∧ Keeps (fun _ => False) w4 wr) (fun y _ => l.length - (intOf y).toNat)
            case atStart => exact ⟨0, Nat.zero_le _, rfl, HNE, Keeps.refl _ _⟩
            case round =>
              clear HNE
              obtain ⟨k, hk, rfl, Hq, hK⟩ := hrel
              obtain ⟨c0, c1, c2, c3, c4, c5, c6, c7, cz⟩ := cells8 (hK.blk HB4.out id)
              obtain ⟨r0, r1, r2, rz⟩ := Hrc.out
              have r0 := cellIn hK r0
              have r1 := cellIn hK r1
              have r2 := cellIn hK r2
              have HKr := hid hK
              clear hK rz
              by_cases hlt : k < l.length
              · have b1 : decide (k < l.length) = true := by simpa using hlt
                have hxk := List.getElem?_eq_getElem hlt
                have hd := List.drop_eq_getElem_cons hlt
                have hpre : preOf l (k + 1) = some l[k] := by unfold preOf; rw [if_neg (by omega), Nat.add_sub_cancel, hxk]
                obtain ⟨b, o, rfl, d0, d1⟩ := Hc.out k _ hxk
                have hbx := Hnb.out _ (List.getElem_mem hlt)
                have hq := Hq.out
                rw [hd, needsFrom_cons, ← hpre] at hq
                have hpr : ∀ q, preOf l k = some q → 0 < k ∧ w4.cell? ⟨b, o + (k - 1) * 2, none⟩ = some (.int .i64 q.res) := fun q hq => by
                  unfold preOf at hq
                  split at hq
                  · cases hq
                  · obtain ⟨b', o', e, e0, _⟩ := Hc.out (k - 1) q hq
                    cases e
                    exact ⟨by omega, e0⟩
                have d0 := cellIn HKr.out d0
                have d1 := cellIn HKr.out d1
                generalize l[k] = nd at *
                have i0 : (0 : Int) ≤ (k : Int) := by omega
                have i1 : (k : Int) < (l.length : Int) := by omega
                have Hbx := hid hbx
                have Hpr := hid hpr
                have Hq2 := hid hq
                clear hxk hd hpre hpr hq Hq hbx
                have one : (nd.res < 0 ∨ (m.units.length : Int) ≤ nd.res ∨ nd.units < 1 ∨ m.units.getD nd.res.toNat 0 < nd.units) → NE = 1 := fun h => by have := Hq2.out; rw [if_pos h] at this; exact this.symm
                by_cases e1 : nd.res < 0
                · have hN := hid (one (.inl e1))
                  have f1 : decide (nd.res < 0) = true := by simpa using e1
                  clear one e1
                  go_wp2_with fail
                  go_quiet (fail)
                  go_wp2_with fail
                  go_ret
                  have hr := HR.out
                  rw [if_pos (by rw [hN.out]; decide), hN.out] at hr
                  exact ⟨ret_int hr, ((HK.out.trans HKr.out).alloc _).drewN nq⟩
                · by_cases e2 : (m.units.length : Int) ≤ nd.res
                  · have hN := hid (one (.inr (.inl e2)))
                    have f1 : decide (nd.res < 0) = false := by simpa using e1
                    have f2 : decide ((m.units.length : Int) ≤ nd.res) = true := by simpa using e2
                    clear one e1 e2
                    go_wp2_with fail
                    go_quiet (fail)
                    go_wp2_with fail
                    go_ret
                    have hr := HR.out
                    rw [if_pos (by rw [hN.out]; decide), hN.out] at hr
                    exact ⟨ret_int hr, ((HK.out.trans HKr.out).alloc _).drewN nq⟩
                  · by_cases e3 : nd.units < 1
                    · have hN := hid (one (.inr (.inr (.inl e3))))
                      have f1 : decide (nd.res < 0) = false := by simpa using e1
                      have f2 : decide ((m.units.length : Int) ≤ nd.res) = false := by simpa using e2
                      have f3 : decide (nd.units < 1) = true := by simpa using e3
                      clear one e1 e2 e3
                      go_wp2_with fail
                      go_quiet (fail)
                      go_wp2_with fail
                      go_ret
                      have hr := HR.out
                      rw [if_pos (by rw [hN.out]; decide), hN.out] at hr
                      exact ⟨ret_int hr, ((HK.out.trans HKr.out).alloc _).drewN nq⟩
                    · have hu : m.units[nd.res.toNat]? = some (m.units.getD nd.res.toNat 0) := by
                        have hul : nd.res.toNat < m.units.length := by omega
                        rw [List.getD_eq_getElem?_getD, List.getElem?_eq_getElem hul]; rfl
                      obtain ⟨ug, ucap, eu, _⟩ := Hun.out.form (by omega)
                      cases eu
                      have du := cellIn HKr.out (Hun.out.cells' (g := ug) rfl (intsC_at hu))
                      generalize m.units.getD nd.res.toNat 0 = U at *
                      have f1 : decide (nd.res < 0) = false := by simpa using e1
                      have f2 : decide ((m.units.length : Int) ≤ nd.res) = false := by simpa using e2
                      have f3 : decide (nd.units < 1) = false := by simpa using e3
                      have g1 : 0 ≤ nd.res := by omega
                      have g2 : nd.res < (m.units.length : Int) := by omega
                      by_cases e4 : U < nd.units
                      · have hN := hid (one (.inr (.inr (.inr e4))))
                        have f4 : decide (U < nd.units) = true := by simpa using e4
                        clear one e1 e2 e3 e4 hu
                        go_wp2_with fail
                        go_quiet (fail)
                        go_wp2_with fail
                        go_ret
                        have hr := HR.out
                        rw [if_pos (by rw [hN.out]; decide), hN.out] at hr
                        exact ⟨ret_int hr, ((HK.out.trans HKr.out).alloc _).drewN nq⟩
                      · have hq := Hq2.out
                        rw [if_neg (by omega)] at hq
                        have f4 : decide (U < nd.units) = false := by simpa using e4
                        have Hq3 := hid hq
                        clear one e1 e2 e3 e4 hu hq Hq2
                        go_wp2_with fail
                        go_quiet (fail)
                        revert nq; intro n1
                        go_wp2_with fail
                        have hq := Hq3.out
                        by_cases hk0 : k = 0
                        · subst hk0
                          rw [show preOf l 0 = none from rfl] at hq
                          simp only [Bool.false_eq_true, if_false] at hq
                          have Hq4 := hid hq
                          clear hq Hq3
                          go_quiet (fail)
                          go_wp2_with fail
                          go_roundw
                          case rel => exact ⟨1, by omega, rfl, Hq4, by first | exact (HKr.out.alloc _).drewN _ | exact ((HKr.out.alloc _).drewN _).drewN _⟩
                          case measure => simp [intOf]; omega
                        · have hlk : k - 1 < l.length := by omega
                          have hpq : preOf l k = some l[k - 1] := by unfold preOf; rw [if_neg hk0, List.getElem?_eq_getElem hlk]
                          obtain ⟨_, dp⟩ := Hpr.out _ hpq
                          rw [hpq] at hq
                          have dp := cellIn HKr.out dp
                          generalize l[k - 1] = q at *
                          have t0 : decide (0 < k) = true := by simp; omega
                          have t1 : (0 : Int) ≤ (k : Int) - 1 := by omega
                          have t2 : (k : Int) - 1 < (l.length : Int) := by omega
                          have t3 : ((k : Int) - 1).toNat = k - 1 := by omega
                          by_cases hle : nd.res ≤ q.res
                          · have f5 : decide (nd.res ≤ q.res) = true := by simpa using hle
                            simp only [hle, decide_true, if_true] at hq
                            have Hq4 := hid hq
                            clear hq Hq3 hpq hle hk0
                            go_quiet (fail)
                            go_wp2_with fail
                            go_ret
                            have hr := HR.out
                            rw [if_pos (by rw [← Hq4.out]; decide), ← Hq4.out] at hr
                            exact ⟨ret_int hr, (HK.out.trans HKr.out |>.alloc _ |>.drewN n1).drewN nq⟩
                          · have f5 : decide (nd.res ≤ q.res) = false := by simpa using hle
                            simp only [hle, decide_false, Bool.false_eq_true, if_false] at hq
                            have Hq4 := hid hq
                            clear hq Hq3 hpq hle hk0
                            go_quiet (fail)
                            go_wp2_with fail
                            go_roundw
                            case rel => exact ⟨k + 1, by omega, by go_num, Hq4, by first | exact (HKr.out.alloc _).drewN _ | exact ((HKr.out.alloc _).drewN _).drewN _⟩
                            case measure => simp [intOf]; omega
              · have b1 : decide (k < l.length) = false := by simpa using hlt
                have hq := Hq.out
                rw [List.drop_eq_nil_of_le (by omega)] at hq
                have hr := HR.out
                rw [if_neg (by rw [← hq]; simp [needsFrom])] at hr
                have HR5 := hid hr
                clear hq hr HR Hq
                by_cases h64 : 64 ≤ m.ts.length
                · have a1 : decide ((64 : Int) ≤ (m.ts.length : Int)) = true := decide_eq_true (by omega)
                  have hr := HR5.out
                  rw [if_pos h64] at hr
                  subst hr
                  clear HR5
                  go_wp2_with fail
                  go_ret
                  exact ⟨rfl, HK.out.trans HKr.out⟩
                · have a1 : decide ((64 : Int) ≤ (m.ts.length : Int)) = false := decide_eq_false (by omega)
                  have hr := HR5.out
                  rw [if_neg h64] at hr
                  subst hr
                  clear HR5
                  go_wp2_with fail
                  go_ret
                  exact ⟨rfl, HK.out.trans HKr.out⟩
end
end Go.Proofs.YtnkjjhenfhnajaaGreatDoor

/-
  The reference's table of tasks: Check and Add, walked.
-/
namespace Go.Proofs.YtnkjjhenfhnajaaGreatDoor
open Go.RowKit Go.Kw Go.Kreg Go.Tm
set_option linter.unusedSimpArgs false
set_option linter.unusedVariables false

section
variable {w : World} {F : Nat → Prop} {p : Nat} {m : TM} {y : RefX}
set_option maxRecDepth 100000 in
set_option maxHeartbeats 4000000 in
theorem checkTR_any (h : RefAt w p m y) (x : Task) {nd : Value} (hv : SlNd w nd x.needs) (hnm : x.name.size ≤ 9223372036854775807) (hb : -9223372036854775808 ≤ x.frame ∧ x.frame ≤ 9223372036854775807) :
    Calls Tryz.prog 18 #[.pointer (some ⟨p, 0, none⟩), taskV x nd] w fun e w' => e = .returned (.int .i64 (m.check x)) ∧ Keeps (fun _ => False) w w' := by
  have hv' := hv
  obtain ⟨na, nc, rfl, -⟩ := hv
  have hwd := withOne_bd h.tok.ok.fit x.level x.frame
  have hbw := h.tok.ok.begins
  have k0 := (Keeps.refl (fun _ => False) w).alloc (.cells (taskL x (.slice na x.needs.length nc)).toArray TTk)
  have hB := Blk.new w TTk (taskL x (.slice na x.needs.length nc))
  have hsd := soundR_any (h.keeps k0) x (hv'.new k0) hnm
  have hck := check_sound m x
  obtain ⟨R, hR⟩ : ∃ R, m.check x = R := ⟨_, rfl⟩
  rw [hR] at hck ⊢
  have HR := hid hck
  have H0 := hid (h.keeps k0)
  have HB := hid hB
  have HK := hid k0
  have HS := hid hsd
  unfold taskV at *
  generalize m.sound x = E at *
  clear h hv' hB k0 hR hck hsd
  go_enter Tryz.func18, Tryz.ntmps18
  go_wp2_with fail
  refine HS.out.mono ?_; rintro e w1 ⟨rfl, k1⟩
  have HB1 := hid (k1.blk HB.out id)
  have HK1 := hid (HK.out.trans k1)
  have H1 := hid (H0.out.keeps k1)
  clear k1 HB HS HK H0
  obtain ⟨c0, c1, c2, c3, c4, c5, c6, c7, cz⟩ := cells8 HB1.out
  obtain ⟨r0, r1, r2, rz⟩ := H1.out.cells
  have hr := HR.out
  by_cases hE : E ≠ 0
  · rw [if_pos hE] at hr
    have bE : (E == 0) = false := by simpa using hE
    subst hr
    clear hE HR
    go_wp2_with fail
    go_quiet (fail)
    revert nq; intro n1
    go_wp2_with fail
    go_ret
    exact ⟨rfl, HK1.out.drewN n1⟩
  · rw [if_neg hE] at hr
    have bE : (E == 0) = true := by simpa using hE
    have hwr := fun n => withR_any (H1.out.keeps ((Keeps.refl _ _).drewN n)) x.level x.frame hb
    have hE0 : E = 0 := by simpa using hE
    subst hE0
    generalize withOne m.ts x.level x.frame = WO at *
    have hwd2 := hwd
    by_cases hlt : m.words < WO
    · have b1 : decide (m.words < WO) = true := by simpa using hlt
      rw [if_pos hlt] at hr
      subst hr
      have HW := hid hwr
      clear hE HR hlt hwr
      go_wp2_with fail
      go_quiet (exact (HW.out _).mono fun e w' h => ⟨h.1, _, h.2.symm⟩)
      revert nq; intro n1
      go_wp2_with fail
      go_ret
      exact ⟨rfl, HK1.out.drewN n1⟩
    · have b1 : decide (m.words < WO) = false := by simpa using hlt
      rw [if_neg hlt] at hr
      subst hr
      have HW := hid hwr
      clear hE HR hlt hwr
      go_wp2_with fail
      go_quiet (exact (HW.out _).mono fun e w' h => ⟨h.1, _, h.2.symm⟩)
      revert nq; intro n1
      go_wp2_with fail
      go_ret
      exact ⟨rfl, HK1.out.drewN n1⟩

set_option maxRecDepth 100000 in
set_option maxHeartbeats 4000000 in
theorem addR_any (h : Sts [refC p m] F w) (x : Task) {nd : Value} (hv : SlNd w nd x.needs) (hnm : x.name.size ≤ 9223372036854775807) (hb : -9223372036854775808 ≤ x.frame ∧ x.frame ≤ 9223372036854775807) :
    Calls Tryz.prog 20 #[.pointer (some ⟨p, 0, none⟩), taskV x nd] w fun e w' => e = .returned (.tuple #[.int .i64 (m.add x).1, .int .i64 (m.add x).2.1]) ∧ St F w [refC p (m.add x).2.2] w' := by
  have hv' := hv
  obtain ⟨na, nc, rfl, -⟩ := hv
  have hS0 := (St.of h).new TTk (taskL x (.slice na x.needs.length nc))
  simp only [Kw.red] at hS0
  have k0 := (Keeps.refl (fun _ => False) w).alloc (.cells (taskL x (.slice na x.needs.length nc)).toArray TTk)
  have hV0 := hv'.new k0
  obtain ⟨y0, hy0⟩ := ref_at 0 hS0
  have hck := checkTR_any hy0 x hV0 hnm hb
  obtain ⟨c0, c1, c2, c3, c4, c5, c6, c7, cz⟩ := cells8 (hS0.blk 1)
  have HS0 := hid hS0
  have HV0 := hid hV0
  have HC := hid hck
  unfold taskV at *
  by_cases hc : m.check x ≠ 0
  · have ha : m.add x = (-1, m.check x, m) := by unfold TM.add; rw [if_pos hc]
    rw [ha]
    have bc : (m.check x != 0) = true := by simpa using hc
    generalize m.check x = E at *
    clear hc ha h hv' hS0 hV0 hy0 hck k0
    go_enter Tryz.func20, Tryz.ntmps20
    go_wp2_with fail
    refine HC.out.mono ?_; rintro e w1 ⟨rfl, k1⟩
    have HS1 := hid (HS0.out.step k1)
    clear k1 HC HS0
    go_wp2_with fail
    go_ret2
    exact ⟨rfl, HS1.out.sub [0]⟩
  · have hc0 : m.check x = 0 := by simpa using hc
    have ha : m.add x = ((m.ts.length : Int), 0, ⟨m.words, m.units, m.ts ++ [x]⟩) := by unfold TM.add; rw [if_neg hc]
    rw [ha]
    rw [hc0] at HC
    have hfit := TM.check_fit hc0
    have hfew := hfit.2.2.2.1
    have hok := TM.add_ok hy0.tok.ok x
    rw [ha] at hok
    have hnf : x.needs.length ≤ 16 := by
      have h1 := needs_few hfit.2.2.1
      have h2 := hy0.tok.ok.begins
      unfold begins at h2
      split at h2
      · omega
      · split at h2 <;> omega
    have Hok := hid hok
    clear hc ha h hv' hS0 hV0 hy0 hck hfit hc0 hok k0
    go_enter Tryz.func20, Tryz.ntmps20
    go_wp2_with fail
    refine HC.out.mono ?_; rintro e w1 ⟨rfl, k1⟩
    have hS1 := HS0.out.step k1
    obtain ⟨c0, c1, c2, c3, c4, c5, c6, c7, cz⟩ := cells8 (hS1.blk 1)
    have HV1 := hid (HV0.out.new k1)
    have HS1 := hid hS1
    clear k1 HC HS0 HV0 hS1
    have hS2 := (HS1.out.new TNd []).imp 2 (c := .pt w1.heap.size TNd []) (.row TNd 2 (.slice (some ⟨w1.heap.size, 0, none⟩) 0 0) 0 []) (fun F h => ⟨Own.of_blk (cap := 0) (n := 0) h.1 rfl (Nat.le_refl _) (by unfold maxLen; omega), fun b => (h.2 b).trans ⟨fun e => by rw [e]; rfl, fun e => by simpa [Value.ownBlock] using e.symm⟩⟩)
    simp only [Kw.red] at hS2
    have hV2 := HV1.out.new ((Keeps.refl (fun _ => False) w1).alloc (.cells #[] TNd))
    obtain ⟨ao', c', e1, hn1, hn2, hn3, hnc, hn0, hnb⟩ := id hV2
    cases e1
    have HS2 := hid hS2
    have HV2 := hid hV2
    have Hnc := hid (slnd_src hnc)
    have Hn0 := hid (show na = none → x.needs.length = 0 ∧ nc = 0 from fun e => by have := hn0 e; omega)
    clear hS2 hV2 hnc hn0 hnb HV1 HS1
    go_wp2_with (at_builtin; refine wpList_appX 2 _ _ TNds TNd (.agg #[.int .i64 0, .int .i64 0]) 2 16 infoNd Tryz.underlying36 rfl (by decide) rfl rfl HS2.out rfl rfl na x.needs.length nc (needsC x.needs) rfl (needsC_len _) Hn0.out Hnc.out (needsC_one _) (by unfold maxLen; omega) (by omega) ?_; intro nv' w2 hSA hat; simp only [Nat.zero_add, List.nil_append] at hSA; obtain ⟨da, dc, rfl, _⟩ := (hSA.own 2).shape; obtain ⟨e0, e1, e2, e3, e4, e5, e6, e7, ez⟩ := cells8 (hSA.blk 1))
    have hS4 := hSA.set 1 3 (.slice da x.needs.length dc)
    simp only [Kw.red] at hS4
    simp only [List.set_cons_succ, List.set_cons_zero] at hS4
    obtain ⟨y4, hS4⟩ := hS4.opens 0 (refCs p m) (fun F h => h)
    simp only [refCs] at hS4
    simp only [Kw.red] at hS4
    obtain ⟨yt, yn⟩ := id (show RefOk m y4 from hS4.pr 7)
    obtain ⟨c0, c1, c2, c3, c4, c5, c6, c7, cz⟩ := cells8 (hS4.blk 1)
    obtain ⟨r0, r1, r2, rz⟩ := cells3 (hS4.blk 3)
    obtain ⟨ta, tc, etv, -⟩ := (hS4.own 5).shape
    obtain ⟨uv4, tv4, nds4⟩ := y4
    simp only at etv r1 r2 yn
    subst etv
    have HS4 := hid hS4
    have Hyn := hid yn
    clear hS4 hSA HS2 e0 e1 e2 e3 e4 e5 e6 e7 ez
    go_wp2_with fail
    generalize w2.setCell ⟨w.heap.size, 3, none⟩ (.slice da x.needs.length dc) = w3 at *
    generalize w.heap.size = xb at *
    refine wp_region_mix [true, true, true, true, true, true, false, false, false, false, false] 1 (fun _ => False) (by kernel_rfl) (by decide +kernel) ?_
    simp only [front, back, List.take_succ_cons, List.take_zero, List.drop_succ_cons, List.drop_zero]
    repeat ((first | refine wpFront_load rfl ?_ | refine wpFront_other rfl ?_); (first | go_big_quiet_step (fail) | quiet_step (fail)); refine wpQuiet_nil ?_)
    refine wpFront_nil ?_
    simp only [wpSegs]
    go_wp2_with fail
    refine segQ_normal (((Keeps.refl _ _).alloc _).drew) ?_
    have hSb := (HS4.out.new TTk (taskL x (.slice da x.needs.length dc))).drew
    simp only [Kw.red] at hSb
    refine wpList_appS 5 8 _ _ TTks TTk (.agg ztask.toArray) 8 96 infoTk Tryz.underlying23 rfl (by decide) rfl rfl hSb rfl rfl rfl rfl rfl (task8_one x _ rfl) (by omega) (by unfold maxLen; omega) (by omega) ?_
    intro gb gc w7 hSc hat
    obtain ⟨k0, k1, k2, kz⟩ := cells3 (hSc.blk 3)
    clear c0 c1 c2 c3 c4 c5 c6 c7 cz r0 r1 r2 rz
    go_wp2_with fail
    refine NoPanic.normal ?_
    go_wp2_with fail
    go_ret2
    refine ⟨by first | rfl | (congr 1; congr 1; simp), ?_⟩
    have hSd := hSc.set 3 2 (.slice (some ⟨gb, 0, none⟩) (m.ts.length + 1) gc)
    simp only [Kw.red] at hSd
    simp only [List.set_cons_succ, List.set_cons_zero] at hSd
    have q2 := hSd.snoc 6 2
    simp only [Kw.red] at q2
    rw [← needsCh_app x (.slice da x.needs.length dc) Hyn.out, ← tasksV_app x (.slice da x.needs.length dc) Hyn.out] at q2
    have q3 := q2.imp 7 (c := .pr (RefOk m ⟨uv4, .slice ta m.ts.length tc, nds4⟩)) (.pr (RefOk ⟨m.words, m.units, m.ts ++ [x]⟩ ⟨uv4, .slice (some ⟨gb, 0, none⟩) (m.ts.length + 1) gc, nds4 ++ [Value.slice da x.needs.length dc]⟩)) (fun F h => ⟨⟨Hok.out, by simp [Hyn.out]⟩, h.2⟩)
    simp only [Kw.red] at q3
    have hl1 : m.ts.length + 1 = (m.ts ++ [x]).length := by simp
    rw [hl1] at q3
    have q4 := q3.fold [3, 4, 5, 6, 7] (refC p ⟨m.words, m.units, m.ts ++ [x]⟩) (fun F h => ⟨⟨uv4, .slice (some ⟨gb, 0, none⟩) (m.ts ++ [x]).length gc, nds4 ++ [Value.slice da x.needs.length dc]⟩, h⟩)
    have q5 := q4.sub [3]
    rw [← hl1] at q5
    exact q5

end
end Go.Proofs.YtnkjjhenfhnajaaGreatDoor
