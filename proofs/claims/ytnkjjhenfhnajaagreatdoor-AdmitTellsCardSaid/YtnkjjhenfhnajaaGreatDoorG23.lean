/-
  Texts Rck Rst in one.
-/
import Derived.Test.YtnkjjhenfhnajaaGreatDoorRfi
import Derived.Test.YtnkjjhenfhnajaaGreatDoorRpl
import Derived.Test.YtnkjjhenfhnajaaGreatDoorG09
/-
  keelref3.Check, walked.
-/
namespace Go.Proofs.YtnkjjhenfhnajaaGreatDoor
open Go.RowKit Go.Kw Go.Kreg Go.Cm
set_option linter.unusedSimpArgs false
set_option linter.unusedVariables false

section
variable {w : World} {F : Nat → Prop} {v : Value} {p : List Cm.Op}
set_option maxRecDepth 100000 in
set_option maxHeartbeats 4000000 in
theorem checkR_any (h : Sts [.row TOp 4 v p.length (opsC p)] F w) (hl : p.length ≤ 256) :
    Calls Tryz.prog 190 #[v] w fun e w' => e = .returned (.tuple #[.int .i64 (check p).1, .int .i64 (check p).2]) ∧ St F w [.row TOp 4 v p.length (opsC p)] w' := by
  have hR : check p = checkFrom p.length p 0 0 := by unfold check; rw [if_neg (by omega)]
  generalize check p = R at *
  have HR := hid hR
  have HS := hid (St.of h)
  have b1 : decide ((256 : Int) < (p.length : Int)) = false := by simp; omega
  obtain ⟨oa, oc, rfl, _⟩ := (HS.out.own 0).shape
  clear hR h
  go_enter Tryz.func190, Tryz.ntmps190
  go_wp2_with fail
  go_loopw [5, 4] (fun x y wr => ∃ (i : Nat) (opn : Int), i ≤ p.length ∧ 0 ≤ opn ∧ opn ≤ 4 ∧ x = .int .i64 i ∧ y = .int .i64 opn ∧ Hid (checkFrom p.length (p.drop i) i opn = R) ∧ St F w [.row TOp 4 (.slice oa p.length oc) p.length (opsC p)] wr) (fun x _ _ => p.length - (intOf x).toNat)
  case atStart => exact ⟨0, 0, Nat.zero_le _, by omega, by omega, rfl, rfl, hid HR.out.symm, HS.out⟩
  case round =>
    clear HS
    obtain ⟨i, opn, hi, hop0, hop4, rfl, rfl, HQ, hS⟩ := hrel
    have HS := hid hS
    clear hS
    by_cases hlt : i < p.length
    · have hx := List.getElem?_eq_getElem hlt
      have hdr : p.drop i = p[i] :: p.drop (i + 1) := List.drop_eq_getElem_cons hlt
      generalize p[i] = o at *
      obtain ⟨g, cap, e1, _⟩ := (HS.out.own 0).form (by omega)
      cases e1
      obtain ⟨x0, x1, x2, x3⟩ := opsC_at hx
      have d0 := (HS.out.own 0).cells' (g := g) rfl x0
      have d1 := (HS.out.own 0).cells' (g := g) rfl x1
      have d2 := (HS.out.own 0).cells' (g := g) rfl x2
      have d3 := (HS.out.own 0).cells' (g := g) rfl x3
      have hq := HQ.out
      rw [hdr] at hq
      have Hq := hid hq
      have i0 : (0 : Int) ≤ (i : Int) := by omega
      have i1 : (i : Int) < (p.length : Int) := by omega
      have b2 : decide ((i : Int) < (p.length : Int)) = true := by simp; omega
      have hfit := fun w => fits_any (w := w) o
      unfold opV at hfit
      clear hx hdr hq HQ
      go_wp2_with fail
      refine (hfit _).mono ?_; rintro e w2 ⟨rfl, k2⟩
      have HS2 := hid (HS.out.step k2)
      clear d0 d1 d2 d3
      have d0 := (HS2.out.own 0).cells' (g := g) rfl x0
      have d1 := (HS2.out.own 0).cells' (g := g) rfl x1
      have d2 := (HS2.out.own 0).cells' (g := g) rfl x2
      have d3 := (HS2.out.own 0).cells' (g := g) rfl x3
      have hq := Hq.out
      rw [checkFrom_cons] at hq
      clear k2 HS Hq x0 x1 x2 x3 hfit
      by_cases hf : fieldsOk o = false
      · rw [hf]
        rw [if_pos hf] at hq
        have Hq := hid hq
        clear hf hq
        go_wp2_with fail
        go_ret2
        exact ⟨ret_pair Hq.out, HS2.out⟩
      · have hf2 : fieldsOk o = true := by simpa using hf
        rw [hf2]
        rw [if_neg hf] at hq
        clear hf hf2
        by_cases h10 : o.kind = 10
        · have e10 : (o.kind == 10) = true := by simpa using h10
          have e11 : (o.kind == 11) = false := by simp; omega
          rw [if_pos h10] at hq
          by_cases h4 : opn = 4
          · rw [if_pos h4] at hq
            have Hq := hid hq
            have e4 : (opn == 4) = true := by simpa using h4
            clear h4 hq h10
            go_wp2_with fail
            go_ret2
            exact ⟨ret_pair Hq.out, HS2.out⟩
          · rw [if_neg h4] at hq
            have Hq := hid hq
            have e4 : (opn == 4) = false := by simpa using h4
            have hlt4 : opn + 1 ≤ 4 := by omega
            clear h4 hq h10
            go_wp2_with fail
            go_roundw
            case rel => exact ⟨i + 1, opn + 1, by omega, by omega, hlt4, by go_num, rfl, hid Hq.out, HS2.out⟩
            case measure => simp [intOf]; omega
        · have e10 : (o.kind == 10) = false := by simpa using h10
          rw [if_neg h10] at hq
          by_cases h11 : o.kind = 11
          · have e11 : (o.kind == 11) = true := by simpa using h11
            rw [if_pos h11] at hq
            by_cases h4 : opn = 0
            · rw [if_pos h4] at hq
              have Hq := hid hq
              have e4 : (opn == 0) = true := by simpa using h4
              clear h4 hq h11 h10
              go_wp2_with fail
              go_ret2
              exact ⟨ret_pair Hq.out, HS2.out⟩
            · rw [if_neg h4] at hq
              have Hq := hid hq
              have e4 : (opn == 0) = false := by simpa using h4
              have hlt4 : 0 ≤ opn - 1 := by omega
              clear h4 hq h11 h10
              go_wp2_with fail
              go_roundw
              case rel => exact ⟨i + 1, opn - 1, by omega, hlt4, by omega, by go_num, rfl, hid Hq.out, HS2.out⟩
              case measure => simp [intOf]; omega
          · have e11 : (o.kind == 11) = false := by simpa using h11
            rw [if_neg h11] at hq
            have Hq := hid hq
            clear hq h11 h10
            go_wp2_with fail
            go_roundw
            case rel => exact ⟨i + 1, opn, by omega, hop0, hop4, by go_num, rfl, hid Hq.out, HS2.out⟩
            case measure => simp [intOf]; omega
    · have b2 : decide ((i : Int) < (p.length : Int)) = false := by simp; omega
      have hq := HQ.out
      rw [List.drop_eq_nil_of_le (by omega)] at hq
      unfold checkFrom at hq
      by_cases hpos : 0 < opn
      · have b3 : decide (0 < opn) = true := by simpa using hpos
        rw [if_pos hpos] at hq
        have Hq := hid hq
        clear hq
        go_wp2_with fail
        go_ret2
        exact ⟨ret_pair Hq.out, HS.out⟩
      · have b3 : decide (0 < opn) = false := by simpa using hpos
        rw [if_neg hpos] at hq
        have Hq := hid hq
        clear hq
        go_wp2_with fail
        go_ret2
        exact ⟨ret_pair Hq.out, HS.out⟩
end
end Go.Proofs.YtnkjjhenfhnajaaGreatDoor

/-
  keelref3.Steps, walked.
-/
namespace Go.Proofs.YtnkjjhenfhnajaaGreatDoor
open Go.RowKit Go.Kw Go.Kreg Go.Cm
set_option linter.unusedSimpArgs false
set_option linter.unusedVariables false

theorem rplay_nil {F0 : Nat → Prop} {w0 w : World} {c0 : Ch} {rb : Nat} {out : List Cm.Op} {oa : Option Addr} {oc : Nat} (h : St F0 w0 [c0, runCh rb out .go] w) :
    Calls Tryz.prog 191 #[.pointer (some ⟨rb, 0, none⟩), .slice oa 0 oc] w fun e w' => e = .returned (.tuple #[]) ∧ St F0 w0 [c0, runCh rb out .go] w' := by
  obtain ⟨ra, rc, c0, c1, c2, cz⟩ := run_cells h
  have HS := hid h
  simp only [isDone, isLong] at c1 c2
  clear h
  go_enter Tryz.func191, Tryz.ntmps191
  go_wp2_with fail
  go_loopw [4] (fun x wr => x = .int .i64 0 ∧ wr = w) (fun x _ => 0)
  case atStart => exact ⟨rfl, rfl⟩
  case round =>
    obtain ⟨rfl, rfl⟩ := hrel
    go_wp2_with fail
    go_end0
    exact ⟨rfl, HS.out⟩
section
variable {w : World} {F : Nat → Prop} {v : Value} {p : List Cm.Op}
theorem steps_eq {p : List Cm.Op} (hc : (check p).2 = 0) {r : List Cm.Op × Stt} (hr : playAll p = r) : Cm.steps p = (if r.2 = .long then [] else r.1, if r.2 = .long then 5 else 0) := by
  unfold Cm.steps
  rw [if_neg (by simp [hc]), hr]
  obtain ⟨o, s⟩ := r
  cases s <;> rfl
theorem steps_no {p : List Cm.Op} (hc : (check p).2 ≠ 0) : Cm.steps p = ([], (check p).2) := by
  unfold Cm.steps
  rw [if_pos hc]
set_option maxRecDepth 100000 in
set_option maxHeartbeats 4000000 in
theorem stepsR_any (h : Sts [.row TOp 4 v p.length (opsC p)] F w) (hl : p.length ≤ 256) (R : List Cm.Op × Int) (hRs : Cm.steps p = R) :
    Calls Tryz.prog 167 #[v] w fun e w' => ∃ lv, e = .returned (.tuple #[lv, .int .i64 R.2]) ∧ ((R.2 ≠ 0 ∧ St F w [] w') ∨ (R.2 = 0 ∧ St F w [.row TOp 4 lv R.1.length (opsC R.1)] w')) := by
  obtain ⟨R1, R2⟩ := R
  have hck := checkR_any h hl
  obtain ⟨oa, oc, rfl, hoc⟩ := ((St.of h).own 0).shape
  obtain ⟨E, hE⟩ : ∃ E, check p = E := ⟨_, rfl⟩
  obtain ⟨E1, E2⟩ := E
  rw [hE] at hck
  have HC := hid hck
  by_cases hz : E2 = 0
  · subst hz
    have hc0 : (check p).2 = 0 := by rw [hE]
    obtain ⟨-, -, hbal, hfo⟩ := check_ok hc0
    obtain ⟨r, hr⟩ : ∃ r, playAll p = r := ⟨_, rfl⟩
    have hst := steps_eq hc0 hr
    have HRs := hid (hRs.symm.trans hst)
    have HR := hid (show thn (playS p []) (Cm.step Cm.finish) = r from hr)
    have hNN : ∀ o ∈ p, o.n ≤ 4096 := fun o ho => fieldsOk_n (hfo o ho)
    have hne := playAll_ne p
    rw [hr] at hne
    have HN := hid hNN
    have HB := hid hbal
    have Hne := hid hne
    clear hst hr hck hE hc0 hbal hfo hNN h hne hRs
    go_enter Tryz.func167, Tryz.ntmps167
    go_wp2_with fail
    refine HC.out.mono ?_; rintro e w1 ⟨rfl, hS⟩
    have HS := hid hS
    clear hS HC
    go_wp2_with fail
    have hS1 := HS.out.new TRun [.slice none 0 0, .bool false, .bool false]
    have hS2 := hS1.add (Keeps.refl (fun _ => False) _) (G := fun _ => False) (c := .row TOp 4 (.slice none 0 0) 0 (opsC [])) ⟨⟨rfl, .inl ⟨rfl, rfl⟩⟩, fun b => by simp [Value.ownBlock]⟩ (fun b hb => hb.elim)
    simp only [Kw.red] at hS2
    have hS3 := hS2.fold [1, 2] (runCh w1.heap.size [] .go) (fun F h => ⟨.slice none 0 0, h⟩)
    simp only [Kw.red] at hS3
    have hS4 := hS3.sub [0, 1]
    simp only [Kw.red] at hS4
    have hplay : Calls Tryz.prog 191 #[.pointer (some ⟨w1.heap.size, 0, none⟩), .slice oa p.length oc] (w1.alloc (.cells #[.slice none 0 0, .bool false, .bool false] TRun)) fun e w' => e = .returned (.tuple #[]) ∧ St F w [.row TOp 4 (.slice oa p.length oc) p.length (opsC p), runCh w1.heap.size (playS p []).1 (playS p []).2] w' := by
      by_cases hp0 : p = []
      · subst hp0
        exact rplay_nil hS4
      · have hpos : 0 < p.length := List.length_pos_iff.2 hp0
        obtain ⟨g, cap, e, _⟩ := (HS.out.own 0).form hpos
        cases e
        have := rplay_any hl HN.out (p.length + 1) 0 p.length oc _ w F [] hS4 (by omega) (by omega) hoc (by simp) (by rw [Nat.zero_add, seg_all]; exact HB.out)
        rw [Nat.zero_add, seg_all, Nat.zero_mul] at this
        exact this
    have hlen := playS_len p [] (by simp)
    generalize hbd : playS p [] = RR at *
    obtain ⟨o1, s1⟩ := RR
    have HP := hid hplay
    clear hS1 hS2 hS3 hS4 hplay hbd HS
    refine HP.out.mono ?_; rintro e w2 ⟨rfl, hS⟩
    obtain ⟨ra, rc, c0, c1, c2, cz⟩ := run_cells hS
    have HS := hid hS
    clear HP hS
    generalize w1.heap.size = rb at *
    have hr := HR.out
    cases s1 with
    | done =>
      rw [thn_no _ (by decide)] at hr
      subst hr
      simp only [isDone, isLong] at c1 c2
      go_wp2_with fail
      go_ret2
      obtain ⟨ov, hS5⟩ := HS.out.opens 1 (runC rb · o1 .done) (fun F h => h)
      simp only [runC] at hS5
      simp only [Kw.red] at hS5
      have he := (hS5.blk 2).cell 0
      rw [c0] at he
      cases (Option.some.inj he)
      obtain ⟨rfl, rfl⟩ := Prod.mk.inj (show (R1, R2) = (o1, 0) from HRs.out)
      exact ⟨_, rfl, .inr ⟨rfl, hS5.sub [3]⟩⟩
    | long =>
      rw [thn_no _ (by decide)] at hr
      subst hr
      simp only [isDone, isLong] at c1 c2
      go_wp2_with fail
      go_ret2
      obtain ⟨rfl, rfl⟩ := Prod.mk.inj (show (R1, R2) = ([], 5) from HRs.out)
      exact ⟨_, rfl, .inl ⟨by decide, HS.out.sub []⟩⟩
    | go =>
      rw [thn_go] at hr
      simp only [isDone, isLong] at c1 c2
      have hst := rstep_st Cm.finish HS.out hlen
      have hnd := Hne.out
      rw [hr] at hst
      obtain ⟨o2, s2⟩ := r
      have HT := hid hst
      clear hr hst HR c0
      go_wp2_with fail
      refine HT.out.mono ?_; rintro e w3 ⟨rfl, hS⟩
      obtain ⟨ra, rc, c0, c1, c2, cz⟩ := run_cells hS
      have HS := hid hS
      clear HT hS
      cases s2 with
      | done =>
        simp only [isDone, isLong] at c1 c2
        go_wp2_with fail
        go_ret2
        obtain ⟨ov, hS5⟩ := HS.out.opens 1 (runC rb · o2 .done) (fun F h => h)
        simp only [runC] at hS5
        simp only [Kw.red] at hS5
        have he := (hS5.blk 2).cell 0
        rw [c0] at he
        cases (Option.some.inj he)
        obtain ⟨rfl, rfl⟩ := Prod.mk.inj (show (R1, R2) = (o2, 0) from HRs.out)
        exact ⟨_, rfl, .inr ⟨rfl, hS5.sub [3]⟩⟩
      | long =>
        simp only [isDone, isLong] at c1 c2
        go_wp2_with fail
        go_ret2
        obtain ⟨rfl, rfl⟩ := Prod.mk.inj (show (R1, R2) = ([], 5) from HRs.out)
        exact ⟨_, rfl, .inl ⟨by decide, HS.out.sub []⟩⟩
      | go => exact absurd rfl hnd
  · have hst : Cm.steps p = ([], E2) := by
      have := steps_no (p := p) (by rw [hE]; exact hz)
      rw [hE] at this; exact this
    have HRs := hid (hRs.symm.trans hst)
    have b1 : (E2 != 0) = true := by simpa using hz
    have Hz := hid hz
    clear hst hck hE hz h hRs
    go_enter Tryz.func167, Tryz.ntmps167
    go_wp2_with fail
    refine HC.out.mono ?_; rintro e w1 ⟨rfl, hS⟩
    have HS := hid hS
    clear hS HC
    go_wp2_with fail
    go_ret2
    obtain ⟨rfl, rfl⟩ := Prod.mk.inj HRs.out
    exact ⟨_, rfl, .inl ⟨Hz.out, HS.out.sub []⟩⟩
end
end Go.Proofs.YtnkjjhenfhnajaaGreatDoor
