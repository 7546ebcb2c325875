/-
  keelref3's run: play, walked.
-/
import Derived.Test.YtnkjjhenfhnajaaGreatDoorG19
namespace Go.Proofs.YtnkjjhenfhnajaaGreatDoor
open Go.RowKit Go.Kw Go.Kreg Go.Cm

abbrev qrow (g cap : Nat) (q : List Cm.Op) : Ch := .row TOp 4 (.slice (some ⟨g, 0, none⟩) q.length cap) q.length (opsC q)
theorem rstep_st {F0 : Nat → Prop} {w0 w : World} {c0 : Ch} {rb : Nat} {out : List Cm.Op} (o : Cm.Op) (h : St F0 w0 [c0, runCh rb out .go] w) (hout : out.length ≤ 4096) :
    Calls Tryz.prog 192 #[.pointer (some ⟨rb, 0, none⟩), opV o] w fun e w' => e = .returned (.tuple #[]) ∧ St F0 w0 [c0, runCh rb (Cm.step o out).1 (Cm.step o out).2] w' := by
  obtain ⟨F1, g1, _, _, back⟩ := h.sel [1]
  have g2 : Sts [runCh rb out .go] F1 w := g1
  refine (rstep_any o g2 hout).mono ?_; rintro e w1 ⟨rfl, hS⟩
  have hS := back hS
  simp only [Kw.red] at hS
  exact ⟨rfl, hS⟩
theorem run_cells {F0 : Nat → Prop} {w0 w : World} {c0 : Ch} {rb : Nat} {out : List Cm.Op} {s : Stt} (h : St F0 w0 [c0, runCh rb out s] w) : ∃ oa oc, w.cell? ⟨rb, 0, none⟩ = some (.slice oa out.length oc) ∧ w.cell? ⟨rb, 1, none⟩ = some (.bool (isDone s)) ∧ w.cell? ⟨rb, 2, none⟩ = some (.bool (isLong s)) ∧ (∀ o, w.frozen? ⟨rb, o, none⟩ = false) := by
  obtain ⟨ov, hS⟩ := h.opens 1 (runC rb · out s) (fun F h => h)
  simp only [runC] at hS
  simp only [Kw.red] at hS
  obtain ⟨oa, oc, rfl, -⟩ := (hS.own 3).shape
  exact ⟨oa, oc, cells3 (hS.blk 2)⟩
theorem times_nodone {o : Cm.Op} (h : o.kind ≠ 9) {out : List Cm.Op} : (Cm.step o out).2 ≠ .done := by
  by_cases hl : out.length = 4096
  · rw [step_full hl]; simp
  · rw [step_room hl h]; simp
theorem rep_thn (f : List Cm.Op → List Cm.Op × Stt) (was m : Nat) (o : List Cm.Op) (s : Stt) : thn (o, s) (fun out' => if out'.length = was then (out', .go) else rep f was m out') = if o.length = was then (o, s) else thn (o, s) (rep f was m) := by
  by_cases hs : s = .go
  · subst hs; rw [thn_go, thn_go]
  · rw [thn_no _ hs, thn_no _ hs]; split <;> rfl
theorem rep_none (f : List Cm.Op → List Cm.Op × Stt) (was : Nat) (o : List Cm.Op) (s : Stt) : thn (o, s) (rep f was 0) = (o, s) := by cases s <;> rfl
theorem times_none (u : Cm.Op) (o : List Cm.Op) (s : Stt) : thn (o, s) (times u 0) = (o, s) := by cases s <;> rfl
section
set_option maxRecDepth 100000 in
set_option maxHeartbeats 16000000 in
theorem rplay_any {rb g cap : Nat} {q : List Cm.Op} (hq : q.length ≤ 256) (hN : ∀ o ∈ q, o.n ≤ 4096) :
    ∀ (f a n c : Nat) (w w0 : World) (F : Nat → Prop) (out : List Cm.Op), St F w0 [qrow g cap q, runCh rb out .go] w → a + n ≤ q.length → n < f → n ≤ c → out.length ≤ 4096 → bal (seg q a (a + n)) 0 = true →
      Calls Tryz.prog 191 #[.pointer (some ⟨rb, 0, none⟩), .slice (some ⟨g, a * 4, none⟩) n c] w fun e w' => e = .returned (.tuple #[]) ∧
        St F w0 [qrow g cap q, runCh rb (playS (seg q a (a + n)) out).1 (playS (seg q a (a + n)) out).2] w' := by
  intro f
  induction f with
  | zero => intro a n c w w0 F out h ha hf; omega
  | succ f ih =>
    intro a n c w w0 F out h ha hf hc hout hb
    generalize hR : playS (seg q a (a + n)) out = R
    have HR := hid (show thn (out, .go) (playS (seg q (a + 0) (a + n))) = R from hR)
    have HB := hid hb
    have HS := hid h
    have HN := hid hN
    have IH := hid ih
    clear h hN hR ih hb
    go_enter Tryz.func191, Tryz.ntmps191
    go_wp2_with fail
    go_loopw [4] (fun x wr => ∃ (i : Nat) (o1 : List Cm.Op) (s : Stt), x = .int .i64 i ∧ i ≤ 1000 ∧ o1.length ≤ 4096 ∧ Hid (thn (o1, s) (playS (seg q (a + i) (a + n))) = R ∧ (s = .go → i ≤ n ∧ bal (seg q (a + i) (a + n)) 0 = true)) ∧ St F w0 [qrow g cap q, runCh rb o1 s] wr) (fun x _ => n - (intOf x).toNat)
    case atStart => exact ⟨0, out, .go, rfl, by omega, hout, hid ⟨HR.out, fun _ => ⟨by omega, HB.out⟩⟩, HS.out⟩
    case round =>
      clear HS HR HB
      obtain ⟨i, o1, s, rfl, hi, ho1, HQ, hS⟩ := hrel
      obtain ⟨oa, oc, c0, c1, c2, cz⟩ := run_cells hS
      have HS := hid hS
      clear hS
      by_cases hlt : i < n
      · have b1 : decide (i < n) = true := by simpa using hlt
        have b2 : decide ((i : Int) < (n : Int)) = true := decide_eq_true (by omega)
        cases s with
        | done =>
          have hq := HQ.out.1
          rw [thn_no _ (by decide)] at hq
          have Hq := hid hq
          clear hq HQ
          simp only [isDone, isLong] at c1 c2
          go_wp2_with fail
          go_end0
          rw [← Hq.out]
          exact ⟨rfl, HS.out⟩
        | long =>
          have hq := HQ.out.1
          rw [thn_no _ (by decide)] at hq
          have Hq := hid hq
          clear hq HQ
          simp only [isDone, isLong] at c1 c2
          go_wp2_with fail
          go_end0
          rw [← Hq.out]
          exact ⟨rfl, HS.out⟩
        | go =>
          simp only [isDone, isLong] at c1 c2
          have hx := List.getElem?_eq_getElem (show a + i < q.length by omega)
          have hn4 := HN.out _ (List.getElem_mem (show a + i < q.length by omega))
          generalize q[a + i] = o at *
          obtain ⟨hq1, hb0⟩ := HQ.out
          obtain ⟨hin, hb1⟩ := hb0 rfl
          rw [thn_go] at hq1
          obtain ⟨d0, d1, d2, d3⟩ := op_cells (HS.out.own 0) hx
          have i1 : (i : Int) < (n : Int) := by omega
          have i0 : (0 : Int) ≤ (i : Int) := by omega
          have hlt' : a + i < a + n := by omega
          clear HQ hb0
          by_cases h10 : o.kind = 10
          · obtain ⟨hE1, hE2, hbB, hbR, _⟩ := seg_rep ha hx hlt' h10 hb1
            rw [seg_rep_thn ha hx hlt' h10 hb1] at hq1
            have hsh := shut_seg ha hx hlt' h10 hb1
            have hsl : (seg q a (a + n)).length = n := by rw [seg_len q ha]; omega
            have hsi : (seg q a (a + n))[i]? = some o := by rw [seg_at hlt]; exact hx
            have hsd : (seg q a (a + n)).drop i = seg q (a + i) (a + n) := by unfold seg; rw [List.drop_drop]
            have hcall := shutR_any (c := c) (OpsRd.seg (HS.out.own 0) ha) (by rw [hsl]; omega) i hsi h10
            rw [hsl, hsd] at hcall
            generalize endE q (a + i) = E at *
            obtain ⟨K, rfl⟩ : ∃ K, E = a + K := ⟨E - a, by omega⟩
            rw [show i + shut (seg q (a + i) (a + n)) 0 = K by omega] at hcall
            have e10 : (o.kind == 10) = true := by simpa using h10
            have hKn : K < n := by omega
            have hiK : i + 1 ≤ K := by omega
            have HR := hid (show thn (thn (o1, .go) (rep (playS (seg q (a + i + 1) (a + K))) o1.length (o.n.toNat - 0))) (playS (seg q (a + K + 1) (a + n))) = R from hq1)
            have HB := hid (And.intro hbB hbR)
            have Hx := hid hx
            have HC := hid hcall
            clear hq1 hb1 hx h10 hbB hbR hsl hsi hsd hcall hsh hE1 hE2
            go_wp2_with fail
            refine HC.out.mono ?_; rintro e w1 ⟨rfl, rfl⟩
            clear HC
            go_wp2_with fail
            go_loopw [7] (fun x wr2 => ∃ (m : Nat) (o2 : List Cm.Op) (s2 : Stt), x = .int .i64 m ∧ m ≤ o.n.toNat ∧ o2.length ≤ 4096 ∧ Hid (thn (thn (o2, s2) (rep (playS (seg q (a + i + 1) (a + K))) o1.length (o.n.toNat - m))) (playS (seg q (a + K + 1) (a + n))) = R) ∧ St F w0 [qrow g cap q, runCh rb o2 s2] wr2) (fun x _ => o.n.toNat - (intOf x).toNat)
            case atStart => exact ⟨0, o1, .go, rfl, Nat.zero_le _, ho1, HR, HS.out⟩
            case round =>
              clear HS HR c0 c1 c2 cz d0 d1 d2 d3
              obtain ⟨m, o2, s2, rfl, hm, ho2, HR, hS⟩ := hrel
              obtain ⟨oa2, oc2, c0, c1, c2, cz⟩ := run_cells hS
              obtain ⟨d0, d1, d2, d3⟩ := op_cells (hS.own 0) Hx.out
              have HS := hid hS
              clear hS
              by_cases hmn : m < o.n.toNat
              · have hm4 : (m : Int) < 4096 := by omega
                have b3 : decide ((m : Int) < o.n) = true := decide_eq_true (by omega)
                cases s2 with
                | done =>
                  have hr := HR.out
                  rw [thn_no _ (by decide : Stt.done ≠ .go), thn_no _ (by decide : Stt.done ≠ .go)] at hr
                  have Hq := hid hr
                  clear hr HR
                  simp only [isDone, isLong] at c1 c2
                  go_wp2_with fail
                  go_roundw
                  case rel => exact ⟨K + 1, o2, .done, by go_num, by omega, ho2, hid ⟨(thn_no _ (by decide)).trans Hq.out, fun h => by cases h⟩, HS.out⟩
                  case measure => first | (simp [intOf]; done) | (simp [intOf]; omega)
                | long =>
                  have hr := HR.out
                  rw [thn_no _ (by decide : Stt.long ≠ .go), thn_no _ (by decide : Stt.long ≠ .go)] at hr
                  have Hq := hid hr
                  clear hr HR
                  simp only [isDone, isLong] at c1 c2
                  go_wp2_with fail
                  go_roundw
                  case rel => exact ⟨K + 1, o2, .long, by go_num, by omega, ho2, hid ⟨(thn_no _ (by decide)).trans Hq.out, fun h => by cases h⟩, HS.out⟩
                  case measure => first | (simp [intOf]; done) | (simp [intOf]; omega)
                | go =>
                  simp only [isDone, isLong] at c1 c2
                  obtain ⟨m', hm'⟩ : ∃ m', o.n.toNat - m = m' + 1 := ⟨o.n.toNat - m - 1, by omega⟩
                  have hm2 : o.n.toNat - (m + 1) = m' := by omega
                  have hr := HR.out
                  rw [thn_go, hm', rep_more] at hr
                  have hc2 := IH.out (a + i + 1) (K - (i + 1)) (c - (i + 1)) wr w0 F o2 HS.out (by omega) (by omega) (by omega) ho2 (by rw [show a + i + 1 + (K - (i + 1)) = a + K by omega]; exact HB.out.1)
                  rw [show a + i + 1 + (K - (i + 1)) = a + K by omega, show (a + i + 1) * 4 = a * 4 + (i + 1) * 4 by omega] at hc2
                  have hl3 := playS_len (seg q (a + i + 1) (a + K)) o2 ho2
                  generalize hbd : playS (seg q (a + i + 1) (a + K)) o2 = r3 at hc2 hr hl3
                  obtain ⟨o3, s3⟩ := r3
                  rw [rep_thn] at hr
                  have HC := hid hc2
                  have i2 : (i : Int) + 1 ≤ (K : Int) := by omega
                  have i3 : (K : Int) ≤ (c : Int) := by omega
                  have i4 : (K : Int) ≤ (n : Int) := by omega
                  have i5 : ¬ c = i + 1 := by omega
                  have t2 : ((i : Int) + 1).toNat = i + 1 := by omega
                  have i6 : (0 : Int) ≤ (i : Int) + 1 := by omega
                  clear hm' hc2 hbd
                  by_cases hl : o3.length = o1.length
                  · have b5 : ((o3.length : Int) == (o1.length : Int)) = true := beq_iff_eq.2 (by omega)
                    rw [if_pos hl] at hr
                    have HR := hid hr
                    clear hr hl hm2
                    go_wp2_with fail
                    refine HC.out.mono ?_; rintro e w2 ⟨rfl, hS⟩
                    have HS2 := hid hS
                    obtain ⟨oa3, oc3, k0, k1, k2, kz⟩ := run_cells hS
                    clear hS HC
                    go_wp2_with fail
                    go_roundw
                    case rel => exact ⟨K + 1, o3, s3, by go_num, by omega, hl3, hid ⟨HR.out, fun _ => ⟨by omega, HB.out.2⟩⟩, HS2.out⟩
                    case measure => first | (simp [intOf]; done) | (simp [intOf]; omega)
                  · have b5 : ((o3.length : Int) == (o1.length : Int)) = false := beq_false_of_ne (by omega)
                    rw [if_neg hl, ← hm2] at hr
                    have HR := hid hr
                    clear hr hl hm2
                    go_wp2_with fail
                    refine HC.out.mono ?_; rintro e w2 ⟨rfl, hS⟩
                    have HS2 := hid hS
                    obtain ⟨oa3, oc3, k0, k1, k2, kz⟩ := run_cells hS
                    clear hS HC
                    go_wp2_with fail
                    go_roundw
                    case rel => exact ⟨m + 1, o3, s3, by go_num, by omega, hl3, HR, HS2.out⟩
                    case measure => first | (simp [intOf]; done) | (simp [intOf]; omega)
              · have b3 : decide ((m : Int) < o.n) = false := decide_eq_false (by omega)
                have hr := HR.out
                rw [show o.n.toNat - m = 0 by omega, rep_none] at hr
                have Hq := hid hr
                clear hr HR
                go_wp2_with fail
                go_roundw
                case rel => exact ⟨K + 1, o2, s2, by go_num, by omega, ho2, hid ⟨Hq.out, fun _ => ⟨by omega, HB.out.2⟩⟩, HS.out⟩
                case measure => first | (simp [intOf]; done) | (simp [intOf]; omega)
          · obtain ⟨h11, hbn⟩ := seg_other hx hlt' h10 hb1
            have e10 : (o.kind == 10) = false := by simpa using h10
            by_cases h5 : o.kind = 5
            · have e5 : (o.kind == 5) = true := by simpa using h5
              rw [seg_work_thn hx hlt' h5] at hq1
              have HR := hid (show thn (thn (o1, .go) (times work (o.n.toNat - 0))) (playS (seg q (a + i + 1) (a + n))) = R from hq1)
              have HB := hid hbn
              have Hx := hid hx
              clear hq1 hb1 hbn hx h10 h11 h5
              go_wp2_with fail
              go_loopw [8] (fun x wr2 => ∃ (m : Nat) (o2 : List Cm.Op) (s2 : Stt), x = .int .i64 m ∧ m ≤ o.n.toNat ∧ o2.length ≤ 4096 ∧ s2 ≠ .done ∧ Hid (thn (thn (o2, s2) (times work (o.n.toNat - m))) (playS (seg q (a + i + 1) (a + n))) = R) ∧ St F w0 [qrow g cap q, runCh rb o2 s2] wr2) (fun x _ => o.n.toNat - (intOf x).toNat)
              case atStart => exact ⟨0, o1, .go, rfl, Nat.zero_le _, ho1, by decide, HR, HS.out⟩
              case round =>
                clear HS HR c0 c1 c2 cz d0 d1 d2 d3
                obtain ⟨m, o2, s2, rfl, hm, ho2, hs2, HR, hS⟩ := hrel
                obtain ⟨oa2, oc2, c0, c1, c2, cz⟩ := run_cells hS
                obtain ⟨d0, d1, d2, d3⟩ := op_cells (hS.own 0) Hx.out
                have HS := hid hS
                clear hS
                by_cases hmn : m < o.n.toNat
                · have hm4 : (m : Int) < 4096 := by omega
                  have b3 : decide ((m : Int) < o.n) = true := decide_eq_true (by omega)
                  cases s2 with
                  | done => exact absurd rfl hs2
                  | long =>
                    have hr := HR.out
                    rw [thn_no _ (by decide : Stt.long ≠ .go), thn_no _ (by decide : Stt.long ≠ .go)] at hr
                    have Hq := hid hr
                    clear hr HR
                    simp only [isDone, isLong] at c1 c2
                    go_wp2_with fail
                    go_roundw
                    case rel => exact ⟨i + 1, o2, .long, by go_num, by omega, ho2, hid ⟨(thn_no _ (by decide)).trans Hq.out, fun h => by cases h⟩, HS.out⟩
                    case measure => first | (simp [intOf]; done) | (simp [intOf]; omega)
                  | go =>
                    simp only [isDone, isLong] at c1 c2
                    obtain ⟨m', hm'⟩ : ∃ m', o.n.toNat - m = m' + 1 := ⟨o.n.toNat - m - 1, by omega⟩
                    have hm2 : o.n.toNat - (m + 1) = m' := by omega
                    have hr := HR.out
                    rw [thn_go, hm', times_more, ← hm2] at hr
                    have hc2 := rstep_st work HS.out ho2
                    have hl3 := step_len (o := work) ho2
                    have hnd := times_nodone (o := work) (by decide) (out := o2)
                    generalize hbd : Cm.step work o2 = r3 at hc2 hr hl3 hnd
                    obtain ⟨o3, s3⟩ := r3
                    have HR := hid hr
                    have HC := hid hc2
                    have Hnd := hid hnd
                    clear hr hm' hm2 hc2 hbd hnd
                    go_wp2_with fail
                    refine HC.out.mono ?_; rintro e w2 ⟨rfl, hS⟩
                    have HS2 := hid hS
                    clear hS HC
                    go_wp2_with fail
                    go_roundw
                    case rel => exact ⟨m + 1, o3, s3, by go_num, by omega, hl3, Hnd.out, HR, HS2.out⟩
                    case measure => first | (simp [intOf]; done) | (simp [intOf]; omega)
                · have b3 : decide ((m : Int) < o.n) = false := decide_eq_false (by omega)
                  have hr := HR.out
                  rw [show o.n.toNat - m = 0 by omega, times_none] at hr
                  have Hq := hid hr
                  clear hr HR
                  go_wp2_with fail
                  go_roundw
                  case rel => exact ⟨i + 1, o2, s2, by go_num, by omega, ho2, hid ⟨Hq.out, fun _ => ⟨by omega, HB.out⟩⟩, HS.out⟩
                  case measure => first | (simp [intOf]; done) | (simp [intOf]; omega)
            · have e5 : (o.kind == 5) = false := by simpa using h5
              rw [seg_one_thn hx hlt' h10 h5] at hq1
              have hc2 := rstep_st o HS.out ho1
              have hl3 := step_len (o := o) ho1
              generalize hbd : Cm.step o o1 = r3 at hc2 hq1 hl3
              obtain ⟨o3, s3⟩ := r3
              have HR := hid (And.intro hq1 hbn)
              have HC := hid hc2
              unfold opV at HC
              clear hq1 hb1 hbn hx h10 h11 h5 hc2 hbd
              go_wp2_with fail
              refine HC.out.mono ?_; rintro e w2 ⟨rfl, hS⟩
              have HS2 := hid hS
              clear hS HC
              go_wp2_with fail
              go_roundw
              case rel => exact ⟨i + 1, o3, s3, by go_num, by omega, hl3, hid ⟨HR.out.1, fun _ => ⟨by omega, HR.out.2⟩⟩, HS2.out⟩
              case measure => first | (simp [intOf]; done) | (simp [intOf]; omega)
      · have b1 : decide (i < n) = false := by simpa using hlt
        have b2 : decide ((i : Int) < (n : Int)) = false := decide_eq_false (by omega)
        have hq : (o1, s) = R := by
          have h1 := HQ.out.1
          by_cases hs : s = .go
          · subst hs
            rw [thn_go, seg_end q (by omega), playS_nil] at h1
            exact h1
          · rw [thn_no _ hs] at h1; exact h1
        have Hq := hid hq
        clear hq HQ
        go_wp2_with fail
        go_end0
        rw [← Hq.out]
        exact ⟨rfl, HS.out⟩
end
end Go.Proofs.YtnkjjhenfhnajaaGreatDoor
