/-
  Package code, walked: the parts of a program.
-/
import Derived.Test.YtkaecdkmalppcaaDoorCs
import Derived.Test.YtkaecdkmalppcaaDoorCt
namespace Go.Proofs.YtkaecdkmalppcaaDoor
open Go.RowKit Go.Kw Go.Kreg Go.Cm

abbrev TI : Nat := 3
def walkC (wb : Nat) (qv ev : Value) (t : Option Nat) (q : List Cm.Op) (es : List Value) (out : List Cm.Op) (ovr : Bool) : List Ch :=
  [.pt wb TWk [qv, .int .i64 out.length, .bool ovr, ev, tellV t], tellC t out, .row TOp 4 qv q.length (opsC q), .row TI 1 ev q.length es]

theorem wstep_any {F0 : Nat → Prop} {w0 w : World} {wb : Nat} {qv ev : Value} {t : Option Nat} {q : List Cm.Op} {es : List Value} {out : List Cm.Op} (o : Cm.Op) (h : St F0 w0 (walkC wb qv ev t q es out false) w) (hout : out.length ≤ 4096) :
    Calls Tryd.prog 57 #[.pointer (some ⟨wb, 0, none⟩), opV o] w fun e w' => e = .returned (.bool (decide ((Cm.step o out).2 ≠ .long))) ∧
      St F0 w0 (walkC wb qv ev t q es (Cm.step o out).1 (decide ((Cm.step o out).2 = .long))) w' := by
  obtain ⟨F1, g1, _, _, back⟩ := h.sel [0, 1]
  simp only [walkC, Kw.red] at g1
  refine (step_any o g1 hout).mono ?_; rintro e w1 ⟨rfl, hS⟩
  have hS := back hS
  simp only [walkC, Kw.red, Bool.false_or] at hS
  exact ⟨rfl, hS⟩

set_option maxRecDepth 100000 in
set_option maxHeartbeats 4000000 in
theorem part_any {wb : Nat} {qv ev : Value} {t : Option Nat} {q : List Cm.Op} {es : List Value} (hq : q.length ≤ 256) (hN : ∀ o ∈ q, o.n ≤ 4096) (hE : ∀ (j : Nat) (o : Cm.Op), q[j]? = some o → o.kind = 10 → es[j]? = some (Value.int .i64 (endE q j : Nat))) :
    ∀ (f i0 to : Nat) (w w0 : World) (F : Nat → Prop) (out : List Cm.Op), St F w0 (walkC wb qv ev t q es out false) w → to ≤ q.length → to - i0 < f → i0 ≤ q.length → out.length ≤ 4096 → bal (seg q i0 to) 0 = true →
      Calls Tryd.prog 56 #[.pointer (some ⟨wb, 0, none⟩), .int .i64 i0, .int .i64 to] w fun e w' => e = .returned (.bool (decide ((playS (seg q i0 to) out).2 = .go))) ∧
        St F w0 (walkC wb qv ev t q es (playS (seg q i0 to) out).1 (decide ((playS (seg q i0 to) out).2 = .long))) w' := by
  intro f
  induction f with
  | zero => intro i0 to w w0 F out h hto hf; omega
  | succ f ih =>
    intro i0 to w w0 F out h hto hf hi0 hout hb
    generalize hR : playS (seg q i0 to) out = R
    have HR := hid (show playS (seg q i0 to) out = R ∧ bal (seg q i0 to) 0 = true ∧ i0 ≤ i0 from ⟨hR, hb, Nat.le_refl _⟩)
    have HS := hid h
    have HE := hid hE
    have HN := hid hN
    have IH := hid ih
    clear h hE hN hR ih hb
    go_enter Tryd.func56, Tryd.ntmps56
    go_wp2_with fail
    go_loopw [7] (fun x wr => ∃ (i : Nat) (o1 : List Cm.Op), x = .int .i64 i ∧ i ≤ q.length ∧ o1.length ≤ 4096 ∧ Hid (playS (seg q i to) o1 = R ∧ bal (seg q i to) 0 = true ∧ i0 ≤ i) ∧ St F w0 (walkC wb qv ev t q es o1 false) wr) (fun x _ => to - (intOf x).toNat)
    case atStart => exact ⟨i0, out, rfl, hi0, hout, HR, HS.out⟩
    case round =>
      clear HS HR
      obtain ⟨i, o1, rfl, hi, ho1, HQ, hS⟩ := hrel
      have HS := hid hS
      clear hS
      by_cases hlt : i < to
      · have b2 : decide ((i : Int) < (to : Int)) = true := by simp; omega
        have hx := List.getElem?_eq_getElem (show i < q.length by omega)
        have hn4 := HN.out _ (List.getElem_mem (show i < q.length by omega))
        generalize q[i] = o at *
        obtain ⟨hq1, hb1, hi1⟩ := HQ.out
        have hqv := HS.out.own 2
        have h0 := HS.out.blk 0
        obtain ⟨c0, c1, c2, c3, c4, cz⟩ : wr.cell? ⟨wb, 0, none⟩ = some qv ∧ wr.cell? ⟨wb, 1, none⟩ = some (.int .i64 o1.length) ∧ wr.cell? ⟨wb, 2, none⟩ = some (.bool false) ∧ wr.cell? ⟨wb, 3, none⟩ = some ev ∧ wr.cell? ⟨wb, 4, none⟩ = some (tellV t) ∧ (∀ o, wr.frozen? ⟨wb, o, none⟩ = false) := ⟨h0.cell 0, h0.cell 1, h0.cell 2, h0.cell 3, h0.cell 4, h0.fz⟩
        obtain ⟨g, cap, e1, _⟩ := hqv.form (by omega)
        subst e1
        obtain ⟨x0, x1, x2, x3⟩ := opsC_at hx
        have d0 := hqv.cells' (g := g) rfl x0
        have d1 := hqv.cells' (g := g) rfl x1
        have d2 := hqv.cells' (g := g) rfl x2
        have d3 := hqv.cells' (g := g) rfl x3
        have HS1 := hid (HS.out.step ((Keeps.refl (fun _ => False) wr).alloc (.cells #[.int .i64 o.kind, .int .i64 o.res, .int .i64 o.n, .int .i64 o.v] TOp)))
        clear x0 x1 x2 x3 hqv h0 HS
        have i1 : (i : Int) < (q.length : Int) := by omega
        have i0' : (0 : Int) ≤ (i : Int) := by omega
        clear HQ
        by_cases h10 : o.kind = 10
        · obtain ⟨hE1, hE2, hbB, hbR, _⟩ := seg_rep hto hx hlt h10 hb1
          rw [seg_rep_thn hto hx hlt h10 hb1] at hq1
          have e10 : (o.kind == 10) = true := by simpa using h10
          have hxe := HE.out i o hx h10
          generalize endE q i = E at *
          have hev := HS1.out.own 3
          obtain ⟨ge, ce, e2, _⟩ := hev.form (by omega)
          subst e2
          have HR := hid (show thn (rep (playS (seg q (i + 1) E)) o1.length (o.n.toNat - 0) o1) (playS (seg q (E + 1) to)) = R from hq1)
          have HB := hid (show _ ∧ _ from ⟨hbB, hbR⟩)
          have HX := hid hxe
          have hEq : E < q.length := by omega
          clear hq1 hb1 hx h10 hbB hbR hxe hev
          go_wp2_with fail
          go_loopw [37] (fun x wr2 => ∃ (k : Nat) (o2 : List Cm.Op), x = .int .i64 k ∧ k ≤ o.n.toNat ∧ o2.length ≤ 4096 ∧ Hid (thn (rep (playS (seg q (i + 1) E)) o1.length (o.n.toNat - k) o2) (playS (seg q (E + 1) to)) = R) ∧ St F w0 (walkC wb (.slice (some ⟨g, 0, none⟩) q.length cap) (.slice (some ⟨ge, 0, none⟩) q.length ce) t q es o2 false) wr2) (fun x _ => o.n.toNat - (intOf x).toNat)
          case atStart => exact ⟨0, o1, rfl, Nat.zero_le _, ho1, HR, HS1.out⟩
          case round =>
            clear HS1 HR
            obtain ⟨k, o2, rfl, hk, ho2, HR, hS⟩ := hrel
            have HS1 := hid hS
            clear hS c0 c1 c2 c3 c4 cz d0 d1 d2 d3
            have h0 := HS1.out.blk 0
            obtain ⟨c0, c1, c2, c3, c4, cz⟩ : wr.cell? ⟨wb, 0, none⟩ = some (.slice (some ⟨g, 0, none⟩) q.length cap) ∧ wr.cell? ⟨wb, 1, none⟩ = some (.int .i64 o2.length) ∧ wr.cell? ⟨wb, 2, none⟩ = some (.bool false) ∧ wr.cell? ⟨wb, 3, none⟩ = some (.slice (some ⟨ge, 0, none⟩) q.length ce) ∧ wr.cell? ⟨wb, 4, none⟩ = some (tellV t) ∧ (∀ o, wr.frozen? ⟨wb, o, none⟩ = false) := ⟨h0.cell 0, h0.cell 1, h0.cell 2, h0.cell 3, h0.cell 4, h0.fz⟩
            have de := (HS1.out.own 3).cells' (g := ge) rfl HX.out
            clear h0
            by_cases hkn : k < o.n.toNat
            · have hk4 : (k : Int) < 4096 := by omega
              have b3 : decide ((k : Int) < o.n) = true := by simp; omega
              obtain ⟨m, hm⟩ : ∃ m, o.n.toNat - k = m + 1 := ⟨o.n.toNat - k - 1, by omega⟩
              have hr := HR.out
              rw [hm, rep_more, thn_thn] at hr
              have hm2 : o.n.toNat - (k + 1) = m := by omega
              have hc := IH.out (i + 1) E wr w0 F o2 HS1.out (by omega) (by omega) (by omega) ho2 HB.out.1
              have hl3 := playS_len (seg q (i + 1) E) o2 ho2
              rw [show ((i + 1 : Nat) : Int) = (i : Int) + 1 by omega] at hc
              generalize hbd : playS (seg q (i + 1) E) o2 = r3 at hc hr hl3
              obtain ⟨o3, s3⟩ := r3
              by_cases hs3 : s3 = .go
              · subst hs3
                rw [thn_go, ← hm2] at hr
                have HC := hid hc
                by_cases hl : o3.length = o1.length
                · rw [if_pos hl, thn_go] at hr
                  have HR := hid hr
                  have b5 : ((o3.length : Int) == (o1.length : Int)) = true := by simp; omega
                  clear hr hm hm2 hl hc hbd
                  go_wp2_with fail
                  refine HC.out.mono ?_; rintro e w1 ⟨rfl, hS⟩
                  have HS2 := hid hS
                  clear hS HC
                  have h0 := HS2.out.blk 0
                  obtain ⟨m0, m1, m2, m3, m4, mz⟩ : w1.cell? ⟨wb, 0, none⟩ = some (.slice (some ⟨g, 0, none⟩) q.length cap) ∧ w1.cell? ⟨wb, 1, none⟩ = some (.int .i64 o3.length) ∧ w1.cell? ⟨wb, 2, none⟩ = some (.bool (decide (Stt.go = Stt.long))) ∧ w1.cell? ⟨wb, 3, none⟩ = some (.slice (some ⟨ge, 0, none⟩) q.length ce) ∧ w1.cell? ⟨wb, 4, none⟩ = some (tellV t) ∧ (∀ o, w1.frozen? ⟨wb, o, none⟩ = false) := ⟨h0.cell 0, h0.cell 1, h0.cell 2, h0.cell 3, h0.cell 4, h0.fz⟩
                  have me := (HS2.out.own 3).cells' (g := ge) rfl HX.out
                  clear h0
                  clear HS1
                  simp only [decide_true]
                  go_wp2_with fail
                  go_roundw
                  case rel => exact ⟨E + 1, o3, by go_num, by omega, hl3, hid ⟨HR.out, HB.out.2, by omega⟩, HS2.out⟩
                  case measure => simp [intOf]; omega
                · rw [if_neg hl] at hr
                  have HR := hid hr
                  have b5 : ((o3.length : Int) == (o1.length : Int)) = false := by simp; omega
                  clear hr hm hm2 hl hc hbd
                  go_wp2_with fail
                  refine HC.out.mono ?_; rintro e w1 ⟨rfl, hS⟩
                  have HS2 := hid hS
                  clear hS HC
                  have h0 := HS2.out.blk 0
                  obtain ⟨m0, m1, m2, m3, m4, mz⟩ : w1.cell? ⟨wb, 0, none⟩ = some (.slice (some ⟨g, 0, none⟩) q.length cap) ∧ w1.cell? ⟨wb, 1, none⟩ = some (.int .i64 o3.length) ∧ w1.cell? ⟨wb, 2, none⟩ = some (.bool (decide (Stt.go = Stt.long))) ∧ w1.cell? ⟨wb, 3, none⟩ = some (.slice (some ⟨ge, 0, none⟩) q.length ce) ∧ w1.cell? ⟨wb, 4, none⟩ = some (tellV t) ∧ (∀ o, w1.frozen? ⟨wb, o, none⟩ = false) := ⟨h0.cell 0, h0.cell 1, h0.cell 2, h0.cell 3, h0.cell 4, h0.fz⟩
                  have me := (HS2.out.own 3).cells' (g := ge) rfl HX.out
                  clear h0
                  clear HS1
                  simp only [decide_true]
                  go_wp2_with fail
                  go_roundw
                  case rel => exact ⟨k + 1, o3, by go_num, by omega, hl3, HR, HS2.out⟩
                  case measure => simp [intOf]; omega
              · rw [thn_no _ hs3] at hr
                have HR := hid hr
                have HC := hid hc
                have et : decide (s3 = Stt.go) = false := decide_eq_false hs3
                clear hr hm hm2 hc hbd hs3
                go_wp2_with fail
                refine HC.out.mono ?_; rintro e w1 ⟨rfl, hS⟩
                have HS2 := hid hS
                clear hS HS1 HC
                rw [et]
                go_wp2_with fail
                go_ret
                rw [← HR.out]
                exact ⟨by rw [et]; rfl, HS2.out⟩
            · have b3 : decide ((k : Int) < o.n) = false := by simp; omega
              have hr := HR.out
              rw [show o.n.toNat - k = 0 by omega] at hr
              have HR := hid (show playS (seg q (E + 1) to) o2 = R from hr)
              clear hr
              go_wp2_with fail
              go_roundw
              case rel => exact ⟨E + 1, o2, by go_num, by omega, ho2, hid ⟨HR.out, HB.out.2, by omega⟩, HS1.out⟩
              case measure => simp [intOf]; omega
        · obtain ⟨h11, hbn⟩ := seg_other hx hlt h10 hb1
          have e10 : (o.kind == 10) = false := by simpa using h10
          by_cases h5 : o.kind = 5
          · have e5 : (o.kind == 5) = true := by simpa using h5
            rw [seg_work_thn hx hlt h5] at hq1
            have HR := hid (show thn (times work (o.n.toNat - 0) o1) (playS (seg q (i + 1) to)) = R from hq1)
            have HB := hid hbn
            clear hq1 hb1 hbn hx h10 h11 h5
            go_wp2_with fail
            go_loopw [69] (fun x wr2 => ∃ (k : Nat) (o2 : List Cm.Op), x = .int .i64 k ∧ k ≤ o.n.toNat ∧ o2.length ≤ 4096 ∧ Hid (thn (times work (o.n.toNat - k) o2) (playS (seg q (i + 1) to)) = R) ∧ St F w0 (walkC wb (.slice (some ⟨g, 0, none⟩) q.length cap) ev t q es o2 false) wr2) (fun x _ => o.n.toNat - (intOf x).toNat)
            case atStart => exact ⟨0, o1, rfl, Nat.zero_le _, ho1, HR, HS1.out⟩
            case round =>
              clear HS1 HR
              obtain ⟨k, o2, rfl, hk, ho2, HR, hS⟩ := hrel
              have HS1 := hid hS
              clear hS c0 c1 c2 c3 c4 cz d0 d1 d2 d3
              by_cases hkn : k < o.n.toNat
              · have hk4 : (k : Int) < 4096 := by omega
                have b3 : decide ((k : Int) < o.n) = true := by simp; omega
                obtain ⟨m, hm⟩ : ∃ m, o.n.toNat - k = m + 1 := ⟨o.n.toNat - k - 1, by omega⟩
                have hr := HR.out
                rw [hm, times_more, thn_thn] at hr
                have hm2 : o.n.toNat - (k + 1) = m := by omega
                by_cases hl : o2.length = 4096
                · rw [step_full hl, thn_no _ (by decide)] at hr
                  have HR := hid hr
                  have hc := wstep_any work HS1.out ho2
                  rw [step_full hl] at hc
                  have HC := hid hc
                  clear hr hm hm2 hl hc
                  go_wp2_with fail
                  refine HC.out.mono ?_; rintro e w1 ⟨rfl, hS⟩
                  have HS2 := hid hS
                  clear hS HS1 HC
                  simp only [ne_eq, not_true_eq_false, decide_false]
                  go_wp2_with fail
                  go_ret
                  rw [← HR.out]
                  exact ⟨rfl, HS2.out⟩
                · rw [step_room hl (by decide), thn_go] at hr
                  rw [← hm2] at hr
                  have HR := hid hr
                  have hc := wstep_any work HS1.out ho2
                  rw [step_room hl (by decide)] at hc
                  have HC := hid hc
                  have hlen : (o2 ++ [work]).length ≤ 4096 := by simp; omega
                  clear hr hm hm2 hl hc
                  go_wp2_with fail
                  refine HC.out.mono ?_; rintro e w1 ⟨rfl, hS⟩
                  have HS2 := hid hS
                  clear hS HS1 HC
                  have et : decide (Stt.go ≠ Stt.long) = true := by decide
                  rw [et]
                  go_wp2_with fail
                  go_roundw
                  case rel => exact ⟨k + 1, o2 ++ [work], by go_num, by omega, hlen, HR, HS2.out⟩
                  case measure => simp [intOf]; omega
              · have b3 : decide ((k : Int) < o.n) = false := by simp; omega
                have hr := HR.out
                rw [show o.n.toNat - k = 0 by omega] at hr
                have HR := hid (show playS (seg q (i + 1) to) o2 = R from hr)
                clear hr
                go_wp2_with fail
                go_roundw
                case rel => exact ⟨i + 1, o2, by go_num, by omega, ho2, hid ⟨HR.out, HB.out, by omega⟩, HS1.out⟩
                case measure => simp [intOf]; omega
          · have e5 : (o.kind == 5) = false := by simpa using h5
            rw [seg_one_thn hx hlt h10 h5] at hq1
            by_cases h9 : o.kind = 9
            · have e9 : (o.kind == 9) = true := by simpa using h9
              have hR : R = Cm.step o o1 ∧ R.2 ≠ .go := by
                by_cases hl : o1.length = 4096
                · rw [step_full hl, thn_no _ (by decide)] at hq1; rw [step_full hl, ← hq1]; exact ⟨rfl, by simp⟩
                · rw [step_last hl h9, thn_no _ (by decide)] at hq1; rw [step_last hl h9, ← hq1]; exact ⟨rfl, by simp⟩
              have HR := hid hR
              clear hq1 hb1 hbn hx h10 h11 h5 h9 hR
              go_wp2_with fail
              refine (wstep_any o HS1.out ho1).mono ?_; rintro e w1 ⟨rfl, hS⟩
              have HS2 := hid hS
              clear hS HS1
              go_wp2_with fail
              go_ret
              obtain ⟨rfl, h2⟩ := HR.out
              exact ⟨by rw [decide_eq_false h2]; rfl, HS2.out⟩
            · have e9 : (o.kind == 9) = false := by simpa using h9
              by_cases hl : o1.length = 4096
              · rw [step_full hl, thn_no _ (by decide)] at hq1
                have HR := hid hq1
                have hc := wstep_any o HS1.out ho1
                rw [step_full hl] at hc
                have HC := hid hc
                clear hq1 hb1 hbn hx h10 h11 h5 h9 hl hc
                go_wp2_with fail
                refine HC.out.mono ?_; rintro e w1 ⟨rfl, hS⟩
                have HS2 := hid hS
                clear hS HS1 HC
                simp only [ne_eq, not_true_eq_false, decide_false]
                go_wp2_with fail
                go_ret
                rw [← HR.out]
                exact ⟨rfl, HS2.out⟩
              · rw [step_room hl h9, thn_go] at hq1
                have HR := hid (show _ ∧ _ from ⟨hq1, hbn⟩)
                have hc := wstep_any o HS1.out ho1
                rw [step_room hl h9] at hc
                have HC := hid hc
                have hlen : (o1 ++ [o]).length ≤ 4096 := by simp; omega
                clear hq1 hb1 hbn hx h10 h11 h5 h9 hl hc
                go_wp2_with fail
                refine HC.out.mono ?_; rintro e w1 ⟨rfl, hS⟩
                have HS2 := hid hS
                clear hS HS1 HC
                have et : decide (Stt.go ≠ Stt.long) = true := by decide
                rw [et]
                go_wp2_with fail
                go_roundw
                case rel => exact ⟨i + 1, o1 ++ [o], by go_num, by omega, hlen, hid ⟨HR.out.1, HR.out.2, by omega⟩, HS2.out⟩
                case measure => simp [intOf]; omega
      · have b2 : decide ((i : Int) < (to : Int)) = false := by simp; omega
        have e : playS (seg q i to) o1 = (o1, .go) := by rw [seg_end q (by omega), playS_nil]
        have hq1 := HQ.out.1
        rw [e] at hq1
        have Hq := hid hq1
        clear e hq1 HQ
        go_wp2_with fail
        go_ret
        rw [← Hq.out]
        exact ⟨rfl, HS.out⟩
end Go.Proofs.YtkaecdkmalppcaaDoor
