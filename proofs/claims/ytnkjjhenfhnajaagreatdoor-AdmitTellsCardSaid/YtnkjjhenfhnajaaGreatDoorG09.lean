/-
  Texts Cg Cv Cz Cq in one.
-/
import Derived.Test.YtnkjjhenfhnajaaGreatDoorG08
import Derived.Test.YtnkjjhenfhnajaaGreatDoorG03
/-
  Package code, walked: the parts of a program.
-/
namespace Go.Proofs.YtnkjjhenfhnajaaGreatDoor
open Go.RowKit Go.Kw Go.Kreg Go.Cm

abbrev TI : Nat := 3
def walkC (wb : Nat) (qv ev : Value) (t : Option Nat) (q : List Cm.Op) (es : List Value) (out : List Cm.Op) (ovr : Bool) : List Ch :=
  [.pt wb TWk [qv, .int .i64 out.length, .bool ovr, ev, tellV t], tellC t out, .row TOp 4 qv q.length (opsC q), .row TI 1 ev q.length es]

theorem wstep_any {F0 : Nat → Prop} {w0 w : World} {wb : Nat} {qv ev : Value} {t : Option Nat} {q : List Cm.Op} {es : List Value} {out : List Cm.Op} (o : Cm.Op) (h : St F0 w0 (walkC wb qv ev t q es out false) w) (hout : out.length ≤ 4096) :
    Calls Tryz.prog 184 #[.pointer (some ⟨wb, 0, none⟩), opV o] w fun e w' => e = .returned (.bool (decide ((Cm.step o out).2 ≠ .long))) ∧
      St F0 w0 (walkC wb qv ev t q es (Cm.step o out).1 (decide ((Cm.step o out).2 = .long))) w' := by
  obtain ⟨F1, g1, _, _, back⟩ := h.sel [0, 1]
  simp only [walkC, Kw.red] at g1
  refine (step_any o g1 hout).mono ?_; rintro e w1 ⟨rfl, hS⟩
  have hS := back hS
  simp only [walkC, Kw.red, Bool.false_or] at hS
  exact ⟨rfl, hS⟩

set_option maxRecDepth 100000 in
set_option maxHeartbeats 4000000 in
theorem part_any {wb : Nat} {qv ev : Value} {t : Option Nat} {q : List Cm.Op} {es : List Value} (hq : q.length ≤ 256) (hN : ∀ o ∈ q, o.n ≤ 4096) (hE : ∀ (j : Nat) (o : Cm.Op), q[j]? = some o → o.kind = 10 → es[j]? = some (Value.int .i64 (endE q j : Nat))) :
    ∀ (f i0 to : Nat) (w w0 : World) (F : Nat → Prop) (out : List Cm.Op), St F w0 (walkC wb qv ev t q es out false) w → to ≤ q.length → to - i0 < f → i0 ≤ q.length → out.length ≤ 4096 → bal (seg q i0 to) 0 = true →
      Calls Tryz.prog 183 #[.pointer (some ⟨wb, 0, none⟩), .int .i64 i0, .int .i64 to] w fun e w' => e = .returned (.bool (decide ((playS (seg q i0 to) out).2 = .go))) ∧
        St F w0 (walkC wb qv ev t q es (playS (seg q i0 to) out).1 (decide ((playS (seg q i0 to) out).2 = .long))) w' := by
  intro f
  induction f with
  | zero => intro i0 to w w0 F out h hto hf; omega
  | succ f ih =>
    intro i0 to w w0 F out h hto hf hi0 hout hb
    generalize hR : playS (seg q i0 to) out = R
    have HR := hid (show playS (seg q i0 to) out = R ∧ bal (seg q i0 to) 0 = true ∧ i0 ≤ i0 from ⟨hR, hb, Nat.le_refl _⟩)
    have HS := hid h
    have HE := hid hE
    have HN := hid hN
    have IH := hid ih
    clear h hE hN hR ih hb
    go_enter Tryz.func183, Tryz.ntmps183
    go_wp2_with fail
    go_loopw [7] (fun x wr => ∃ (i : Nat) (o1 : List Cm.Op), x = .int .i64 i ∧ i ≤ q.length ∧ o1.length ≤ 4096 ∧ Hid (playS (seg q i to) o1 = R ∧ bal (seg q i to) 0 = true ∧ i0 ≤ i) ∧ St F w0 (walkC wb qv ev t q es o1 false) wr) (fun x _ => to - (intOf x).toNat)
    case atStart => exact ⟨i0, out, rfl, hi0, hout, HR, HS.out⟩
    case round =>
      clear HS HR
      obtain ⟨i, o1, rfl, hi, ho1, HQ, hS⟩ := hrel
      have HS := hid hS
      clear hS
      by_cases hlt : i < to
      · have b2 : decide ((i : Int) < (to : Int)) = true := by simp; omega
        have hx := List.getElem?_eq_getElem (show i < q.length by omega)
        have hn4 := HN.out _ (List.getElem_mem (show i < q.length by omega))
        generalize q[i] = o at *
        obtain ⟨hq1, hb1, hi1⟩ := HQ.out
        have hqv := HS.out.own 2
        have h0 := HS.out.blk 0
        obtain ⟨c0, c1, c2, c3, c4, cz⟩ : wr.cell? ⟨wb, 0, none⟩ = some qv ∧ wr.cell? ⟨wb, 1, none⟩ = some (.int .i64 o1.length) ∧ wr.cell? ⟨wb, 2, none⟩ = some (.bool false) ∧ wr.cell? ⟨wb, 3, none⟩ = some ev ∧ wr.cell? ⟨wb, 4, none⟩ = some (tellV t) ∧ (∀ o, wr.frozen? ⟨wb, o, none⟩ = false) := ⟨h0.cell 0, h0.cell 1, h0.cell 2, h0.cell 3, h0.cell 4, h0.fz⟩
        obtain ⟨g, cap, e1, _⟩ := hqv.form (by omega)
        subst e1
        obtain ⟨x0, x1, x2, x3⟩ := opsC_at hx
        have d0 := hqv.cells' (g := g) rfl x0
        have d1 := hqv.cells' (g := g) rfl x1
        have d2 := hqv.cells' (g := g) rfl x2
        have d3 := hqv.cells' (g := g) rfl x3
        have HS1 := hid (HS.out.step ((Keeps.refl (fun _ => False) wr).alloc (.cells #[.int .i64 o.kind, .int .i64 o.res, .int .i64 o.n, .int .i64 o.v] TOp)))
        clear x0 x1 x2 x3 hqv h0 HS
        have i1 : (i : Int) < (q.length : Int) := by omega
        have i0' : (0 : Int) ≤ (i : Int) := by omega
        clear HQ
        by_cases h10 : o.kind = 10
        · obtain ⟨hE1, hE2, hbB, hbR, _⟩ := seg_rep hto hx hlt h10 hb1
          rw [seg_rep_thn hto hx hlt h10 hb1] at hq1
          have e10 : (o.kind == 10) = true := by simpa using h10
          have hxe := HE.out i o hx h10
          generalize endE q i = E at *
          have hev := HS1.out.own 3
          obtain ⟨ge, ce, e2, _⟩ := hev.form (by omega)
          subst e2
          have HR := hid (show thn (rep (playS (seg q (i + 1) E)) o1.length (o.n.toNat - 0) o1) (playS (seg q (E + 1) to)) = R from hq1)
          have HB := hid (show _ ∧ _ from ⟨hbB, hbR⟩)
          have HX := hid hxe
          have hEq : E < q.length := by omega
          clear hq1 hb1 hx h10 hbB hbR hxe hev
          go_wp2_with fail
          go_loopw [37] (fun x wr2 => ∃ (k : Nat) (o2 : List Cm.Op), x = .int .i64 k ∧ k ≤ o.n.toNat ∧ o2.length ≤ 4096 ∧ Hid (thn (rep (playS (seg q (i + 1) E)) o1.length (o.n.toNat - k) o2) (playS (seg q (E + 1) to)) = R) ∧ St F w0 (walkC wb (.slice (some ⟨g, 0, none⟩) q.length cap) (.slice (some ⟨ge, 0, none⟩) q.length ce) t q es o2 false) wr2) (fun x _ => o.n.toNat - (intOf x).toNat)
          case atStart => exact ⟨0, o1, rfl, Nat.zero_le _, ho1, HR, HS1.out⟩
          case round =>
            clear HS1 HR
            obtain ⟨k, o2, rfl, hk, ho2, HR, hS⟩ := hrel
            have HS1 := hid hS
            clear hS c0 c1 c2 c3 c4 cz d0 d1 d2 d3
            have h0 := HS1.out.blk 0
            obtain ⟨c0, c1, c2, c3, c4, cz⟩ : wr.cell? ⟨wb, 0, none⟩ = some (.slice (some ⟨g, 0, none⟩) q.length cap) ∧ wr.cell? ⟨wb, 1, none⟩ = some (.int .i64 o2.length) ∧ wr.cell? ⟨wb, 2, none⟩ = some (.bool false) ∧ wr.cell? ⟨wb, 3, none⟩ = some (.slice (some ⟨ge, 0, none⟩) q.length ce) ∧ wr.cell? ⟨wb, 4, none⟩ = some (tellV t) ∧ (∀ o, wr.frozen? ⟨wb, o, none⟩ = false) := ⟨h0.cell 0, h0.cell 1, h0.cell 2, h0.cell 3, h0.cell 4, h0.fz⟩
            have de := (HS1.out.own 3).cells' (g := ge) rfl HX.out
            clear h0
            by_cases hkn : k < o.n.toNat
            · have hk4 : (k : Int) < 4096 := by omega
              have b3 : decide ((k : Int) < o.n) = true := by simp; omega
              obtain ⟨m, hm⟩ : ∃ m, o.n.toNat - k = m + 1 := ⟨o.n.toNat - k - 1, by omega⟩
              have hr := HR.out
              rw [hm, rep_more, thn_thn] at hr
              have hm2 : o.n.toNat - (k + 1) = m := by omega
              have hc := IH.out (i + 1) E wr w0 F o2 HS1.out (by omega) (by omega) (by omega) ho2 HB.out.1
              have hl3 := playS_len (seg q (i + 1) E) o2 ho2
              rw [show ((i + 1 : Nat) : Int) = (i : Int) + 1 by omega] at hc
              generalize hbd : playS (seg q (i + 1) E) o2 = r3 at hc hr hl3
              obtain ⟨o3, s3⟩ := r3
              by_cases hs3 : s3 = .go
              · subst hs3
                rw [thn_go, ← hm2] at hr
                have HC := hid hc
                by_cases hl : o3.length = o1.length
                · rw [if_pos hl, thn_go] at hr
                  have HR := hid hr
                  have b5 : ((o3.length : Int) == (o1.length : Int)) = true := by simp; omega
                  clear hr hm hm2 hl hc hbd
                  go_wp2_with fail
                  refine HC.out.mono ?_; rintro e w1 ⟨rfl, hS⟩
                  have HS2 := hid hS
                  clear hS HC
                  have h0 := HS2.out.blk 0
                  obtain ⟨m0, m1, m2, m3, m4, mz⟩ : w1.cell? ⟨wb, 0, none⟩ = some (.slice (some ⟨g, 0, none⟩) q.length cap) ∧ w1.cell? ⟨wb, 1, none⟩ = some (.int .i64 o3.length) ∧ w1.cell? ⟨wb, 2, none⟩ = some (.bool (decide (Stt.go = Stt.long))) ∧ w1.cell? ⟨wb, 3, none⟩ = some (.slice (some ⟨ge, 0, none⟩) q.length ce) ∧ w1.cell? ⟨wb, 4, none⟩ = some (tellV t) ∧ (∀ o, w1.frozen? ⟨wb, o, none⟩ = false) := ⟨h0.cell 0, h0.cell 1, h0.cell 2, h0.cell 3, h0.cell 4, h0.fz⟩
                  have me := (HS2.out.own 3).cells' (g := ge) rfl HX.out
                  clear h0
                  clear HS1
                  simp only [decide_true]
                  go_wp2_with fail
                  go_roundw
                  case rel => exact ⟨E + 1, o3, by go_num, by omega, hl3, hid ⟨HR.out, HB.out.2, by omega⟩, HS2.out⟩
                  case measure => simp [intOf]; omega
                · rw [if_neg hl] at hr
                  have HR := hid hr
                  have b5 : ((o3.length : Int) == (o1.length : Int)) = false := by simp; omega
                  clear hr hm hm2 hl hc hbd
                  go_wp2_with fail
                  refine HC.out.mono ?_; rintro e w1 ⟨rfl, hS⟩
                  have HS2 := hid hS
                  clear hS HC
                  have h0 := HS2.out.blk 0
                  obtain ⟨m0, m1, m2, m3, m4, mz⟩ : w1.cell? ⟨wb, 0, none⟩ = some (.slice (some ⟨g, 0, none⟩) q.length cap) ∧ w1.cell? ⟨wb, 1, none⟩ = some (.int .i64 o3.length) ∧ w1.cell? ⟨wb, 2, none⟩ = some (.bool (decide (Stt.go = Stt.long))) ∧ w1.cell? ⟨wb, 3, none⟩ = some (.slice (some ⟨ge, 0, none⟩) q.length ce) ∧ w1.cell? ⟨wb, 4, none⟩ = some (tellV t) ∧ (∀ o, w1.frozen? ⟨wb, o, none⟩ = false) := ⟨h0.cell 0, h0.cell 1, h0.cell 2, h0.cell 3, h0.cell 4, h0.fz⟩
                  have me := (HS2.out.own 3).cells' (g := ge) rfl HX.out
                  clear h0
                  clear HS1
                  simp only [decide_true]
                  go_wp2_with fail
                  go_roundw
                  case rel => exact ⟨k + 1, o3, by go_num, by omega, hl3, HR, HS2.out⟩
                  case measure => simp [intOf]; omega
              · rw [thn_no _ hs3] at hr
                have HR := hid hr
                have HC := hid hc
                have et : decide (s3 = Stt.go) = false := decide_eq_false hs3
                clear hr hm hm2 hc hbd hs3
                go_wp2_with fail
                refine HC.out.mono ?_; rintro e w1 ⟨rfl, hS⟩
                have HS2 := hid hS
                clear hS HS1 HC
                rw [et]
                go_wp2_with fail
                go_ret
                rw [← HR.out]
                exact ⟨by rw [et]; rfl, HS2.out⟩
            · have b3 : decide ((k : Int) < o.n) = false := by simp; omega
              have hr := HR.out
              rw [show o.n.toNat - k = 0 by omega] at hr
              have HR := hid (show playS (seg q (E + 1) to) o2 = R from hr)
              clear hr
              go_wp2_with fail
              go_roundw
              case rel => exact ⟨E + 1, o2, by go_num, by omega, ho2, hid ⟨HR.out, HB.out.2, by omega⟩, HS1.out⟩
              case measure => simp [intOf]; omega
        · obtain ⟨h11, hbn⟩ := seg_other hx hlt h10 hb1
          have e10 : (o.kind == 10) = false := by simpa using h10
          by_cases h5 : o.kind = 5
          · have e5 : (o.kind == 5) = true := by simpa using h5
            rw [seg_work_thn hx hlt h5] at hq1
            have HR := hid (show thn (times work (o.n.toNat - 0) o1) (playS (seg q (i + 1) to)) = R from hq1)
            have HB := hid hbn
            clear hq1 hb1 hbn hx h10 h11 h5
            go_wp2_with fail
            go_loopw [69] (fun x wr2 => ∃ (k : Nat) (o2 : List Cm.Op), x = .int .i64 k ∧ k ≤ o.n.toNat ∧ o2.length ≤ 4096 ∧ Hid (thn (times work (o.n.toNat - k) o2) (playS (seg q (i + 1) to)) = R) ∧ St F w0 (walkC wb (.slice (some ⟨g, 0, none⟩) q.length cap) ev t q es o2 false) wr2) (fun x _ => o.n.toNat - (intOf x).toNat)
            case atStart => exact ⟨0, o1, rfl, Nat.zero_le _, ho1, HR, HS1.out⟩
            case round =>
              clear HS1 HR
              obtain ⟨k, o2, rfl, hk, ho2, HR, hS⟩ := hrel
              have HS1 := hid hS
              clear hS c0 c1 c2 c3 c4 cz d0 d1 d2 d3
              by_cases hkn : k < o.n.toNat
              · have hk4 : (k : Int) < 4096 := by omega
                have b3 : decide ((k : Int) < o.n) = true := by simp; omega
                obtain ⟨m, hm⟩ : ∃ m, o.n.toNat - k = m + 1 := ⟨o.n.toNat - k - 1, by omega⟩
                have hr := HR.out
                rw [hm, times_more, thn_thn] at hr
                have hm2 : o.n.toNat - (k + 1) = m := by omega
                by_cases hl : o2.length = 4096
                · rw [step_full hl, thn_no _ (by decide)] at hr
                  have HR := hid hr
                  have hc := wstep_any work HS1.out ho2
                  rw [step_full hl] at hc
                  have HC := hid hc
                  clear hr hm hm2 hl hc
                  go_wp2_with fail
                  refine HC.out.mono ?_; rintro e w1 ⟨rfl, hS⟩
                  have HS2 := hid hS
                  clear hS HS1 HC
                  simp only [ne_eq, not_true_eq_false, decide_false]
                  go_wp2_with fail
                  go_ret
                  rw [← HR.out]
                  exact ⟨rfl, HS2.out⟩
                · rw [step_room hl (by decide), thn_go] at hr
                  rw [← hm2] at hr
                  have HR := hid hr
                  have hc := wstep_any work HS1.out ho2
                  rw [step_room hl (by decide)] at hc
                  have HC := hid hc
                  have hlen : (o2 ++ [work]).length ≤ 4096 := by simp; omega
                  clear hr hm hm2 hl hc
                  go_wp2_with fail
                  refine HC.out.mono ?_; rintro e w1 ⟨rfl, hS⟩
                  have HS2 := hid hS
                  clear hS HS1 HC
                  have et : decide (Stt.go ≠ Stt.long) = true := by decide
                  rw [et]
                  go_wp2_with fail
                  go_roundw
                  case rel => exact ⟨k + 1, o2 ++ [work], by go_num, by omega, hlen, HR, HS2.out⟩
                  case measure => simp [intOf]; omega
              · have b3 : decide ((k : Int) < o.n) = false := by simp; omega
                have hr := HR.out
                rw [show o.n.toNat - k = 0 by omega] at hr
                have HR := hid (show playS (seg q (i + 1) to) o2 = R from hr)
                clear hr
                go_wp2_with fail
                go_roundw
                case rel => exact ⟨i + 1, o2, by go_num, by omega, ho2, hid ⟨HR.out, HB.out, by omega⟩, HS1.out⟩
                case measure => simp [intOf]; omega
          · have e5 : (o.kind == 5) = false := by simpa using h5
            rw [seg_one_thn hx hlt h10 h5] at hq1
            by_cases h9 : o.kind = 9
            · have e9 : (o.kind == 9) = true := by simpa using h9
              have hR : R = Cm.step o o1 ∧ R.2 ≠ .go := by
                by_cases hl : o1.length = 4096
                · rw [step_full hl, thn_no _ (by decide)] at hq1; rw [step_full hl, ← hq1]; exact ⟨rfl, by simp⟩
                · rw [step_last hl h9, thn_no _ (by decide)] at hq1; rw [step_last hl h9, ← hq1]; exact ⟨rfl, by simp⟩
              have HR := hid hR
              clear hq1 hb1 hbn hx h10 h11 h5 h9 hR
              go_wp2_with fail
              refine (wstep_any o HS1.out ho1).mono ?_; rintro e w1 ⟨rfl, hS⟩
              have HS2 := hid hS
              clear hS HS1
              go_wp2_with fail
              go_ret
              obtain ⟨rfl, h2⟩ := HR.out
              exact ⟨by rw [decide_eq_false h2]; rfl, HS2.out⟩
            · have e9 : (o.kind == 9) = false := by simpa using h9
              by_cases hl : o1.length = 4096
              · rw [step_full hl, thn_no _ (by decide)] at hq1
                have HR := hid hq1
                have hc := wstep_any o HS1.out ho1
                rw [step_full hl] at hc
                have HC := hid hc
                clear hq1 hb1 hbn hx h10 h11 h5 h9 hl hc
                go_wp2_with fail
                refine HC.out.mono ?_; rintro e w1 ⟨rfl, hS⟩
                have HS2 := hid hS
                clear hS HS1 HC
                simp only [ne_eq, not_true_eq_false, decide_false]
                go_wp2_with fail
                go_ret
                rw [← HR.out]
                exact ⟨rfl, HS2.out⟩
              · rw [step_room hl h9, thn_go] at hq1
                have HR := hid (show _ ∧ _ from ⟨hq1, hbn⟩)
                have hc := wstep_any o HS1.out ho1
                rw [step_room hl h9] at hc
                have HC := hid hc
                have hlen : (o1 ++ [o]).length ≤ 4096 := by simp; omega
                clear hq1 hb1 hbn hx h10 h11 h5 h9 hl hc
                go_wp2_with fail
                refine HC.out.mono ?_; rintro e w1 ⟨rfl, hS⟩
                have HS2 := hid hS
                clear hS HS1 HC
                have et : decide (Stt.go ≠ Stt.long) = true := by decide
                rw [et]
                go_wp2_with fail
                go_roundw
                case rel => exact ⟨i + 1, o1 ++ [o], by go_num, by omega, hlen, hid ⟨HR.out.1, HR.out.2, by omega⟩, HS2.out⟩
                case measure => simp [intOf]; omega
      · have b2 : decide ((i : Int) < (to : Int)) = false := by simp; omega
        have e : playS (seg q i to) o1 = (o1, .go) := by rw [seg_end q (by omega), playS_nil]
        have hq1 := HQ.out.1
        rw [e] at hq1
        have Hq := hid hq1
        clear e hq1 HQ
        go_wp2_with fail
        go_ret
        rw [← Hq.out]
        exact ⟨rfl, HS.out⟩
end Go.Proofs.YtnkjjhenfhnajaaGreatDoor

/-
  Package code, walked: walk.
-/
namespace Go.Proofs.YtnkjjhenfhnajaaGreatDoor
open Go.RowKit Go.Kw Go.Kreg Go.Cm

abbrev TSI : Nat := 22
theorem own_whole {w : World} {T : TypeId} {g n : Nat} {xs : List Value} (h : Blk w g T xs) (hl : xs.length = n) (hn : n ≤ maxLen) : Own w T 1 (.slice (some ⟨g, 0, none⟩) n n) n xs :=
  ⟨by omega, .inr ⟨g, n, xs.toArray, rfl, Nat.zero_le _, h, Nat.le_refl _, hn, by simp; omega, by rw [List.toList_toArray, List.take_of_length_le (by omega)]⟩⟩
def nats (l : List Nat) : List Value := l.map fun (n : Nat) => Value.int .i64 (n : Int)
theorem nats_at {l : List Nat} {i n : Nat} (h : l[i]? = some n) : (nats l)[i]? = some (.int .i64 n) := by simp [nats, h]
theorem nats_set (l : List Nat) (i n : Nat) : (nats l).set i (.int .i64 n) = nats (l.set i n) := by simp [nats, List.map_set]
theorem nats_snoc (l : List Nat) (n : Nat) : nats l ++ [.int .i64 n] = nats (l ++ [n]) := by simp [nats]
theorem nats_zero (n : Nat) : List.replicate n (Value.int .i64 0) = nats (List.replicate n 0) := by simp [nats]
/-- What a walk answers: how many steps there are, or that there are too many. -/
def walkR (r : List Cm.Op × Stt) : Int × Int := match r with | (_, .long) => (0, 5) | (o, _) => (o.length, 0)
def openC (wb : Nat) (qv ev : Value) (t : Option Nat) (q : List Cm.Op) (A st : List Nat) (y : Value) : List Ch :=
  [.pt wb TWk [qv, .int .i64 0, .bool false, ev, tellV t], tellC t [], .row TOp 4 qv q.length (opsC q), .row TI 1 ev q.length (nats A), .row TI 1 y st.length (nats st)]

section
variable {w : World} {F : Nat → Prop} {v : Value} {p : List Cm.Op}
set_option maxRecDepth 100000 in
set_option maxHeartbeats 4000000 in
theorem walk_any {t : Option Nat} (h : Sts [.row TOp 4 v p.length (opsC p), tellC t []] F w) (hc : (check p).2 = 0) :
    Calls Tryz.prog 162 #[v, tellV t] w fun e w' => e = .returned (.tuple #[.int .i64 (walkR (playAll p)).1, .int .i64 (walkR (playAll p)).2]) ∧ St F w [.row TOp 4 v p.length (opsC p), tellC t (playAll p).1] w' := by
  cases t with
  | none =>
    have hcc := check_ok hc
    generalize hr0 : playAll p = r0
    have HPA := hid hr0
    clear hr0
    obtain ⟨hc0, hl, hb0, hfo⟩ := hcc
    have hkd : ∀ o ∈ p, 1 ≤ o.kind ∧ o.kind ≤ 11 := fun o ho => fieldsOk_kind (hfo o ho)
    have HFO := hid (show _ ∧ bal p 0 = true from ⟨hfo, hb0⟩)
    have HS := hid (St.of h)
    obtain ⟨oa, oc, rfl, _⟩ := (HS.out.own 0).shape
    obtain ⟨F1, g1, _, _, back⟩ := (St.of h).sel [0]
    simp only [Kw.red] at g1
    have hck := check_any g1 hkd hl
    rw [hc0] at hck
    have HC := hid hck
    clear h hck hkd hc hc0 hfo hb0 g1
    simp only [tellV]
    go_enter Tryz.func162, Tryz.ntmps162
    go_wp2_with fail
    refine HC.out.mono ?_; rintro e w1 ⟨rfl, hS⟩
    have hS := back hS
    simp only [Kw.red] at hS
    have HS1 := hid hS
    clear hS back HC HS
    go_wp2_with (at_make; refine wpList_mkfull _ _ TSI TI (.int .i64 0) 8 infoI Tryz.underlying22 rfl rfl rfl .i64 .i64 _ _ p.length rfl rfl rfl rfl (by omega) (by unfold maxLen; omega) ?_; intro w2 hb hk hsz)
    have hSE := HS1.out.add hk (G := fun b => (Value.slice (some ⟨w1.heap.size, 0, none⟩) p.length p.length).ownBlock = some b) (c := .row TI 1 (.slice (some ⟨w1.heap.size, 0, none⟩) p.length p.length) p.length (nats (List.replicate p.length 0))) ⟨by rw [← nats_zero]; exact own_whole hb (by simp) (by unfold maxLen; omega), fun _ => Iff.rfl⟩ (fun b hb => by simp only [Value.ownBlock, Option.some.injEq] at hb; omega)
    have hSF := (hSE.add (Keeps.refl (fun _ => False) w2) (G := fun b => (Value.slice none 0 0).ownBlock = some b) (c := .row TI 1 (.slice none 0 0) 0 []) ⟨⟨rfl, .inl ⟨rfl, rfl⟩⟩, fun _ => Iff.rfl⟩ (fun b hb => by cases hb)).new TWk [.slice oa p.length oc, .int .i64 0, .bool false, .slice (some ⟨w1.heap.size, 0, none⟩) p.length p.length, Value.nilFunc]
    have hSG := hSF.sub [4, 1, 0, 2, 3]
    rw [hsz] at hSG
    have HSG := hid (show St F w (openC (w1.heap.size + 1) (.slice oa p.length oc) (.slice (some ⟨w1.heap.size, 0, none⟩) p.length p.length) none p (List.replicate p.length 0) [] (.slice none 0 0)) _ from hSG)
    clear hSE hSF hSG HS1 hb
    generalize hge : w1.heap.size = ge at *
    generalize hwb : ge + 1 = wb at *
    clear hge hsz
    go_loopw [29, 9] (fun x y wr => ∃ (i : Nat) (st A : List Nat), x = .int .i64 i ∧ i ≤ p.length ∧ A.length = p.length ∧ st.length ≤ i ∧ Hid (endsF (p.drop i) i st A = endsF p 0 [] (List.replicate p.length 0) ∧ bal (p.drop i) st.length = true ∧ ∀ s ∈ st, s < i) ∧ St F w (openC wb (.slice oa p.length oc) (.slice (some ⟨ge, 0, none⟩) p.length p.length) none p A st y) wr) (fun x _ _ => p.length - (intOf x).toNat)
    case atStart => exact ⟨0, [], _, rfl, Nat.zero_le _, by simp, Nat.le_refl _, hid ⟨rfl, HFO.out.2, by simp⟩, HSG.out⟩
    case round =>
      clear HSG
      obtain ⟨i, st, A, rfl, hi, hA, hsti, HQ, hS⟩ := hrel
      have HS := hid hS
      clear hS
      by_cases hlt : i < p.length
      · have hx := List.getElem?_eq_getElem hlt
        have hdr : p.drop i = p[i] :: p.drop (i + 1) := List.drop_eq_getElem_cons hlt
        generalize p[i] = o at *
        obtain ⟨hq1, hb1, hs1⟩ := HQ.out
        rw [hdr] at hq1 hb1
        have hqv := HS.out.own 2
        obtain ⟨g, cap, e1, _⟩ := hqv.form (by omega)
        cases e1
        obtain ⟨x0, x1, x2, x3⟩ := opsC_at hx
        have d0 := hqv.cells' (g := g) rfl x0
        have d1 := hqv.cells' (g := g) rfl x1
        have d2 := hqv.cells' (g := g) rfl x2
        have d3 := hqv.cells' (g := g) rfl x3
        have b2 : decide ((i : Int) < (p.length : Int)) = true := by simp; omega
        have i1 : (i : Int) < (p.length : Int) := by omega
        have i0' : (0 : Int) ≤ (i : Int) := by omega
        clear x0 x1 x2 x3 hx hdr hqv HQ
        by_cases h10 : o.kind = 10
        · have e10 : (o.kind == 10) = true := by simpa using h10
          rw [endsF_10 _ _ _ _ h10] at hq1
          rw [bal_10 _ _ h10] at hb1
          have HQ := hid (show _ ∧ _ ∧ _ from ⟨hq1, hb1, hs1⟩)
          have hS2 := ((HS.out.step ((Keeps.refl (fun _ => False) wr).alloc (.cells #[.int .i64 o.kind, .int .i64 o.res, .int .i64 o.n, .int .i64 o.v] TOp))).new TI [.int .i64 i])
          rw [show (wr.alloc (.cells #[.int .i64 o.kind, .int .i64 o.res, .int .i64 o.n, .int .i64 o.v] TOp)).heap.size = wr.heap.size + 1 by simp] at hS2
          simp only [openC, Kw.red] at hS2
          have HS2 := hid hS2
          clear hS2
          clear hq1 hb1 hs1 h10
          go_wp2_with (at_builtin; refine wpList_appS 4 5 _ _ TSI TI (.int .i64 0) 1 8 infoI Tryz.underlying22 rfl (by decide) rfl rfl HS2.out rfl rfl rfl rfl rfl (by intro u hu; rw [List.mem_singleton] at hu; subst hu; rfl) (by omega) (by unfold maxLen; omega) (by omega) ?_; intro g2 gc w7 hSc hat)
          have hS9 : St F w (openC wb (.slice (some ⟨g, 0, none⟩) p.length oc) (.slice (some ⟨ge, 0, none⟩) p.length p.length) none p A (st ++ [i]) (.slice (some ⟨g2, 0, none⟩) (st.length + 1) gc)) w7 := by
            have q := hSc.sub [0, 1, 2, 3, 4]
            unfold openC
            rw [List.length_append, List.length_singleton, ← nats_snoc]; exact q
          have HS9 := hid hS9
          clear hS9 hSc HS2 HS
          go_roundw
          case rel => exact ⟨i + 1, st ++ [i], A, by go_num, by omega, hA, by simp; omega, hid ⟨HQ.out.1, by simpa using HQ.out.2.1, fun s hs => by rcases List.mem_append.1 hs with hs | hs; have := HQ.out.2.2 s hs; omega; have := List.mem_singleton.1 hs; omega⟩, HS9.out⟩
          case measure => simp [intOf]; omega
        · have e10 : (o.kind == 10) = false := by simpa using h10
          by_cases h11 : o.kind = 11
          · have e11 : (o.kind == 11) = true := by simpa using h11
            rw [endsF_11 _ _ _ _ h11] at hq1
            rw [bal_11 _ _ h11] at hb1
            by_cases hs0 : st.length = 0
            · rw [if_pos hs0] at hb1; cases hb1
            rw [if_neg hs0] at hb1
            obtain ⟨l, t0, rfl⟩ : ∃ l t, st = l ++ [t] := ⟨st.dropLast, st.getLast (by intro e; rw [e] at hs0; exact hs0 rfl), (List.dropLast_concat_getLast _).symm⟩
            have hS := HS.out
            unfold openC at hS
            simp only [List.length_append, List.length_singleton, Nat.add_sub_cancel] at hb1 hs0 hsti hS
            rw [List.dropLast_concat, List.getLast?_concat, Option.getD_some] at hq1
            have ht0 : t0 < i := hs1 t0 (by simp)
            obtain ⟨g3, c3, e3, _⟩ := (hS.own 4).form (by omega)
            subst e3
            obtain ⟨_, _, e4, hc3⟩ := (hS.own 4).shape
            cases e4
            have dy := (hS.own 4).cells' (g := g3) rfl (nats_at (show (l ++ [t0])[l.length]? = some t0 by simp))
            have dw := (hS.blk 0).cell 3
            have dwz := (hS.blk 0).fz 3
            have dez := (hS.own 3).fz (g := ge) rfl t0
            obtain ⟨ut, hut⟩ : ∃ u, A[t0]? = some u := ⟨_, List.getElem?_eq_getElem (by omega)⟩
            have det := (hS.own 3).cells' (g := ge) rfl (nats_at hut)
            simp only [List.getElem?_cons_zero, List.getElem?_cons_succ] at dw
            have hl4 : l.length ≤ 256 := by omega
            have hwr : IntKind.i64.wrap (((l.length + 1 : Nat) : Int) - 1) = (l.length : Int) := (IntWalk.i64_in _ (by omega)).trans (by omega)
            have HQ := hid (show _ ∧ _ ∧ _ from ⟨hq1, hb1, hs1⟩)
            have hS2 := ((hS.step ((Keeps.refl (fun _ => False) _).alloc (.cells #[.int .i64 o.kind, .int .i64 o.res, .int .i64 o.n, .int .i64 o.v] TOp))).setRow 3 (g := ge) rfl t0 (.int .i64 i)).drew
            simp only [Kw.red, nats_set] at hS2
            have hS3 := hS2.imp (c := .row TI 1 (.slice (some ⟨g3, 0, none⟩) (l.length + 1) c3) (l.length + 1) (nats (l ++ [t0]))) 4 (.row TI 1 (.slice (some ⟨g3, 0, none⟩) l.length c3) l.length (nats l)) (fun F h => ⟨by
              have q := h.1.shorter l.length (by omega)
              rw [show (nats (l ++ [t0])).take (l.length * 1) = nats l by simp [nats]] at q
              exact q, h.2⟩)
            have HS2 := hid (show St F w (openC wb (.slice (some ⟨g, 0, none⟩) p.length oc) (.slice (some ⟨ge, 0, none⟩) p.length p.length) none p (A.set t0 i) l (.slice (some ⟨g3, 0, none⟩) l.length c3)) _ from hS3)
            clear hq1 hb1 hs1 h10 h11 HS hS hS2 hS3 hut
            go_wp2_with fail
            refine wp_region_mix [true, true, true, true, true, true, true, true, true, true, true, true, false] 0 (fun _ => False) (by kernel_rfl) (by decide +kernel) ?_
            simp only [front, back, List.take_zero, List.drop_zero]
            repeat ((first | refine wpFront_load rfl ?_ | refine wpFront_other rfl ?_); (first | go_big_quiet_step (fail) | quiet_step (fail)); refine wpQuiet_nil ?_)
            refine wpFront_nil ?_
            simp only [wpSegs]
            go_wp2_with fail
            refine NoPanic.normal ?_
            go_wp2_with fail
            go_roundw
            case rel => exact ⟨i + 1, l, A.set t0 i, by go_num, by omega, by rw [List.length_set, hA], by omega, hid ⟨HQ.out.1, HQ.out.2.1, fun s hs => by have := HQ.out.2.2 s (by simp [hs]); omega⟩, HS2.out⟩
            case measure => simp [intOf]; omega
          · have e11 : (o.kind == 11) = false := by simpa using h11
            rw [endsF_no _ _ _ _ h10 h11] at hq1
            rw [bal_no _ _ h10 h11] at hb1
            have HQ := hid (show _ ∧ _ ∧ _ from ⟨hq1, hb1, hs1⟩)
            have HS2 := hid (HS.out.step ((Keeps.refl (fun _ => False) wr).alloc (.cells #[.int .i64 o.kind, .int .i64 o.res, .int .i64 o.n, .int .i64 o.v] TOp)))
            clear hq1 hb1 hs1 h10 h11 HS
            go_wp2_with fail
            go_roundw
            case rel => exact ⟨i + 1, st, A, by go_num, by omega, hA, by omega, hid ⟨HQ.out.1, HQ.out.2.1, fun s hs => by have := HQ.out.2.2 s hs; omega⟩, HS2.out⟩
            case measure => simp [intOf]; omega
      · have b2 : decide ((i : Int) < (p.length : Int)) = false := by simp; omega
        have hq1 := HQ.out.1
        rw [List.drop_eq_nil_of_le (by omega)] at hq1
        have hq1 : A = endsF p 0 [] (List.replicate p.length 0) := hq1
        have hE : ∀ (j : Nat) (o : Cm.Op), p[j]? = some o → o.kind = 10 → (nats A)[j]? = some (Value.int .i64 (endE p j : Nat)) := fun j o hj hk => nats_at (by rw [hq1]; exact ends_all p HFO.out.2 j o hj hk)
        have hS := HS.out.sub [0, 1, 2, 3]
        have hS : St F w (walkC wb (.slice oa p.length oc) (.slice (some ⟨ge, 0, none⟩) p.length p.length) none p (nats A) [] false) wr := hS
        have hpc := part_any hl (fun o ho => fieldsOk_n (HFO.out.1 o ho)) hE (p.length + 1) 0 p.length wr w F [] hS (Nat.le_refl _) (by omega) (Nat.zero_le _) (by simp) (by rw [seg_all]; exact HFO.out.2)
        rw [seg_all] at hpc
        have hlen := playS_len p [] (by simp)
        have hpa : thn (playS p []) (Cm.step Cm.finish) = r0 := HPA.out
        generalize playS p [] = r at hpc hlen hpa
        obtain ⟨o3, s3⟩ := r
        have HC := hid hpc
        have HP := hid hpa
        clear hS hq1 hE hpc HS HQ hpa HPA
        go_wp2_with fail
        refine HC.out.mono ?_; rintro e w3 ⟨rfl, hS⟩
        cases s3 with
        | go =>
          have e9 : decide (Stt.go = Stt.long) = false := by decide
          rw [e9] at hS
          have hst := wstep_any Cm.finish hS hlen
          have hp := HP.out
          rw [thn_go] at hp
          simp only [decide_true]
          clear hS HP HC e9
          by_cases hl : o3.length = 4096
          · rw [step_full hl] at hst hp
            have HST := hid hst
            have HP := hid hp
            clear hst hp hl
            go_wp2_with fail
            refine HST.out.mono ?_; rintro e w4 ⟨rfl, hS⟩
            have HS4 := hid (show St F w (walkC wb (.slice oa p.length oc) (.slice (some ⟨ge, 0, none⟩) p.length p.length) none p (nats A) o3 true) w4 from hS)
            clear hS HST
            have h0 := HS4.out.blk 0
            obtain ⟨m1, m2, mz⟩ : w4.cell? ⟨wb, 1, none⟩ = some (.int .i64 _) ∧ w4.cell? ⟨wb, 2, none⟩ = some (.bool true) ∧ (∀ o, w4.frozen? ⟨wb, o, none⟩ = false) := ⟨h0.cell 1, h0.cell 2, h0.fz⟩
            clear h0
            go_wp2_with fail
            go_ret2
            obtain rfl := HP.out
            refine ⟨by simp [walkR], ?_⟩
            exact HS4.out.sub [2, 1]
          · rw [step_last hl rfl] at hst hp
            have HST := hid hst
            have HP := hid hp
            clear hst hp hl
            go_wp2_with fail
            refine HST.out.mono ?_; rintro e w4 ⟨rfl, hS⟩
            have e9 : decide (Stt.done = Stt.long) = false := by decide
            rw [e9] at hS
            have HS4 := hid hS
            clear hS HST e9
            have h0 := HS4.out.blk 0
            obtain ⟨m1, m2, mz⟩ : w4.cell? ⟨wb, 1, none⟩ = some (.int .i64 _) ∧ w4.cell? ⟨wb, 2, none⟩ = some (.bool false) ∧ (∀ o, w4.frozen? ⟨wb, o, none⟩ = false) := ⟨h0.cell 1, h0.cell 2, h0.fz⟩
            clear h0
            go_wp2_with fail
            go_ret2
            obtain rfl := HP.out
            refine ⟨by simp [walkR], ?_⟩
            exact HS4.out.sub [2, 1]
        | done =>
          have e9 : decide (Stt.done = Stt.long) = false := by decide
          rw [e9] at hS
          have hp := HP.out
          rw [thn_no _ (by decide)] at hp
          have HP := hid hp
          have HS4 := hid hS
          have e8 : decide (Stt.done = Stt.go) = false := by decide
          rw [e8]
          clear hS HC hp e9 e8
          have h0 := HS4.out.blk 0
          obtain ⟨m1, m2, mz⟩ : w3.cell? ⟨wb, 1, none⟩ = some (.int .i64 _) ∧ w3.cell? ⟨wb, 2, none⟩ = some (.bool false) ∧ (∀ o, w3.frozen? ⟨wb, o, none⟩ = false) := ⟨h0.cell 1, h0.cell 2, h0.fz⟩
          clear h0
          go_wp2_with fail
          go_ret2
          obtain rfl := HP.out
          refine ⟨by simp [walkR], ?_⟩
          exact HS4.out.sub [2, 1]
        | long =>
          have e9 : decide (Stt.long = Stt.long) = true := by decide
          have hp := HP.out
          rw [thn_no _ (by decide)] at hp
          have HP := hid hp
          have HS4 := hid (show St F w (walkC wb (.slice oa p.length oc) (.slice (some ⟨ge, 0, none⟩) p.length p.length) none p (nats A) o3 true) w3 from hS)
          have e8 : decide (Stt.long = Stt.go) = false := by decide
          rw [e8]
          clear hS HC hp e9 e8
          have h0 := HS4.out.blk 0
          obtain ⟨m1, m2, mz⟩ : w3.cell? ⟨wb, 1, none⟩ = some (.int .i64 _) ∧ w3.cell? ⟨wb, 2, none⟩ = some (.bool true) ∧ (∀ o, w3.frozen? ⟨wb, o, none⟩ = false) := ⟨h0.cell 1, h0.cell 2, h0.fz⟩
          clear h0
          go_wp2_with fail
          go_ret2
          obtain rfl := HP.out
          refine ⟨by simp [walkR], ?_⟩
          exact HS4.out.sub [2, 1]
  | some cb =>
    have hcc := check_ok hc
    generalize hr0 : playAll p = r0
    have HPA := hid hr0
    clear hr0
    obtain ⟨hc0, hl, hb0, hfo⟩ := hcc
    have hkd : ∀ o ∈ p, 1 ≤ o.kind ∧ o.kind ≤ 11 := fun o ho => fieldsOk_kind (hfo o ho)
    have HFO := hid (show _ ∧ bal p 0 = true from ⟨hfo, hb0⟩)
    have HS := hid (St.of h)
    obtain ⟨oa, oc, rfl, _⟩ := (HS.out.own 0).shape
    obtain ⟨F1, g1, _, _, back⟩ := (St.of h).sel [0]
    simp only [Kw.red] at g1
    have hck := check_any g1 hkd hl
    rw [hc0] at hck
    have HC := hid hck
    clear h hck hkd hc hc0 hfo hb0 g1
    simp only [tellV]
    go_enter Tryz.func162, Tryz.ntmps162
    go_wp2_with fail
    refine HC.out.mono ?_; rintro e w1 ⟨rfl, hS⟩
    have hS := back hS
    simp only [Kw.red] at hS
    have HS1 := hid hS
    clear hS back HC HS
    go_wp2_with (at_make; refine wpList_mkfull _ _ TSI TI (.int .i64 0) 8 infoI Tryz.underlying22 rfl rfl rfl .i64 .i64 _ _ p.length rfl rfl rfl rfl (by omega) (by unfold maxLen; omega) ?_; intro w2 hb hk hsz)
    have hSE := HS1.out.add hk (G := fun b => (Value.slice (some ⟨w1.heap.size, 0, none⟩) p.length p.length).ownBlock = some b) (c := .row TI 1 (.slice (some ⟨w1.heap.size, 0, none⟩) p.length p.length) p.length (nats (List.replicate p.length 0))) ⟨by rw [← nats_zero]; exact own_whole hb (by simp) (by unfold maxLen; omega), fun _ => Iff.rfl⟩ (fun b hb => by simp only [Value.ownBlock, Option.some.injEq] at hb; omega)
    have hSF := (hSE.add (Keeps.refl (fun _ => False) w2) (G := fun b => (Value.slice none 0 0).ownBlock = some b) (c := .row TI 1 (.slice none 0 0) 0 []) ⟨⟨rfl, .inl ⟨rfl, rfl⟩⟩, fun _ => Iff.rfl⟩ (fun b hb => by cases hb)).new TWk [.slice oa p.length oc, .int .i64 0, .bool false, .slice (some ⟨w1.heap.size, 0, none⟩) p.length p.length, Value.func (.func 163) #[] #[.pointer (some ⟨cb, 0, none⟩)]]
    have hSG := hSF.sub [4, 1, 0, 2, 3]
    rw [hsz] at hSG
    have HSG := hid (show St F w (openC (w1.heap.size + 1) (.slice oa p.length oc) (.slice (some ⟨w1.heap.size, 0, none⟩) p.length p.length) (some cb) p (List.replicate p.length 0) [] (.slice none 0 0)) _ from hSG)
    clear hSE hSF hSG HS1 hb
    generalize hge : w1.heap.size = ge at *
    generalize hwb : ge + 1 = wb at *
    clear hge hsz
    go_loopw [29, 9] (fun x y wr => ∃ (i : Nat) (st A : List Nat), x = .int .i64 i ∧ i ≤ p.length ∧ A.length = p.length ∧ st.length ≤ i ∧ Hid (endsF (p.drop i) i st A = endsF p 0 [] (List.replicate p.length 0) ∧ bal (p.drop i) st.length = true ∧ ∀ s ∈ st, s < i) ∧ St F w (openC wb (.slice oa p.length oc) (.slice (some ⟨ge, 0, none⟩) p.length p.length) (some cb) p A st y) wr) (fun x _ _ => p.length - (intOf x).toNat)
    case atStart => exact ⟨0, [], _, rfl, Nat.zero_le _, by simp, Nat.le_refl _, hid ⟨rfl, HFO.out.2, by simp⟩, HSG.out⟩
    case round =>
      clear HSG
      obtain ⟨i, st, A, rfl, hi, hA, hsti, HQ, hS⟩ := hrel
      have HS := hid hS
      clear hS
      by_cases hlt : i < p.length
      · have hx := List.getElem?_eq_getElem hlt
        have hdr : p.drop i = p[i] :: p.drop (i + 1) := List.drop_eq_getElem_cons hlt
        generalize p[i] = o at *
        obtain ⟨hq1, hb1, hs1⟩ := HQ.out
        rw [hdr] at hq1 hb1
        have hqv := HS.out.own 2
        obtain ⟨g, cap, e1, _⟩ := hqv.form (by omega)
        cases e1
        obtain ⟨x0, x1, x2, x3⟩ := opsC_at hx
        have d0 := hqv.cells' (g := g) rfl x0
        have d1 := hqv.cells' (g := g) rfl x1
        have d2 := hqv.cells' (g := g) rfl x2
        have d3 := hqv.cells' (g := g) rfl x3
        have b2 : decide ((i : Int) < (p.length : Int)) = true := by simp; omega
        have i1 : (i : Int) < (p.length : Int) := by omega
        have i0' : (0 : Int) ≤ (i : Int) := by omega
        clear x0 x1 x2 x3 hx hdr hqv HQ
        by_cases h10 : o.kind = 10
        · have e10 : (o.kind == 10) = true := by simpa using h10
          rw [endsF_10 _ _ _ _ h10] at hq1
          rw [bal_10 _ _ h10] at hb1
          have HQ := hid (show _ ∧ _ ∧ _ from ⟨hq1, hb1, hs1⟩)
          have hS2 := ((HS.out.step ((Keeps.refl (fun _ => False) wr).alloc (.cells #[.int .i64 o.kind, .int .i64 o.res, .int .i64 o.n, .int .i64 o.v] TOp))).new TI [.int .i64 i])
          rw [show (wr.alloc (.cells #[.int .i64 o.kind, .int .i64 o.res, .int .i64 o.n, .int .i64 o.v] TOp)).heap.size = wr.heap.size + 1 by simp] at hS2
          simp only [openC, Kw.red] at hS2
          have HS2 := hid hS2
          clear hS2
          clear hq1 hb1 hs1 h10
          go_wp2_with (at_builtin; refine wpList_appS 4 5 _ _ TSI TI (.int .i64 0) 1 8 infoI Tryz.underlying22 rfl (by decide) rfl rfl HS2.out rfl rfl rfl rfl rfl (by intro u hu; rw [List.mem_singleton] at hu; subst hu; rfl) (by omega) (by unfold maxLen; omega) (by omega) ?_; intro g2 gc w7 hSc hat)
          have hS9 : St F w (openC wb (.slice (some ⟨g, 0, none⟩) p.length oc) (.slice (some ⟨ge, 0, none⟩) p.length p.length) (some cb) p A (st ++ [i]) (.slice (some ⟨g2, 0, none⟩) (st.length + 1) gc)) w7 := by
            have q := hSc.sub [0, 1, 2, 3, 4]
            unfold openC
            rw [List.length_append, List.length_singleton, ← nats_snoc]; exact q
          have HS9 := hid hS9
          clear hS9 hSc HS2 HS
          go_roundw
          case rel => exact ⟨i + 1, st ++ [i], A, by go_num, by omega, hA, by simp; omega, hid ⟨HQ.out.1, by simpa using HQ.out.2.1, fun s hs => by rcases List.mem_append.1 hs with hs | hs; have := HQ.out.2.2 s hs; omega; have := List.mem_singleton.1 hs; omega⟩, HS9.out⟩
          case measure => simp [intOf]; omega
        · have e10 : (o.kind == 10) = false := by simpa using h10
          by_cases h11 : o.kind = 11
          · have e11 : (o.kind == 11) = true := by simpa using h11
            rw [endsF_11 _ _ _ _ h11] at hq1
            rw [bal_11 _ _ h11] at hb1
            by_cases hs0 : st.length = 0
            · rw [if_pos hs0] at hb1; cases hb1
            rw [if_neg hs0] at hb1
            obtain ⟨l, t0, rfl⟩ : ∃ l t, st = l ++ [t] := ⟨st.dropLast, st.getLast (by intro e; rw [e] at hs0; exact hs0 rfl), (List.dropLast_concat_getLast _).symm⟩
            have hS := HS.out
            unfold openC at hS
            simp only [List.length_append, List.length_singleton, Nat.add_sub_cancel] at hb1 hs0 hsti hS
            rw [List.dropLast_concat, List.getLast?_concat, Option.getD_some] at hq1
            have ht0 : t0 < i := hs1 t0 (by simp)
            obtain ⟨g3, c3, e3, _⟩ := (hS.own 4).form (by omega)
            subst e3
            obtain ⟨_, _, e4, hc3⟩ := (hS.own 4).shape
            cases e4
            have dy := (hS.own 4).cells' (g := g3) rfl (nats_at (show (l ++ [t0])[l.length]? = some t0 by simp))
            have dw := (hS.blk 0).cell 3
            have dwz := (hS.blk 0).fz 3
            have dez := (hS.own 3).fz (g := ge) rfl t0
            obtain ⟨ut, hut⟩ : ∃ u, A[t0]? = some u := ⟨_, List.getElem?_eq_getElem (by omega)⟩
            have det := (hS.own 3).cells' (g := ge) rfl (nats_at hut)
            simp only [List.getElem?_cons_zero, List.getElem?_cons_succ] at dw
            have hl4 : l.length ≤ 256 := by omega
            have hwr : IntKind.i64.wrap (((l.length + 1 : Nat) : Int) - 1) = (l.length : Int) := (IntWalk.i64_in _ (by omega)).trans (by omega)
            have HQ := hid (show _ ∧ _ ∧ _ from ⟨hq1, hb1, hs1⟩)
            have hS2 := ((hS.step ((Keeps.refl (fun _ => False) _).alloc (.cells #[.int .i64 o.kind, .int .i64 o.res, .int .i64 o.n, .int .i64 o.v] TOp))).setRow 3 (g := ge) rfl t0 (.int .i64 i)).drew
            simp only [Kw.red, nats_set] at hS2
            have hS3 := hS2.imp (c := .row TI 1 (.slice (some ⟨g3, 0, none⟩) (l.length + 1) c3) (l.length + 1) (nats (l ++ [t0]))) 4 (.row TI 1 (.slice (some ⟨g3, 0, none⟩) l.length c3) l.length (nats l)) (fun F h => ⟨by
              have q := h.1.shorter l.length (by omega)
              rw [show (nats (l ++ [t0])).take (l.length * 1) = nats l by simp [nats]] at q
              exact q, h.2⟩)
            have HS2 := hid (show St F w (openC wb (.slice (some ⟨g, 0, none⟩) p.length oc) (.slice (some ⟨ge, 0, none⟩) p.length p.length) (some cb) p (A.set t0 i) l (.slice (some ⟨g3, 0, none⟩) l.length c3)) _ from hS3)
            clear hq1 hb1 hs1 h10 h11 HS hS hS2 hS3 hut
            go_wp2_with fail
            refine wp_region_mix [true, true, true, true, true, true, true, true, true, true, true, true, false] 0 (fun _ => False) (by kernel_rfl) (by decide +kernel) ?_
            simp only [front, back, List.take_zero, List.drop_zero]
            repeat ((first | refine wpFront_load rfl ?_ | refine wpFront_other rfl ?_); (first | go_big_quiet_step (fail) | quiet_step (fail)); refine wpQuiet_nil ?_)
            refine wpFront_nil ?_
            simp only [wpSegs]
            go_wp2_with fail
            refine NoPanic.normal ?_
            go_wp2_with fail
            go_roundw
            case rel => exact ⟨i + 1, l, A.set t0 i, by go_num, by omega, by rw [List.length_set, hA], by omega, hid ⟨HQ.out.1, HQ.out.2.1, fun s hs => by have := HQ.out.2.2 s (by simp [hs]); omega⟩, HS2.out⟩
            case measure => simp [intOf]; omega
          · have e11 : (o.kind == 11) = false := by simpa using h11
            rw [endsF_no _ _ _ _ h10 h11] at hq1
            rw [bal_no _ _ h10 h11] at hb1
            have HQ := hid (show _ ∧ _ ∧ _ from ⟨hq1, hb1, hs1⟩)
            have HS2 := hid (HS.out.step ((Keeps.refl (fun _ => False) wr).alloc (.cells #[.int .i64 o.kind, .int .i64 o.res, .int .i64 o.n, .int .i64 o.v] TOp)))
            clear hq1 hb1 hs1 h10 h11 HS
            go_wp2_with fail
            go_roundw
            case rel => exact ⟨i + 1, st, A, by go_num, by omega, hA, by omega, hid ⟨HQ.out.1, HQ.out.2.1, fun s hs => by have := HQ.out.2.2 s hs; omega⟩, HS2.out⟩
            case measure => simp [intOf]; omega
      · have b2 : decide ((i : Int) < (p.length : Int)) = false := by simp; omega
        have hq1 := HQ.out.1
        rw [List.drop_eq_nil_of_le (by omega)] at hq1
        have hq1 : A = endsF p 0 [] (List.replicate p.length 0) := hq1
        have hE : ∀ (j : Nat) (o : Cm.Op), p[j]? = some o → o.kind = 10 → (nats A)[j]? = some (Value.int .i64 (endE p j : Nat)) := fun j o hj hk => nats_at (by rw [hq1]; exact ends_all p HFO.out.2 j o hj hk)
        have hS := HS.out.sub [0, 1, 2, 3]
        have hS : St F w (walkC wb (.slice oa p.length oc) (.slice (some ⟨ge, 0, none⟩) p.length p.length) (some cb) p (nats A) [] false) wr := hS
        have hpc := part_any hl (fun o ho => fieldsOk_n (HFO.out.1 o ho)) hE (p.length + 1) 0 p.length wr w F [] hS (Nat.le_refl _) (by omega) (Nat.zero_le _) (by simp) (by rw [seg_all]; exact HFO.out.2)
        rw [seg_all] at hpc
        have hlen := playS_len p [] (by simp)
        have hpa : thn (playS p []) (Cm.step Cm.finish) = r0 := HPA.out
        generalize playS p [] = r at hpc hlen hpa
        obtain ⟨o3, s3⟩ := r
        have HC := hid hpc
        have HP := hid hpa
        clear hS hq1 hE hpc HS HQ hpa HPA
        go_wp2_with fail
        refine HC.out.mono ?_; rintro e w3 ⟨rfl, hS⟩
        cases s3 with
        | go =>
          have e9 : decide (Stt.go = Stt.long) = false := by decide
          rw [e9] at hS
          have hst := wstep_any Cm.finish hS hlen
          have hp := HP.out
          rw [thn_go] at hp
          simp only [decide_true]
          clear hS HP HC e9
          by_cases hl : o3.length = 4096
          · rw [step_full hl] at hst hp
            have HST := hid hst
            have HP := hid hp
            clear hst hp hl
            go_wp2_with fail
            refine HST.out.mono ?_; rintro e w4 ⟨rfl, hS⟩
            have HS4 := hid (show St F w (walkC wb (.slice oa p.length oc) (.slice (some ⟨ge, 0, none⟩) p.length p.length) (some cb) p (nats A) o3 true) w4 from hS)
            clear hS HST
            have h0 := HS4.out.blk 0
            obtain ⟨m1, m2, mz⟩ : w4.cell? ⟨wb, 1, none⟩ = some (.int .i64 _) ∧ w4.cell? ⟨wb, 2, none⟩ = some (.bool true) ∧ (∀ o, w4.frozen? ⟨wb, o, none⟩ = false) := ⟨h0.cell 1, h0.cell 2, h0.fz⟩
            clear h0
            go_wp2_with fail
            go_ret2
            obtain rfl := HP.out
            refine ⟨by simp [walkR], ?_⟩
            exact HS4.out.sub [2, 1]
          · rw [step_last hl rfl] at hst hp
            have HST := hid hst
            have HP := hid hp
            clear hst hp hl
            go_wp2_with fail
            refine HST.out.mono ?_; rintro e w4 ⟨rfl, hS⟩
            have e9 : decide (Stt.done = Stt.long) = false := by decide
            rw [e9] at hS
            have HS4 := hid hS
            clear hS HST e9
            have h0 := HS4.out.blk 0
            obtain ⟨m1, m2, mz⟩ : w4.cell? ⟨wb, 1, none⟩ = some (.int .i64 _) ∧ w4.cell? ⟨wb, 2, none⟩ = some (.bool false) ∧ (∀ o, w4.frozen? ⟨wb, o, none⟩ = false) := ⟨h0.cell 1, h0.cell 2, h0.fz⟩
            clear h0
            go_wp2_with fail
            go_ret2
            obtain rfl := HP.out
            refine ⟨by simp [walkR], ?_⟩
            exact HS4.out.sub [2, 1]
        | done =>
          have e9 : decide (Stt.done = Stt.long) = false := by decide
          rw [e9] at hS
          have hp := HP.out
          rw [thn_no _ (by decide)] at hp
          have HP := hid hp
          have HS4 := hid hS
          have e8 : decide (Stt.done = Stt.go) = false := by decide
          rw [e8]
          clear hS HC hp e9 e8
          have h0 := HS4.out.blk 0
          obtain ⟨m1, m2, mz⟩ : w3.cell? ⟨wb, 1, none⟩ = some (.int .i64 _) ∧ w3.cell? ⟨wb, 2, none⟩ = some (.bool false) ∧ (∀ o, w3.frozen? ⟨wb, o, none⟩ = false) := ⟨h0.cell 1, h0.cell 2, h0.fz⟩
          clear h0
          go_wp2_with fail
          go_ret2
          obtain rfl := HP.out
          refine ⟨by simp [walkR], ?_⟩
          exact HS4.out.sub [2, 1]
        | long =>
          have e9 : decide (Stt.long = Stt.long) = true := by decide
          have hp := HP.out
          rw [thn_no _ (by decide)] at hp
          have HP := hid hp
          have HS4 := hid (show St F w (walkC wb (.slice oa p.length oc) (.slice (some ⟨ge, 0, none⟩) p.length p.length) (some cb) p (nats A) o3 true) w3 from hS)
          have e8 : decide (Stt.long = Stt.go) = false := by decide
          rw [e8]
          clear hS HC hp e9 e8
          have h0 := HS4.out.blk 0
          obtain ⟨m1, m2, mz⟩ : w3.cell? ⟨wb, 1, none⟩ = some (.int .i64 _) ∧ w3.cell? ⟨wb, 2, none⟩ = some (.bool true) ∧ (∀ o, w3.frozen? ⟨wb, o, none⟩ = false) := ⟨h0.cell 1, h0.cell 2, h0.fz⟩
          clear h0
          go_wp2_with fail
          go_ret2
          obtain rfl := HP.out
          refine ⟨by simp [walkR], ?_⟩
          exact HS4.out.sub [2, 1]
end
end Go.Proofs.YtnkjjhenfhnajaaGreatDoor

/-
  Package code, walked: Count.
-/
namespace Go.Proofs.YtnkjjhenfhnajaaGreatDoor
open Go.RowKit Go.Kw Go.Kreg Go.Cm

section
variable {w : World} {F : Nat → Prop} {v : Value} {p : List Cm.Op}
set_option maxRecDepth 100000 in
set_option maxHeartbeats 1000000 in
theorem count_any (h : Sts [.row TOp 4 v p.length (opsC p)] F w) (hc : (check p).2 = 0) :
    Calls Tryz.prog 161 #[v] w fun e w' => e = .returned (.tuple #[.int .i64 (walkR (playAll p)).1, .int .i64 (walkR (playAll p)).2]) ∧ St F w [.row TOp 4 v p.length (opsC p)] w' := by
  have hS := (St.of h).add (Keeps.refl (fun _ => False) w) (G := fun _ => False) (c := tellC none []) (fun _ => id) (fun _ h => h.elim)
  obtain ⟨F1, g1, _, _, back⟩ := hS.sel [0, 1]
  have g2 : Sts [.row TOp 4 v p.length (opsC p), tellC none []] F1 w := g1
  have hw := walk_any g2 hc
  have HW := hid hw
  simp only [tellV] at hw
  have HW := hid hw
  clear h hS g1 g2 hw
  go_enter Tryz.func161, Tryz.ntmps161
  go_wp2_with fail
  refine HW.out.mono ?_; rintro e w1 ⟨rfl, hS⟩
  have hS := back hS
  simp only [Kw.red] at hS
  have HS := hid (hS.sub [0])
  clear hS back HW
  go_wp2_with fail
  go_ret2
  exact ⟨rfl, HS.out⟩
end
end Go.Proofs.YtnkjjhenfhnajaaGreatDoor

/-
  Package code, walked: Steps.
-/
namespace Go.Proofs.YtnkjjhenfhnajaaGreatDoor
open Go.RowKit Go.Kw Go.Kreg Go.Cm

theorem playAll_ne (p : List Cm.Op) : (playAll p).2 ≠ .go := by
  show (thn (playS p []) (Cm.step Cm.finish)).2 ≠ .go
  generalize playS p [] = r
  obtain ⟨o, s⟩ := r
  cases s with
  | go =>
    rw [thn_go]
    by_cases hl : o.length = 4096
    · rw [step_full hl]; simp
    · rw [step_last hl rfl]; simp
  | done => rw [thn_no _ (by decide)]; simp
  | long => rw [thn_no _ (by decide)]; simp

section
variable {w : World} {F : Nat → Prop} {v : Value} {p : List Cm.Op}
set_option maxRecDepth 100000 in
set_option maxHeartbeats 1000000 in
theorem steps_any (h : Sts [.row TOp 4 v p.length (opsC p)] F w) (hc : (check p).2 = 0) (r : List Cm.Op × Stt) (hr : playAll p = r) :
    Calls Tryz.prog 139 #[v] w fun e w' => ∃ lv, e = .returned (.tuple #[lv, .int .i64 (walkR r).2]) ∧ St F w [.row TOp 4 v p.length (opsC p), if r.2 = .long then .pr (lv = .slice none 0 0) else .row TOp 4 lv r.1.length (opsC r.1)] w' := by
  have hn := count_any h hc
  rw [hr] at hn
  have HN := hid hn
  have HR := hid hr
  clear h hn hr
  go_enter Tryz.func139, Tryz.ntmps139
  go_wp2_with fail
  refine HN.out.mono ?_; rintro e w1 ⟨rfl, hS⟩
  have HS := hid hS
  clear hS HN
  obtain ⟨o, s⟩ := r
  cases s with
  | long =>
    simp only [walkR]
    go_wp2_with fail
    go_ret2
    exact ⟨.slice none 0 0, rfl, HS.out.add (Keeps.refl (fun _ => False) w1) (G := fun _ => False) (c := .pr (Value.slice none 0 0 = .slice none 0 0)) ⟨rfl, fun _ => id⟩ (fun _ h => h.elim)⟩
  | done =>
    simp only [walkR]
    have hol : o.length ≤ 4096 := by
      have := thn_len (playS_len p [] (by simp)) (f := Cm.step Cm.finish) fun o h => step_len h
      rw [show thn (playS p []) (Cm.step Cm.finish) = (o, .done) from HR.out] at this
      exact this
    go_wp2_with (at_make; refine wpList_mk _ _ TOps TOp (.agg #[.int .i64 0, .int .i64 0, .int .i64 0, .int .i64 0]) 4 32 infoOp Tryz.underlying133 rfl rfl .i64 .i64 _ o.length rfl rfl rfl (by omega) (by unfold maxLen; omega) ?_; intro w2 hown hk)
    have hSE := HS.out.add hk (G := fun b => (Value.slice (some ⟨w1.heap.size, 0, none⟩) 0 o.length).ownBlock = some b) (c := .row TOp 4 (.slice (some ⟨w1.heap.size, 0, none⟩) 0 o.length) 0 []) ⟨hown, fun _ => Iff.rfl⟩ (fun b hb => by simp only [Value.ownBlock, Option.some.injEq] at hb; omega)
    have hSF := hSE.new TOps [.slice (some ⟨w1.heap.size, 0, none⟩) 0 o.length]
    have hSG := (hSF.fold [2, 1] (tellC (some w2.heap.size) []) (fun F h => ⟨.slice (some ⟨w1.heap.size, 0, none⟩) 0 o.length, h⟩)).sub [0, 2]
    obtain ⟨F1, g1, _, _, back⟩ := hSG.sel [0, 1]
    have g2 : Sts [.row TOp 4 v p.length (opsC p), tellC (some w2.heap.size) []] F1 _ := g1
    refine (walk_any g2 hc).mono ?_; rintro e w3 ⟨rfl, hS⟩
    have hS := back hS
    simp only [Kw.red] at hS
    rw [HR.out] at hS
    obtain ⟨lv, hS⟩ := hS.opens 1 (fun lv => [.pt w2.heap.size TOps [lv], .row TOp 4 lv o.length (opsC o)]) (fun F h => h)
    have c0 := (hS.blk 2).cell 0
    have cz := (hS.blk 2).fz
    simp only [List.getElem?_cons_zero] at c0
    have HS3 := hid (show St F w [.row TOp 4 v p.length (opsC p), .row TOp 4 lv o.length (opsC o)] w3 from hS.sub [0, 3])
    clear hS back hSE hSF hSG g1 g2 HS hown hk
    go_wp2_with fail
    go_ret2
    refine ⟨lv, rfl, ?_⟩
    exact HS3.out
  | go => exact absurd (congrArg Prod.snd HR.out) (playAll_ne p)
end
end Go.Proofs.YtnkjjhenfhnajaaGreatDoor
