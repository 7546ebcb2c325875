/-
  TasksBound, walked.
-/
import Derived.Test.YtkaecdkmalppcaaDoorTa
import Derived.Test.YtkaecdkmalppcaaDoorTh
import Derived.Test.YtkaecdkmalppcaaDoorTe
namespace Go.Proofs.YtkaecdkmalppcaaDoor
open Go.RowKit Go.Kw Go.Kreg Go.Tm

theorem TM.add_words (m : TM) (x : Task) : (m.add x).2.2.words = m.words ∧ (m.add x).2.2.units = m.units := by
  unfold TM.add; split <;> exact ⟨rfl, rfl⟩
theorem new_ok {w w1 : World} {F0 : Nat → Prop} {w0 : World} {words : Int} {us : List Int} (h : begins words us = 0) {cs : List Ch} (hS : St F0 w0 cs w) {e : Ending}
    (hn : (begins words us ≠ 0 ∧ e = .returned (.tuple #[.pointer none, .int .i64 (begins words us)]) ∧ Keeps (fun _ => False) w w1) ∨ (begins words us = 0 ∧ ∃ p, e = .returned (.tuple #[.pointer (some ⟨p, 0, none⟩), .int .i64 0]) ∧ St (fun _ => False) w [tabC p ⟨words, us, []⟩] w1)) :
    ∃ p, e = .returned (.tuple #[.pointer (some ⟨p, 0, none⟩), .int .i64 0]) ∧ St F0 w0 (cs ++ [tabC p ⟨words, us, []⟩]) w1 := by
  rcases hn with ⟨h0, _⟩ | ⟨_, p, he, hS1⟩
  · exact absurd h h0
  · exact ⟨p, he, hS.adds hS1⟩
theorem SlTk.one {w : World} {ao : Option Addr} {c : Nat} {l : List Task} (h : SlTk w (.slice ao l.length c) l) {k : Nat} {x : Task} (hx : l[k]? = some x) : ∃ b o na nc, ao = some ⟨b, o, none⟩ ∧ TkAt w b (o + k * 8) (.slice na x.needs.length nc) x ∧ SlNd w (.slice na x.needs.length nc) x.needs ∧ big x.level ∧ big x.frame ∧ big x.period ∧ big x.first ∧ big x.gap := by
  obtain ⟨ao', c', e, _, _, _, hh⟩ := h
  cases e
  obtain ⟨b, o, nd, e2, h1, h2, h3⟩ := hh k x hx
  obtain ⟨na, nc, rfl, _⟩ := id h2
  exact ⟨b, o, na, nc, e2, h1, h2, h3⟩

section
variable {W w : World} {F : Nat → Prop}
set_option maxRecDepth 100000 in
set_option maxHeartbeats 8000000 in
theorem bound_law (hG : Glob W) (hg : (glC W).holds F w) (n : Int) (hn : -9223372036854775808 ≤ n ∧ n ≤ 9223372036854775807) {v : Value} {l : List Task} (hv : SlTk w v l) :
    Calls Tryd.prog 5 #[.int .i64 n, v] w fun e w' => e = .returned (.bool true) ∧ Keeps (fun _ => False) w w' := by
  have hwb := within_bd n 0 9000 (by omega)
  have hwi := within_any w n 0 9000 (by omega) (by omega) (by omega) hn.1 hn.2
  have hfw := few_any hv 70 (by omega)
  have hlen : (l.take 70).length ≤ 70 := by rw [List.length_take]; omega
  generalize within n 0 9000 = N at *
  generalize l.take 70 = l' at *
  have hb0 : begins N [3, 2, 1] = 0 := by unfold begins; rw [if_neg (by omega), if_neg (by simp), if_pos (by decide)]
  have HSg := hid (St.of (Sts.one hg))
  have Hg := hid hg
  have HB0 := hid hb0
  clear hg hv hn hb0
  go_enter Tryd.func5, Tryd.ntmps5
  go_wp2_with fail
  refine hwi.mono ?_; rintro e w1 ⟨rfl, rfl⟩
  go_wp2_with fail
  refine hfw.mono ?_; rintro e w1 ⟨⟨v', rfl, hv⟩, rfl⟩
  obtain ⟨ao, c, rfl, hl1, hl2, hl3, -⟩ := id hv
  have HV := hid hv
  clear hv hwi hfw
  go_wp2_with fail
  refine (new_any (SlIn.blk (b := w.heap.size) (l := [3, 2, 1]) (Blk.new w TI' [.int .i64 3, .int .i64 2, .int .i64 1]) (by simp)) N).mono ?_; rintro e w1 hor
  obtain ⟨p, rfl, hS⟩ := new_ok HB0.out (HSg.out.step ((Keeps.refl (fun _ => False) w).alloc (.cells #[.int .i64 3, .int .i64 2, .int .i64 1] TI'))) hor
  have HS1 := hid hS
  clear hS hor HSg
  go_wp2_with fail
  go_loopw [8, 7] (fun x y wr => ∃ (k : Nat) (m : TM), k ≤ l'.length ∧ m.words = N ∧ x = .int .i64 k ∧ y = .int .i64 (bound m.ts) ∧ St F w [glC W, tabC p m] wr) (fun x _ _ => l'.length - (intOf x).toNat)
  case atStart => exact ⟨0, ⟨N, [3, 2, 1], []⟩, Nat.zero_le _, rfl, rfl, rfl, HS1.out⟩
  case round =>
    clear HS1
    obtain ⟨k, m, hk, hmw, rfl, rfl, hS⟩ := hrel
    by_cases hlt : k < l'.length
    · have hx := List.getElem?_eq_getElem hlt
      have hkp := (glob_keeps Hg.out hS).1
      obtain ⟨b, o, na, nc, rfl, ⟨d0, d1, d2, d3, d4, d5, d6, d7⟩, hnd, hl, hf, -, -, -⟩ := (HV.out.new hkp).one hx
      generalize l'[k] = x at *
      have b1 : decide (k < l'.length) = true := by simpa using hlt
      have i0 : (0 : Int) ≤ (k : Int) := by omega
      have i1 : (k : Int) < (l'.length : Int) := by omega
      obtain ⟨y, hy⟩ := tab_at 1 hS
      have hbd := bound_bd hy.tok.ok.fit
      have hmok := hy.tok.ok
      have HSr := hid hS
      have Hnd := hid hnd
      have Hmok := hid hmok
      have Hmw := hid hmw
      have hx1 := (Keeps.refl (fun _ => False) wr).alloc (.cells #[.string x.name, .int .i64 x.level, .int .i64 x.frame, .slice na x.needs.length nc, .string x.code, .int .i64 x.period, .int .i64 x.first, .int .i64 x.gap] TTk)
      have Hy := hid hy
      clear hx hkp hS hnd hmok hmw hy
      generalize hB : bound m.ts = B at *
      have HB := hid hB
      clear hB
      by_cases hcode : 5000 < x.code.size
      · have b2 : decide ((5000 : Int) < (x.code.size : Int)) = true := by simp; omega
        go_wp2_with fail
        exact ⟨⟨k + 1, m, by omega, Hmw.out, by go_num, by rw [HB.out], HSr.out.step hx1⟩, by simp [intOf]; omega⟩
      · have b2 : decide ((5000 : Int) < (x.code.size : Int)) = false := by simp; omega
        have Hx1 := hid hx1
        have hB1 := Blk.new wr TTk [.string x.name, .int .i64 x.level, .int .i64 x.frame, .slice na x.needs.length nc, .string x.code, .int .i64 x.period, .int .i64 x.first, .int .i64 x.gap]
        have HB1 := hid hB1
        have hwt := with_any (Hy.out.keeps Hx1.out) x.level x.frame hf
        have hwbd := withOne_bd Hmok.out.fit x.level x.frame
        have hla := largest_bd Hmok.out.fit x.level
        have hlg := fun (w1 : World) (k : Keeps (fun _ => False) wr w1) => largest_any (Hy.out.keeps k) x.level
        have Hck : Hid (m.check x = 25 → N < withOne m.ts x.level x.frame ∧ largest m.ts x.level < x.frame) := hid fun h => by rw [← Hmw.out]; exact ⟨(check_stack h).1, check_frame Hmok.out h⟩
        have Hck0 : Hid (m.check x = 0 → withOne m.ts x.level x.frame ≤ N) := hid fun h => by rw [← Hmw.out]; exact (TM.check_fit h).2.2.2.2
        clear hx1 hB1
        generalize withOne m.ts x.level x.frame = WO at *
        generalize largest m.ts x.level = LG at *
        go_wp2_with fail
        refine hwt.mono ?_; rintro r w2 ⟨rfl, k2⟩
        have K2 := hid (Hx1.out.trans k2)
        obtain ⟨c0, c1, c2, c3, c4, c5, c6, c7, cz⟩ := cells8 (k2.blk HB1.out id)
        have HB2 := hid (k2.blk HB1.out id)
        have k2' := k2
        clear k2 hwt HB1 Hx1
        go_wp2_with fail
        refine (hlg _ K2.out).mono ?_; rintro r w3 ⟨rfl, k3⟩
        have K3 := hid (K2.out.trans k3)
        have HB3 := hid (k3.blk HB2.out id)
        clear c0 c1 c2 c3 c4 c5 c6 c7 cz
        obtain ⟨c0, c1, c2, c3, c4, c5, c6, c7, cz⟩ := cells8 HB3.out
        have HS3 := hid (((HSr.out.new TTk [.string x.name, .int .i64 x.level, .int .i64 x.frame, .slice na x.needs.length nc, .string x.code, .int .i64 x.period, .int .i64 x.first, .int .i64 x.gap]).step k2').step k3)
        have Hnd3 := hid (Hnd.out.new K3.out)
        clear k3 k2' hlg K2 HB2 HB3
        obtain ⟨E, hE⟩ : ∃ E, m.check x = E := ⟨_, rfl⟩
        have hwords := (TM.add_words m x).1
        have hcases : ∃ n1 e1 m1, m.add x = (n1, e1, m1) ∧ m1.words = N ∧ ((e1 = 0 ∧ WO ≤ N ∧ B ≤ bound m1.ts) ∨ (e1 = 25 ∧ N < WO ∧ LG < x.frame ∧ bound m1.ts = B) ∨ (e1 ≠ 0 ∧ e1 ≠ 25 ∧ bound m1.ts = B)) := by
          by_cases h0 : E = 0
          · subst h0
            rw [add_yes hE] at hwords
            refine ⟨_, _, _, add_yes hE, hwords.trans Hmw.out, .inl ⟨rfl, Hck0.out hE, ?_⟩⟩
            have h1 := (TM.check_fit hE).1.lev
            rw [← HB.out, bound_app h1]; omega
          · refine ⟨_, _, _, add_no hE h0, Hmw.out, .inr ?_⟩
            by_cases h25 : E = 25
            · subst h25
              obtain ⟨q1, q2⟩ := Hck.out hE
              exact .inl ⟨rfl, q1, q2, HB.out⟩
            · exact .inr ⟨h0, h25, HB.out⟩
        obtain ⟨n1, e1, m1, hadd, hm1, hcs⟩ := hcases
        have hA := add_st hG HS3.out x Hnd3.out hf hadd
        have HA := hid hA
        have Hcs := hid hcs
        have Hm1 := hid hm1
        unfold taskV at HA
        clear hE hwords hadd hcs hA hm1 Hck Hck0 HB Hnd Hmok
        go_wp2_with fail
        refine HA.out.mono ?_; rintro r w4 ⟨rfl, hS4⟩
        clear c0 c1 c2 c3 c4 c5 c6 c7 cz
        obtain ⟨c0, c1, c2, c3, c4, c5, c6, c7, cz⟩ := cells8 (hS4.blk 2)
        obtain ⟨y4, hy4⟩ := tab_at 1 hS4
        have hbd4 := bound_bd hy4.tok.ok.fit
        have hroom := hy4.tok.ok.room
        rw [Hm1.out] at hroom
        have Hsum := hid (bound_sum hy4.tok.ok.fit)
        have HS4 := hid hS4
        have Hy4 := hid hy4
        have K0 := hid (Keeps.refl (fun _ => False) w4)
        clear hS4 hy4 HA HS3 Hy Hnd3 K3
        generalize hB4 : bound m1.ts = B4 at *
        have HB4 := hid hB4
        clear hB4
        rcases Hcs.out with ⟨rfl, q1, q2⟩ | ⟨rfl, q1, q2, q3⟩ | ⟨q1, q2, q3⟩
        · have f1 : decide (WO ≤ N) = true := by simpa using q1
          have f2 : decide (B4 < B) = false := by simp; omega
          have f3 : decide (N < B4) = false := by simp; omega
          clear Hcs
          go_wp2_with fail
          have hc := bound_any (Hy4.out.keeps K0.out)
          rw [show bound m1.ts = B4 from HB4.out] at hc
          refine hc.mono ?_; rintro r w5 ⟨rfl, kk⟩
          have K5 := hid (K0.out.trans kk)
          clear hc kk K0
          go_wp2_with fail
          have hc := bound_any (Hy4.out.keeps K5.out)
          rw [show bound m1.ts = B4 from HB4.out] at hc
          refine hc.mono ?_; rintro r w6 ⟨rfl, kk⟩
          have K6 := hid (K5.out.trans kk)
          clear hc kk K5
          go_wp2_with fail
          have hc := bound_any (Hy4.out.keeps K6.out)
          rw [show bound m1.ts = B4 from HB4.out] at hc
          refine hc.mono ?_; rintro r w8 ⟨rfl, kk⟩
          have K8 := hid (K6.out.trans kk)
          clear hc kk K6
          go_wp2_with fail
          clear f1 f2 f3 q1 q2
          go_loopw [15, 14] (fun x y wr2 => ∃ j : Nat, j ≤ 32 ∧ x = .int .i64 ((j + 1 : Nat) : Int) ∧ y = .int .i64 (sumTo m1.ts j) ∧ Keeps (fun _ => False) w4 wr2) (fun x _ _ => 33 - (intOf x).toNat)
          case atStart => exact ⟨0, by omega, rfl, rfl, K8.out⟩
          case round =>
            obtain ⟨j, hj, rfl, rfl, hK⟩ := hrel
            have HK := hid hK
            have hfit := Hy4.out.tok.ok.fit
            have Hfit := hid hfit
            have hsb := sumTo_bd hfit j
            have hlb := largest_bd hfit ((j + 1 : Nat) : Int)
            have hfew := Hy4.out.few
            have hnext : sumTo m1.ts (j + 1) = sumTo m1.ts j + largest m1.ts ((j + 1 : Nat) : Int) := rfl
            have Hnext := hid hnext
            clear hK hfit hnext K8
            by_cases hj32 : j < 32
            · have g1 : decide ((((j + 1 : Nat) : Int)) ≤ 32) = true := by simp; omega
              generalize sumTo m1.ts j = SJ at *
              generalize hLv : ((j + 1 : Nat) : Int) = Lv at *
              have HLv := hid hLv
              have hlv1 : 1 ≤ Lv := by omega
              have hlv2 : Lv ≤ 32 := by omega
              clear hLv
              go_wp2_with fail
              go_loopw [17, 16] (fun x y wr3 => ∃ i : Nat, i ≤ m1.ts.length ∧ x = .int .i64 i ∧ y = .int .i64 (largest (m1.ts.take i) Lv) ∧ Keeps (fun _ => False) w4 wr3) (fun x _ _ => m1.ts.length - (intOf x).toNat)
              case atStart => exact ⟨0, Nat.zero_le _, rfl, rfl, HK.out⟩
              case round =>
                clear HK
                obtain ⟨i, hi, rfl, rfl, hK⟩ := hrel
                have HK := hid hK
                have hlen := tlen_any (Hy4.out.keeps hK)
                clear hK
                go_wp2_with fail
                refine hlen.mono ?_; rintro r w9 ⟨rfl, rfl⟩
                clear hlen
                by_cases hit : i < m1.ts.length
                · have g2 : decide (i < m1.ts.length) = true := by simpa using hit
                  have ht := List.getElem?_eq_getElem hit
                  have hget := get_in (Hy4.out.keeps HK.out) ht
                  have hstep := largest_take ht Lv
                  have hft := (Hfit.out _ (List.mem_of_getElem? ht)).frm
                  have hlb2 := largest_bd (ts := m1.ts.take i) (fun t ht => Hfit.out t (List.mem_of_mem_take ht)) Lv
                  generalize m1.ts[i] = tk at *
                  generalize largest (m1.ts.take i) Lv = LI at *
                  have Hstep := hid hstep
                  unfold taskV at hget
                  generalize tk.needs.length = tnl at *
                  clear ht hstep
                  go_wp2_with fail
                  refine hget.mono ?_; rintro r w10 ⟨gg, rfl, hSg⟩
                  have HK2 := hid (HK.out.trans hSg.keeps)
                  clear hget hSg HK
                  by_cases hlv : tk.level = Lv
                  · have g3 : (tk.level == Lv) = true := by simpa using hlv
                    by_cases hfr : LI < tk.frame
                    · have g4 : decide (LI < tk.frame) = true := by simpa using hfr
                      go_wp2_with fail
                      go_roundw
                      case rel => exact ⟨i + 1, by omega, by go_num, by rw [Hstep.out, if_pos hlv]; congr 1; omega, HK2.out.alloc _⟩
                      case measure => simp [intOf]; omega
                    · have g4 : decide (LI < tk.frame) = false := by simpa using hfr
                      go_wp2_with fail
                      go_roundw
                      case rel => exact ⟨i + 1, by omega, by go_num, by rw [Hstep.out, if_pos hlv]; congr 1; omega, HK2.out.alloc _⟩
                      case measure => simp [intOf]; omega
                  · have g3 : (tk.level == Lv) = false := by simpa using hlv
                    go_wp2_with fail
                    go_roundw
                    case rel => exact ⟨i + 1, by omega, by go_num, by rw [Hstep.out, if_neg hlv], HK2.out.alloc _⟩
                    case measure => simp [intOf]; omega
                · have g2 : decide (i < m1.ts.length) = false := by simpa using hit
                  have hlg := largest_any (Hy4.out.keeps HK.out) Lv
                  have heq : largest (m1.ts.take i) Lv = largest m1.ts Lv := by rw [List.take_of_length_le (by omega)]
                  rw [heq]
                  generalize largest m1.ts Lv = LL at *
                  clear heq
                  go_wp2_with fail
                  refine hlg.mono ?_; rintro r w10 ⟨rfl, kk⟩
                  have HK2 := hid (HK.out.trans kk)
                  clear hlg kk HK
                  go_wp2_with fail
                  go_roundw
                  case rel => exact ⟨j + 1, by omega, by rw [← HLv.out]; go_num, by rw [Hnext.out], HK2.out⟩
                  case measure => have := HLv.out; simp [intOf]; omega
            · have g1 : decide ((((j + 1 : Nat) : Int)) ≤ 32) = false := by simp; omega
              have hsum : sumTo m1.ts j = B4 := by rw [Hsum.out]; congr 1; omega
              rw [hsum]
              clear hsum
              go_wp2_with fail
              go_roundw
              case rel => exact ⟨k + 1, m1, by omega, Hm1.out, by go_num, congrArg (Value.int .i64) (by have := HB4.out; omega), (HS4.out.step HK.out).sub [0, 1]⟩
              case measure => simp [intOf]; omega
        · have f1 : decide (WO ≤ N) = false := by simp; omega
          have f4 : decide (x.frame ≤ LG) = false := by simp; omega
          have f2 : decide (B4 < B) = false := by simp; omega
          have f3 : decide (N < B4) = false := by simp; omega
          have f5 : (B4 != B) = false := by simp; omega
          clear Hcs
          go_wp2_with fail
          have hc := bound_any (Hy4.out.keeps K0.out)
          rw [show bound m1.ts = B4 from HB4.out] at hc
          refine hc.mono ?_; rintro r w5 ⟨rfl, kk⟩
          have K5 := hid (K0.out.trans kk)
          clear hc kk K0
          go_wp2_with fail
          have hc := bound_any (Hy4.out.keeps K5.out)
          rw [show bound m1.ts = B4 from HB4.out] at hc
          refine hc.mono ?_; rintro r w6 ⟨rfl, kk⟩
          have K6 := hid (K5.out.trans kk)
          clear hc kk K5
          go_wp2_with fail
          have hc := bound_any (Hy4.out.keeps K6.out)
          rw [show bound m1.ts = B4 from HB4.out] at hc
          refine hc.mono ?_; rintro r w7 ⟨rfl, kk⟩
          have K7 := hid (K6.out.trans kk)
          clear hc kk K6
          go_wp2_with fail
          have hc := bound_any (Hy4.out.keeps K7.out)
          rw [show bound m1.ts = B4 from HB4.out] at hc
          refine hc.mono ?_; rintro r w8 ⟨rfl, kk⟩
          have K8 := hid (K7.out.trans kk)
          clear hc kk K7
          go_wp2_with fail
          clear f1 f2 f3 q1 q2
          go_loopw [15, 14] (fun x y wr2 => ∃ j : Nat, j ≤ 32 ∧ x = .int .i64 ((j + 1 : Nat) : Int) ∧ y = .int .i64 (sumTo m1.ts j) ∧ Keeps (fun _ => False) w4 wr2) (fun x _ _ => 33 - (intOf x).toNat)
          case atStart => exact ⟨0, by omega, rfl, rfl, K8.out⟩
          case round =>
            obtain ⟨j, hj, rfl, rfl, hK⟩ := hrel
            have HK := hid hK
            have hfit := Hy4.out.tok.ok.fit
            have Hfit := hid hfit
            have hsb := sumTo_bd hfit j
            have hlb := largest_bd hfit ((j + 1 : Nat) : Int)
            have hfew := Hy4.out.few
            have hnext : sumTo m1.ts (j + 1) = sumTo m1.ts j + largest m1.ts ((j + 1 : Nat) : Int) := rfl
            have Hnext := hid hnext
            clear hK hfit hnext K8
            by_cases hj32 : j < 32
            · have g1 : decide ((((j + 1 : Nat) : Int)) ≤ 32) = true := by simp; omega
              generalize sumTo m1.ts j = SJ at *
              generalize hLv : ((j + 1 : Nat) : Int) = Lv at *
              have HLv := hid hLv
              have hlv1 : 1 ≤ Lv := by omega
              have hlv2 : Lv ≤ 32 := by omega
              clear hLv
              go_wp2_with fail
              go_loopw [17, 16] (fun x y wr3 => ∃ i : Nat, i ≤ m1.ts.length ∧ x = .int .i64 i ∧ y = .int .i64 (largest (m1.ts.take i) Lv) ∧ Keeps (fun _ => False) w4 wr3) (fun x _ _ => m1.ts.length - (intOf x).toNat)
              case atStart => exact ⟨0, Nat.zero_le _, rfl, rfl, HK.out⟩
              case round =>
                clear HK
                obtain ⟨i, hi, rfl, rfl, hK⟩ := hrel
                have HK := hid hK
                have hlen := tlen_any (Hy4.out.keeps hK)
                clear hK
                go_wp2_with fail
                refine hlen.mono ?_; rintro r w9 ⟨rfl, rfl⟩
                clear hlen
                by_cases hit : i < m1.ts.length
                · have g2 : decide (i < m1.ts.length) = true := by simpa using hit
                  have ht := List.getElem?_eq_getElem hit
                  have hget := get_in (Hy4.out.keeps HK.out) ht
                  have hstep := largest_take ht Lv
                  have hft := (Hfit.out _ (List.mem_of_getElem? ht)).frm
                  have hlb2 := largest_bd (ts := m1.ts.take i) (fun t ht => Hfit.out t (List.mem_of_mem_take ht)) Lv
                  generalize m1.ts[i] = tk at *
                  generalize largest (m1.ts.take i) Lv = LI at *
                  have Hstep := hid hstep
                  unfold taskV at hget
                  generalize tk.needs.length = tnl at *
                  clear ht hstep
                  go_wp2_with fail
                  refine hget.mono ?_; rintro r w10 ⟨gg, rfl, hSg⟩
                  have HK2 := hid (HK.out.trans hSg.keeps)
                  clear hget hSg HK
                  by_cases hlv : tk.level = Lv
                  · have g3 : (tk.level == Lv) = true := by simpa using hlv
                    by_cases hfr : LI < tk.frame
                    · have g4 : decide (LI < tk.frame) = true := by simpa using hfr
                      go_wp2_with fail
                      go_roundw
                      case rel => exact ⟨i + 1, by omega, by go_num, by rw [Hstep.out, if_pos hlv]; congr 1; omega, HK2.out.alloc _⟩
                      case measure => simp [intOf]; omega
                    · have g4 : decide (LI < tk.frame) = false := by simpa using hfr
                      go_wp2_with fail
                      go_roundw
                      case rel => exact ⟨i + 1, by omega, by go_num, by rw [Hstep.out, if_pos hlv]; congr 1; omega, HK2.out.alloc _⟩
                      case measure => simp [intOf]; omega
                  · have g3 : (tk.level == Lv) = false := by simpa using hlv
                    go_wp2_with fail
                    go_roundw
                    case rel => exact ⟨i + 1, by omega, by go_num, by rw [Hstep.out, if_neg hlv], HK2.out.alloc _⟩
                    case measure => simp [intOf]; omega
                · have g2 : decide (i < m1.ts.length) = false := by simpa using hit
                  have hlg := largest_any (Hy4.out.keeps HK.out) Lv
                  have heq : largest (m1.ts.take i) Lv = largest m1.ts Lv := by rw [List.take_of_length_le (by omega)]
                  rw [heq]
                  generalize largest m1.ts Lv = LL at *
                  clear heq
                  go_wp2_with fail
                  refine hlg.mono ?_; rintro r w10 ⟨rfl, kk⟩
                  have HK2 := hid (HK.out.trans kk)
                  clear hlg kk HK
                  go_wp2_with fail
                  go_roundw
                  case rel => exact ⟨j + 1, by omega, by rw [← HLv.out]; go_num, by rw [Hnext.out], HK2.out⟩
                  case measure => have := HLv.out; simp [intOf]; omega
            · have g1 : decide ((((j + 1 : Nat) : Int)) ≤ 32) = false := by simp; omega
              have hsum : sumTo m1.ts j = B4 := by rw [Hsum.out]; congr 1; omega
              rw [hsum]
              clear hsum
              go_wp2_with fail
              go_roundw
              case rel => exact ⟨k + 1, m1, by omega, Hm1.out, by go_num, congrArg (Value.int .i64) (by have := HB4.out; omega), (HS4.out.step HK.out).sub [0, 1]⟩
              case measure => simp [intOf]; omega
        · have f0 : (e1 == 0) = false := by simpa using q1
          have f1 : (e1 == 25) = false := by simpa using q2
          have f6 : (e1 != 0) = true := by simpa using q1
          have f2 : decide (B4 < B) = false := by simp; omega
          have f3 : decide (N < B4) = false := by simp; omega
          have f5 : (B4 != B) = false := by simp; omega
          clear Hcs
          go_wp2_with fail
          have hc := bound_any (Hy4.out.keeps K0.out)
          rw [show bound m1.ts = B4 from HB4.out] at hc
          refine hc.mono ?_; rintro r w5 ⟨rfl, kk⟩
          have K5 := hid (K0.out.trans kk)
          clear hc kk K0
          go_wp2_with fail
          have hc := bound_any (Hy4.out.keeps K5.out)
          rw [show bound m1.ts = B4 from HB4.out] at hc
          refine hc.mono ?_; rintro r w6 ⟨rfl, kk⟩
          have K6 := hid (K5.out.trans kk)
          clear hc kk K5
          go_wp2_with fail
          have hc := bound_any (Hy4.out.keeps K6.out)
          rw [show bound m1.ts = B4 from HB4.out] at hc
          refine hc.mono ?_; rintro r w7 ⟨rfl, kk⟩
          have K7 := hid (K6.out.trans kk)
          clear hc kk K6
          go_wp2_with fail
          have hc := bound_any (Hy4.out.keeps K7.out)
          rw [show bound m1.ts = B4 from HB4.out] at hc
          refine hc.mono ?_; rintro r w8 ⟨rfl, kk⟩
          have K8 := hid (K7.out.trans kk)
          clear hc kk K7
          go_wp2_with fail
          clear f1 f2 f3 q1 q2
          go_loopw [15, 14] (fun x y wr2 => ∃ j : Nat, j ≤ 32 ∧ x = .int .i64 ((j + 1 : Nat) : Int) ∧ y = .int .i64 (sumTo m1.ts j) ∧ Keeps (fun _ => False) w4 wr2) (fun x _ _ => 33 - (intOf x).toNat)
          case atStart => exact ⟨0, by omega, rfl, rfl, K8.out⟩
          case round =>
            obtain ⟨j, hj, rfl, rfl, hK⟩ := hrel
            have HK := hid hK
            have hfit := Hy4.out.tok.ok.fit
            have Hfit := hid hfit
            have hsb := sumTo_bd hfit j
            have hlb := largest_bd hfit ((j + 1 : Nat) : Int)
            have hfew := Hy4.out.few
            have hnext : sumTo m1.ts (j + 1) = sumTo m1.ts j + largest m1.ts ((j + 1 : Nat) : Int) := rfl
            have Hnext := hid hnext
            clear hK hfit hnext K8
            by_cases hj32 : j < 32
            · have g1 : decide ((((j + 1 : Nat) : Int)) ≤ 32) = true := by simp; omega
              generalize sumTo m1.ts j = SJ at *
              generalize hLv : ((j + 1 : Nat) : Int) = Lv at *
              have HLv := hid hLv
              have hlv1 : 1 ≤ Lv := by omega
              have hlv2 : Lv ≤ 32 := by omega
              clear hLv
              go_wp2_with fail
              go_loopw [17, 16] (fun x y wr3 => ∃ i : Nat, i ≤ m1.ts.length ∧ x = .int .i64 i ∧ y = .int .i64 (largest (m1.ts.take i) Lv) ∧ Keeps (fun _ => False) w4 wr3) (fun x _ _ => m1.ts.length - (intOf x).toNat)
              case atStart => exact ⟨0, Nat.zero_le _, rfl, rfl, HK.out⟩
              case round =>
                clear HK
                obtain ⟨i, hi, rfl, rfl, hK⟩ := hrel
                have HK := hid hK
                have hlen := tlen_any (Hy4.out.keeps hK)
                clear hK
                go_wp2_with fail
                refine hlen.mono ?_; rintro r w9 ⟨rfl, rfl⟩
                clear hlen
                by_cases hit : i < m1.ts.length
                · have g2 : decide (i < m1.ts.length) = true := by simpa using hit
                  have ht := List.getElem?_eq_getElem hit
                  have hget := get_in (Hy4.out.keeps HK.out) ht
                  have hstep := largest_take ht Lv
                  have hft := (Hfit.out _ (List.mem_of_getElem? ht)).frm
                  have hlb2 := largest_bd (ts := m1.ts.take i) (fun t ht => Hfit.out t (List.mem_of_mem_take ht)) Lv
                  generalize m1.ts[i] = tk at *
                  generalize largest (m1.ts.take i) Lv = LI at *
                  have Hstep := hid hstep
                  unfold taskV at hget
                  generalize tk.needs.length = tnl at *
                  clear ht hstep
                  go_wp2_with fail
                  refine hget.mono ?_; rintro r w10 ⟨gg, rfl, hSg⟩
                  have HK2 := hid (HK.out.trans hSg.keeps)
                  clear hget hSg HK
                  by_cases hlv : tk.level = Lv
                  · have g3 : (tk.level == Lv) = true := by simpa using hlv
                    by_cases hfr : LI < tk.frame
                    · have g4 : decide (LI < tk.frame) = true := by simpa using hfr
                      go_wp2_with fail
                      go_roundw
                      case rel => exact ⟨i + 1, by omega, by go_num, by rw [Hstep.out, if_pos hlv]; congr 1; omega, HK2.out.alloc _⟩
                      case measure => simp [intOf]; omega
                    · have g4 : decide (LI < tk.frame) = false := by simpa using hfr
                      go_wp2_with fail
                      go_roundw
                      case rel => exact ⟨i + 1, by omega, by go_num, by rw [Hstep.out, if_pos hlv]; congr 1; omega, HK2.out.alloc _⟩
                      case measure => simp [intOf]; omega
                  · have g3 : (tk.level == Lv) = false := by simpa using hlv
                    go_wp2_with fail
                    go_roundw
                    case rel => exact ⟨i + 1, by omega, by go_num, by rw [Hstep.out, if_neg hlv], HK2.out.alloc _⟩
                    case measure => simp [intOf]; omega
                · have g2 : decide (i < m1.ts.length) = false := by simpa using hit
                  have hlg := largest_any (Hy4.out.keeps HK.out) Lv
                  have heq : largest (m1.ts.take i) Lv = largest m1.ts Lv := by rw [List.take_of_length_le (by omega)]
                  rw [heq]
                  generalize largest m1.ts Lv = LL at *
                  clear heq
                  go_wp2_with fail
                  refine hlg.mono ?_; rintro r w10 ⟨rfl, kk⟩
                  have HK2 := hid (HK.out.trans kk)
                  clear hlg kk HK
                  go_wp2_with fail
                  go_roundw
                  case rel => exact ⟨j + 1, by omega, by rw [← HLv.out]; go_num, by rw [Hnext.out], HK2.out⟩
                  case measure => have := HLv.out; simp [intOf]; omega
            · have g1 : decide ((((j + 1 : Nat) : Int)) ≤ 32) = false := by simp; omega
              have hsum : sumTo m1.ts j = B4 := by rw [Hsum.out]; congr 1; omega
              rw [hsum]
              clear hsum
              go_wp2_with fail
              go_roundw
              case rel => exact ⟨k + 1, m1, by omega, Hm1.out, by go_num, congrArg (Value.int .i64) (by have := HB4.out; omega), (HS4.out.step HK.out).sub [0, 1]⟩
              case measure => simp [intOf]; omega
    · have b1 : decide (k < l'.length) = false := by simpa using hlt
      have hS2 := hS
      clear hS
      go_wp2_with fail
      refine (runs_any hG (W := W) (F := _) (hS2.at 0 rfl).choose_spec.1).mono ?_; rintro r w2 ⟨rfl, k2⟩
      go_wp2_with fail
      go_ret
      exact ⟨rfl, ((glob_keeps Hg.out hS2).1).trans k2⟩
end
end Go.Proofs.YtkaecdkmalppcaaDoor
