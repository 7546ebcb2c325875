/-
  respond.Worst and Demand, walked over what loadOf tells.
-/
import Derived.Test.YtnkjjhenfhnajaaDoorG29
namespace Go.Proofs.YtnkjjhenfhnajaaDoor
open Go.RowKit Go.Kw Go.Kreg Go.Tm Go.Ad
set_option linter.unusedSimpArgs false
set_option linter.unusedVariables false

/-- What loadOf tells. -/
def LoadTold (p : Nat) (id : Int) (m : TM) (w : World) : Prop := Calls Tryd.prog 16 #[.pointer (some ⟨p, 0, none⟩), .int .i64 id] w fun e w' => Keeps (fun _ => False) w w' ∧
  ((∃ (l : Load) (a : Option Addr) (c : Nat), loadM m id = (some l, 0) ∧ e = .returned (.tuple #[.agg #[.int .i64 l.own, .int .i64 l.gap, .slice a l.others.length c], .int .i64 0]) ∧ RdS w' (.slice a l.others.length c) l.others.length 2 (partsC l.others)) ∨
   (∃ k : Int, k ≠ 0 ∧ loadM m id = (none, k) ∧ e = .returned (.tuple #[.agg #[.int .i64 0, .int .i64 0, .slice none 0 0], .int .i64 k])))
theorem term_le {m : TM} (hm : m.Ok) (id : Int) : term m id ≤ 4096 := by
  unfold term
  split
  · refine gmax_le (by omega) fun p hp _ => ?_
    obtain ⟨j, s⟩ := p
    obtain ⟨t, h1, h2, h3⟩ := lows_mem.1 hp
    obtain ⟨a, b⟩ := lenP_bd hm h1 h3
    show s.len ≤ 4096
    unfold Sec.len; omega
  · omega
theorem cost_le (ts : List Task) (id : Int) : cost ts id ≤ 4096 := by
  unfold cost
  split
  · omega
  · split
    · rename_i t _
      have := Cm.prog_le t.code.data.toList
      exact Int.ofNat_le.2 this
    · omega
section
variable {w : World} {p : Nat} {m : TM}
set_option maxRecDepth 100000 in
set_option maxHeartbeats 4000000 in
theorem worst_core (hm : m.Ok) {id : Int} (hL : LoadTold p id m w) : Calls Tryd.prog 8 #[.pointer (some ⟨p, 0, none⟩), .int .i64 id] w fun e w' => e = .returned (.tuple #[.int .i64 (worst m id).1, .int .i64 (worst m id).2]) ∧ Keeps (fun _ => False) w w' := by
  obtain ⟨⟨W1, W2⟩, hW⟩ : ∃ W, worst m id = W := ⟨_, rfl⟩
  rw [hW]
  simp only
  have HW := hid hW
  have HL := hid hL
  have Hm := hid hm
  unfold LoadTold at HL
  clear hW hL hm
  go_enter Tryd.func8, Tryd.ntmps8
  go_wp2_with fail
  go_step3
  go_wp2_with fail
  refine HL.out.mono ?_; rintro e w1 ⟨k1, ⟨l, a, c, hl, rfl, hr⟩ | ⟨k, hk, hl, rfl⟩⟩
  · have hlo := (load_of Hm.out hl).1
    have hw := HW.out
    unfold worst at hw
    rw [hl] at hw
    simp only at hw
    have ht := term_le Hm.out id
    have hc := cost_le m.ts id
    have h2 := hlo.ok.own
    have h4 : l.own ≤ 8192 := by have := hlo.own; omega
    have h3 := hlo.top
    have Hlo := hid hlo
    have Hw := hid hw
    have HS := hid (((St.start w).step k1).new TLo [.int .i64 l.own, .int .i64 l.gap, .slice a l.others.length c])
    have HR := hid (hr.new ((Keeps.refl (fun _ => False) w1).alloc (.cells #[.int .i64 l.own, .int .i64 l.gap, .slice a l.others.length c] TLo)))
    clear hl hlo hw hr k1 HL HW
    go_wp2_with fail
    go_step3
    go_wp2_with fail
    generalize w1.heap.size = lb at *
    generalize w1.alloc (.cells #[.int .i64 l.own, .int .i64 l.gap, .slice a l.others.length c] TLo) = w2 at *
    go_loopw [8] (fun y wr => ∃ r : Int, y = .int .i64 r ∧ Hid (Leads l r) ∧ Keeps (fun _ => False) w2 wr) (fun y _ => (l.gap + 1 - intOf y).toNat)
    case atStart => exact ⟨1, rfl, hid (leads_one Hlo.out.ok), Keeps.refl _ _⟩
    case round =>
      obtain ⟨r, rfl, Hle, hK⟩ := hrel
      have hb := (HS.out.blk 0)
      have d0 := cellIn hK (hb.cell 0)
      have d1 := cellIn hK (hb.cell 1)
      have d2 := cellIn hK (hb.cell 2)
      have KR := hid hK
      have hr1 := Hle.out.1.one
      clear hb hK
      by_cases hg : r ≤ l.gap
      · have a1 : decide (r ≤ l.gap) = true := by simpa using hg
        have HD := hid (demand_any (ticks := r) hr1 (by omega) (by omega) Hlo.out.few Hlo.out.parts (HR.out.new KR.out))
        obtain ⟨N, hN⟩ : ∃ N, l.demand r = N := ⟨_, rfl⟩
        rw [hN] at HD
        by_cases hn : N ≤ r
        · have a2 : decide (N ≤ r) = true := by simpa using hn
          have hst := Hle.out.stop hg (by rw [hN]; exact hn)
          have hw := Hw.out
          rw [hst, if_neg (by omega)] at hw
          cases hw
          have a3 : decide (l.gap < W1) = false := decide_eq_false (by omega)
          clear hn hN hg hst
          go_wp2_with fail
          refine HD.out.mono ?_; rintro e w3 ⟨rfl, k3⟩
          have d1 := cellIn k3 d1
          have K3 := hid (KR.out.trans k3)
          clear k3 HD d0 d2
          go_wp2_with fail
          first | (rw [Exit.noGoto_ret]; go_ret2) | go_ret2
          exact ⟨rfl, HS.out.keeps.trans K3.out⟩
        · have a2 : decide (N ≤ r) = false := by simpa using hn
          have hst := Hle.out.step Hlo.out.ok hg (by rw [hN]; exact hn)
          rw [hN] at hst
          have Hst := hid hst
          clear hN hst
          go_wp2_with fail
          refine HD.out.mono ?_; rintro e w3 ⟨rfl, k3⟩
          have K3 := hid (KR.out.trans k3)
          clear k3 HD d0 d1 d2
          go_wp2_with fail
          go_roundw
          case rel => exact ⟨N, rfl, Hst, K3.out⟩
          case measure => simp [intOf]; omega
      · have a1 : decide (r ≤ l.gap) = false := by simpa using hg
        have hst := Hle.out.over hg
        have hw := Hw.out
        rw [hst, if_pos (by omega)] at hw
        cases hw
        have a3 : decide (l.gap < r) = true := decide_eq_true (by omega)
        clear hst
        go_wp2_with fail
        first | (rw [Exit.noGoto_ret]; go_ret2) | go_ret2
        exact ⟨rfl, HS.out.keeps.trans KR.out⟩
  · have hw := HW.out
    unfold worst at hw
    rw [hl] at hw
    cases hw
    have b0 : (W2 != 0) = true := by simpa using hk
    have K1 := hid (k1.alloc (.cells #[.int .i64 0, .int .i64 0, .slice none 0 0] TLo))
    clear hk hl k1 HL HW
    go_wp2_with fail
    first | (rw [Exit.noGoto_ret]; go_ret2) | go_ret2
    exact ⟨rfl, K1.out⟩
end
end Go.Proofs.YtnkjjhenfhnajaaDoor
