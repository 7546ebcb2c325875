/-
  Package tasks, walked: the steps of a text.
-/
import Derived.Test.YtkaecdkmalppcaaDoorCq
import Derived.Test.YtkaecdkmalppcaaDoorCr
import Derived.Test.YtkaecdkmalppcaaDoorCl
import Derived.Test.YtkaecdkmalppcaaDoorTi
namespace Go.Proofs.YtkaecdkmalppcaaDoor
open Go.RowKit Go.Kw Go.Kreg

section
variable {W w : World} {F : Nat → Prop}
set_option maxRecDepth 100000 in
set_option maxHeartbeats 1000000 in
theorem prog_any (hG : Glob W) (h : Sts [glC W] F w) (s : ByteArray) (R : List Cm.Op × Int) (hR : Cm.program s.data.toList = R) :
    Calls Tryd.prog 27 #[.string s] w fun e w' => ∃ lv, e = .returned (.tuple #[lv, .int .i64 R.2]) ∧ ((R.2 ≠ 0 ∧ St F w [glC W] w') ∨ (R.2 = 0 ∧ St F w [glC W, .row TOp 4 lv R.1.length (opsC R.1)] w')) := by
  have hp := parse_any hG h (s := s)
  obtain ⟨R1, R2⟩ := R
  have HR := hid hR
  have HP := hid hp
  clear hp hR
  go_enter Tryd.func27, Tryd.ntmps27
  go_wp2_with fail
  refine HP.out.mono ?_; rintro e w1 (⟨at_, e1, rfl, Hx, hS⟩ | ⟨ops, ov, rfl, Hx, hS⟩)
  · have hx := Hx.out
    obtain rfl : R2 = e1 := by have := HR.out; unfold Cm.program at this; rw [hx.1] at this; exact (Prod.mk.inj this).2.symm
    have hne := hx.2
    have HS := hid hS
    have hn0 : R2 ≠ 0 := by simpa using hx.2
    clear hx Hx HP HR hS
    go_wp2_with fail
    go_ret2
    exact ⟨_, rfl, .inl ⟨hn0, HS.out⟩⟩
  · have hx := Hx.out
    have hch := Cm.parse_checks hx.1
    have hpr := Cm.program_ok hx.1
    rw [HR.out] at hpr
    obtain ⟨F1, g1, _, _, back⟩ := hS.sel [1]
    have g2 : Sts [.row TOp 4 ov ops.length (opsC ops)] F1 w1 := g1
    obtain ⟨r, hr⟩ : ∃ r, Cm.playAll ops = r := ⟨_, rfl⟩
    have hst := steps_any g2 hch r hr
    have hne := playAll_ne ops
    rw [hr] at hpr hne
    have Hpr := hid hpr
    have Hne := hid hne
    have Hst := hid hst
    clear hx Hx hch hpr hS g1 g2 hr hst hne HP HR
    go_wp2_with fail
    refine Hst.out.mono ?_; rintro e w2 ⟨lv, rfl, hS2⟩
    have hS2 := back hS2
    simp only [Kw.red] at hS2
    obtain ⟨o, s⟩ := r
    have hpr := Hpr.out
    cases s with
    | go => exact absurd rfl Hne.out
    | long =>
      obtain ⟨rfl, rfl⟩ := Prod.mk.inj hpr
      simp only [walkR]
      have HS := hid (hS2.sub [0])
      clear hS2 back Hst Hpr Hne hpr
      go_wp2_with fail
      go_ret2
      first | exact ⟨lv, rfl, HS.out⟩ | exact ⟨⟨lv, rfl⟩, HS.out⟩
    | done =>
      obtain ⟨rfl, rfl⟩ := Prod.mk.inj hpr
      simp only [walkR]
      have HS := hid (show St F w [glC W, .row TOp 4 lv R1.length (opsC R1)] w2 from hS2.sub [0, 2])
      clear hS2 back Hst Hpr Hne hpr
      go_wp2_with fail
      go_ret2
      first | exact ⟨lv, rfl, HS.out⟩ | exact ⟨⟨lv, rfl⟩, HS.out⟩
end
end Go.Proofs.YtkaecdkmalppcaaDoor
