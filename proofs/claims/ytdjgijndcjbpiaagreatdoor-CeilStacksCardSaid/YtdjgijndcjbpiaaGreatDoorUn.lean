/-
  ceil.System, walked.
-/
import Derived.Test.YtdjgijndcjbpiaaGreatDoorUl
import Derived.Test.YtdjgijndcjbpiaaGreatDoorG25
namespace Go.Proofs.YtdjgijndcjbpiaaGreatDoor
open Go.RowKit Go.Kw Go.Kreg Go.Tm Go.Um
set_option linter.unusedSimpArgs false
set_option linter.unusedVariables false

/-- The greatest ceiling of the first k resources. -/
def sysTo (m : TM) (u : UM) : Nat → Int
  | 0 => 0
  | k + 1 => max (sysTo m u k) (m.ceilAt k (u.free k))
def sysM (m : TM) (u : UM) : Int := sysTo m u u.us.length
section
variable {w : World} {p q : Nat} {m : TM} {x : TabX} {u : UM} {y : UX}
set_option maxRecDepth 100000 in
set_option maxHeartbeats 1000000 in
theorem system_any (h : TabAt w p m x) (hu : UAt w q u y) : Calls Tryz.prog 39 #[.pointer (some ⟨p, 0, none⟩), .pointer (some ⟨q, 0, none⟩)] w fun e w' => e = .returned (.int .i64 (sysM m u)) ∧ Keeps (fun _ => False) w w' := by
  have H := hid h
  have HU := hid hu
  have HL := hid (ulen_any hu)
  obtain ⟨R, hR⟩ : ∃ R, sysM m u = R := ⟨_, rfl⟩
  rw [hR]
  have HR := hid hR
  have hfew := hu.ok.few
  clear h hu hR
  go_enter Tryz.func39, Tryz.ntmps39
  go_wp2_with fail
  refine HL.out.mono ?_; rintro e w1 ⟨rfl, rfl⟩
  clear HL
  go_wp2_with fail
  go_loopw [15, 5] (fun i z wr => ∃ (k : Nat), k ≤ u.us.length ∧ i = .int .i64 k ∧ z = .int .i64 (sysTo m u k) ∧ Keeps (fun _ => False) w wr) (fun i _ _ => u.us.length - (intOf i).toNat)
  case atStart => exact ⟨0, Nat.zero_le _, rfl, rfl, Keeps.refl _ _⟩
  case round =>
    obtain ⟨k, hk, rfl, rfl, hK⟩ := hrel
    by_cases hlt : k < u.us.length
    · have a1 : decide (k < u.us.length) = true := by simpa using hlt
      have HF := hid (ufree_any (HU.out.keeps hK) k)
      have HA := hid (at_any (H.out.keeps hK) k (u.free k))
      have Hst := hid (show sysTo m u (k + 1) = max (sysTo m u k) (m.ceilAt k (u.free k)) from rfl)
      have HK := hid hK
      generalize m.ceilAt k (u.free k) = C at *
      generalize u.free k = FR at *
      generalize sysTo m u k = Z at *
      clear hK
      go_wp2_with fail
      refine HF.out.mono ?_; rintro e w2 ⟨rfl, rfl⟩
      go_wp2_with fail
      refine HA.out.mono ?_; rintro e w2 ⟨rfl, k2⟩
      have HK2 := hid (HK.out.trans k2)
      clear k2
      go_wp2_with fail
      go_roundw
      case rel => exact ⟨k + 1, by omega, by go_num, by rw [Hst.out], HK2.out⟩
      case measure => simp [intOf]; omega
    · have a1 : decide (k < u.us.length) = false := by simpa using hlt
      obtain rfl : k = u.us.length := by omega
      have e : sysTo m u u.us.length = R := HR.out
      rw [e]
      have HK := hid hK
      clear e hK
      go_wp2_with fail
      go_ret
      exact ⟨rfl, HK.out⟩
end
set_option maxRecDepth 100000 in
theorem system_nil1 (w : World) (v : Option Addr) : Calls Tryz.prog 39 #[.pointer none, .pointer v] w fun e w' => e = .returned (.int .i64 0) ∧ w = w' := by
  go_enter Tryz.func39, Tryz.ntmps39
  go_wp2_with fail
  go_ret
  exact ⟨rfl, rfl⟩
set_option maxRecDepth 100000 in
theorem system_nil2 (w : World) (a : Addr) : Calls Tryz.prog 39 #[.pointer (some a), .pointer none] w fun e w' => e = .returned (.int .i64 0) ∧ w = w' := by
  go_enter Tryz.func39, Tryz.ntmps39
  go_wp2_with fail
  go_ret
  exact ⟨rfl, rfl⟩
end Go.Proofs.YtdjgijndcjbpiaaGreatDoor
