/-
  units: has, Len, Free, of, walked.
-/
import Derived.Test.YtdjgijndcjbpiaaGreatDoorUh
namespace Go.Proofs.YtdjgijndcjbpiaaGreatDoor
open Go.RowKit Go.Kw Go.Kreg Go.Tm Go.Um
set_option linter.unusedSimpArgs false
set_option linter.unusedVariables false

section
variable {w : World} {p : Nat} {m : UM} {x : UX}
set_option maxRecDepth 100000 in
theorem uhas_any (h : UAt w p m x) (r : Int) : Calls Tryz.prog 119 #[.pointer (some ⟨p, 0, none⟩), .int .i64 r] w fun e w' => e = .returned (.bool (decide (m.has r))) ∧ w = w' := by
  have hc := h.c0
  obtain ⟨a, c, e, -⟩ := h.uns.shape
  rw [e] at hc
  obtain ⟨R, hR⟩ : ∃ R, decide (m.has r) = R := ⟨_, rfl⟩
  rw [hR]
  unfold UM.has at hR
  clear h e
  by_cases h0 : 0 ≤ r
  · have b0 : decide (0 ≤ r) = true := by simpa using h0
    by_cases h1 : r < m.us.length
    · have b1 : decide (r < (m.us.length : Int)) = true := by simpa using h1
      obtain rfl : R = true := by rw [← hR]; simp [h0, h1]
      clear hR h0 h1
      go_enter Tryz.func119, Tryz.ntmps119
      go_wp2_with fail
      go_ret
      exact ⟨rfl, rfl⟩
    · have b1 : decide (r < (m.us.length : Int)) = false := by simpa using h1
      obtain rfl : R = false := by rw [← hR]; simp [h0, h1]
      clear hR h0 h1
      go_enter Tryz.func119, Tryz.ntmps119
      go_wp2_with fail
      go_ret
      exact ⟨rfl, rfl⟩
  · have b0 : decide (0 ≤ r) = false := by simpa using h0
    obtain rfl : R = false := by rw [← hR]; simp [h0]
    clear hR h0
    go_enter Tryz.func119, Tryz.ntmps119
    go_wp2_with fail
    go_ret
    exact ⟨rfl, rfl⟩
set_option maxRecDepth 100000 in
theorem ulen_any (h : UAt w p m x) : Calls Tryz.prog 117 #[.pointer (some ⟨p, 0, none⟩)] w fun e w' => e = .returned (.int .i64 m.us.length) ∧ w = w' := by
  have hc := h.c0
  obtain ⟨a, c, e, -⟩ := h.uns.shape
  rw [e] at hc
  clear h e
  go_enter Tryz.func117, Tryz.ntmps117
  go_wp2_with fail
  go_ret
  exact ⟨rfl, rfl⟩
set_option maxRecDepth 100000 in
theorem ufree_any (h : UAt w p m x) (r : Int) : Calls Tryz.prog 118 #[.pointer (some ⟨p, 0, none⟩), .int .i64 r] w fun e w' => e = .returned (.int .i64 (m.free r)) ∧ w = w' := by
  have HH := hid (uhas_any h r)
  have hc := h.c1
  obtain ⟨R, hR⟩ : ∃ R, m.free r = R := ⟨_, rfl⟩
  rw [hR]
  by_cases hh : m.has r
  · have hh2 := hh
    unfold UM.has at hh2
    obtain ⟨k, rfl⟩ := Int.eq_ofNat_of_zero_le hh2.1
    have hk : k < m.us.length := by omega
    have hf := frees_at m hk
    rw [hR] at hf
    obtain ⟨g, cap, e, -⟩ := h.frs.form (by omega)
    have ho := h.frs
    rw [e] at ho hc
    have d0 := ho.cells' (g := g) rfl (intsC_at hf)
    rw [decide_eq_true hh] at HH
    have i0 : (0 : Int) ≤ (k : Int) := by omega
    have i1 : (k : Int) < (m.us.length : Int) := by omega
    clear h hf ho e hR hh
    go_enter Tryz.func118, Tryz.ntmps118
    go_wp2_with fail
    refine HH.out.mono ?_; rintro e w1 ⟨rfl, rfl⟩
    go_wp2_with fail
    go_ret
    exact ⟨rfl, rfl⟩
  · obtain rfl : R = 0 := by rw [← hR]; unfold UM.free; rw [if_neg hh]
    rw [decide_eq_false hh] at HH
    clear h hR hh
    go_enter Tryz.func118, Tryz.ntmps118
    go_wp2_with fail
    refine HH.out.mono ?_; rintro e w1 ⟨rfl, rfl⟩
    go_wp2_with fail
    go_ret
    exact ⟨rfl, rfl⟩
end
end Go.Proofs.YtdjgijndcjbpiaaGreatDoor
