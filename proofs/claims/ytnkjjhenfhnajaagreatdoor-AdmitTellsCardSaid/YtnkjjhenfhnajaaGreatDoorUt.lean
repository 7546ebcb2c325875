/-
  keellaw6.table, walked.
-/
import Derived.Test.YtnkjjhenfhnajaaGreatDoorG24
import Derived.Test.YtnkjjhenfhnajaaGreatDoorG20
import Derived.Test.YtnkjjhenfhnajaaGreatDoorG20
import Derived.Test.YtnkjjhenfhnajaaGreatDoorUd
import Derived.Deep.Cut
import Derived.Deep.DeepCutAuto
namespace Go
namespace Proofs.YtnkjjhenfhnajaaGreatDoor
open Go.RowKit Go.Kw Go.Kreg Go.Tm
set_option linter.unusedSimpArgs false
set_option linter.unusedVariables false

set_option maxRecDepth 100000 in
theorem clamp_any (w : World) (n : Int) : Calls Tryz.prog 109 #[.int .i64 n, .int .i64 1, .int .i64 255] w fun e w' => e = .returned (.int .i64 (clampI n)) ∧ w = w' := by
  by_cases h0 : n < 1
  · have b0 : decide (n < 1) = true := by simpa using h0
    rw [show clampI n = 1 by unfold clampI; rw [if_pos h0]]
    clear h0
    go_enter Tryz.func109, Tryz.ntmps109
    go_wp2_with fail
    go_ret
    exact ⟨rfl, rfl⟩
  · have b0 : decide (n < 1) = false := by simpa using h0
    by_cases h1 : 255 < n
    · have b1 : decide (255 < n) = true := by simpa using h1
      rw [show clampI n = 255 by unfold clampI; rw [if_neg h0, if_pos h1]]
      clear h0 h1
      go_enter Tryz.func109, Tryz.ntmps109
      go_wp2_with fail
      go_ret
      exact ⟨rfl, rfl⟩
    · have b1 : decide (255 < n) = false := by simpa using h1
      rw [show clampI n = n by unfold clampI; rw [if_neg h0, if_neg h1]]
      clear h0 h1
      go_enter Tryz.func109, Tryz.ntmps109
      go_wp2_with fail
      go_ret
      exact ⟨rfl, rfl⟩
theorem SlIn.own {w : World} {v : Value} {l : List Int} (h : Own w TI' 1 v l.length (intsC l)) (hl : l.length ≤ 1000000) : SlIn w v l := by
  rcases h.2 with ⟨rfl, h0⟩ | ⟨g, cap, cur, rfl, hb, hh, hn, hm, hs, ht⟩
  · have : l = [] := List.length_eq_zero_iff.1 h0
    subst this
    exact ⟨none, 0, rfl, by simp, by simp, by simp [maxLen], fun j x hj => by simp at hj, fun _ => rfl⟩
  · refine ⟨_, _, rfl, by omega, hn, hm, fun j x hj => ⟨g, 0, rfl, ?_⟩, (fun e => by cases e)⟩
    rw [Nat.zero_add]
    exact h.cells' (g := g) rfl (intsC_at hj)
theorem addR_st {w w0 : World} {F0 : Nat → Prop} {c1 c2 : Ch} {cs : List Ch} {p : Nat} {m m' : TM} {n e : Int} (hS : St F0 w0 (c1 :: c2 :: refC p m :: cs) w) (x : Task) {nd : Value} (hv : SlNd w nd x.needs) (hnm : x.name.size ≤ 9223372036854775807) (hb : big x.frame) (ha : m.add x = (n, e, m')) :
    Calls Tryz.prog 20 #[.pointer (some ⟨p, 0, none⟩), taskV x nd] w fun r w' => r = .returned (.tuple #[.int .i64 n, .int .i64 e]) ∧ St F0 w0 (c1 :: c2 :: refC p m' :: cs) w' := by
  obtain ⟨F1, g1, _, _, bk⟩ := hS.sel [2]
  have g2 : Sts [refC p m] F1 w := g1
  refine (addR_any g2 x hv hnm hb).mono fun r w' ⟨h1, h2⟩ => ⟨?_, ?_⟩
  · rw [h1, ha]
  · rw [ha] at h2; exact bk h2
section
variable {W w : World} {F : Nat → Prop}
end
end Proofs.YtnkjjhenfhnajaaGreatDoor
end Go
