/-
  What a law's set makes.
-/
import Derived.Test.YtnkjjhenfhnajaaGreatDoorG28
import Derived.Test.YtnkjjhenfhnajaaGreatDoorBf
import Derived.Test.YtnkjjhenfhnajaaGreatDoorG20
namespace Go.Proofs.YtnkjjhenfhnajaaGreatDoor
open Go.RowKit Go.Kw Go.Kreg Go.Tm Go.Ad
set_option linter.unusedSimpArgs false
set_option linter.unusedVariables false

/-- What a law's set makes: the tables, and what is in memory behind it. -/
theorem made {W w : World} {F : Nat → Prop} (hG : Glob W) (hg : (glC W).holds F w) {W0 : Int} {uv tv : Value} {us : List Int} {ts : List Task} (hu : SlIm w uv us) (ht : SlTk w tv ts) (hnm : ∀ x ∈ ts, x.name.size ≤ 9223372036854775807) {w1 : World} (hk : Keeps (fun _ => False) w w1) :
    Calls Tryz.prog 25 #[.agg #[.int .i64 W0, uv, tv], .int .i64 10] w1 fun e w' => ∃ p q, e = .returned (.tuple #[.pointer (some ⟨p, 0, none⟩), .pointer (some ⟨q, 0, none⟩), .bool true]) ∧ St F w [glC W, tabC p (setM W0 us ts), refC q (setM W0 us ts)] w' := by
  have hS := (St.of (Sts.one hg)).step hk
  obtain ⟨F1, g1, _, _, bk⟩ := hS.sel [0]
  refine (make_any hG (Sts.of_one g1) (hu.new hk) (ht.new hk) hnm).mono ?_
  rintro e w' ⟨p, q, rfl, h⟩
  exact ⟨p, q, rfl, bk h⟩
end Go.Proofs.YtnkjjhenfhnajaaGreatDoor
