/-
  Package code, walked: Count.
-/
import Derived.Test.YtkaecdkmalppcaaDoorCv
namespace Go.Proofs.YtkaecdkmalppcaaDoor
open Go.RowKit Go.Kw Go.Kreg Go.Cm

section
variable {w : World} {F : Nat → Prop} {v : Value} {p : List Cm.Op}
set_option maxRecDepth 100000 in
set_option maxHeartbeats 1000000 in
theorem count_any (h : Sts [.row TOp 4 v p.length (opsC p)] F w) (hc : (check p).2 = 0) :
    Calls Tryd.prog 45 #[v] w fun e w' => e = .returned (.tuple #[.int .i64 (walkR (playAll p)).1, .int .i64 (walkR (playAll p)).2]) ∧ St F w [.row TOp 4 v p.length (opsC p)] w' := by
  have hS := (St.of h).add (Keeps.refl (fun _ => False) w) (G := fun _ => False) (c := tellC none []) (fun _ => id) (fun _ h => h.elim)
  obtain ⟨F1, g1, _, _, back⟩ := hS.sel [0, 1]
  have g2 : Sts [.row TOp 4 v p.length (opsC p), tellC none []] F1 w := g1
  have hw := walk_any g2 hc
  have HW := hid hw
  simp only [tellV] at hw
  have HW := hid hw
  clear h hS g1 g2 hw
  go_enter Tryd.func45, Tryd.ntmps45
  go_wp2_with fail
  refine HW.out.mono ?_; rintro e w1 ⟨rfl, hS⟩
  have hS := back hS
  simp only [Kw.red] at hS
  have HS := hid (hS.sub [0])
  clear hS back HW
  go_wp2_with fail
  go_ret2
  exact ⟨rfl, HS.out⟩
end
end Go.Proofs.YtkaecdkmalppcaaDoor
