/- The tied card of CeilRuns: it returns true for every input, and each argument reads as it did. Condition: the package-level variables that the row lists start as the program's text lays them (the card ties them). -/
import Derived.Test.YtdjgijndcjbpiaaGreatDoorRows
import Derived.Test.YtdjgijndcjbpiaaGreatDoorTie
import Derived.Test.YtdjgijndcjbpiaaGreatDoorCards
import Derived.Test.YtdjgijndcjbpiaaGreatDoorGl
import Derived.Test.YtdjgijndcjbpiaaGreatDoorFp
import Derived.Test.YtdjgijndcjbpiaaGreatDoorUe
import Derived.WalkKit
import Derived.ProofKit
import Derived.OpenShut
import Derived.ShutString
import Derived.ChangeOld
import Derived.Below
import Derived.SizedLaws
import Derived.Deep.SlicePairs
import Derived.LaidMore
import Derived.Stop.Joined
import Derived.SevenTiedAt
namespace Go.Proofs.YtdjgijndcjbpiaaGreatDoor.ceilRuns
open Go.ChangeShapes Go.WideShapes Go.ChangeAt Go.RowKit Go.Kw
set_option maxRecDepth 100000 in
theorem lifted (os : Os) (started : os.Started) (H : Type) (enc : TypeId × Value → H) :
    ReturnsInHanded {} Tryz.checked os 4 .any (fun w args => (Rows.ceilRunsSpec.pre enc Tryz.prog Tryz.f4 [] false w args ∧ laidMetH Tryz.prog laid5 w) ∧ sizedMet enc Tryz.prog Tryz.f4 (OpenSpec.ofChange Rows.ceilRunsSpec) false w args)
      (Rows.ceilRunsSpec.post enc Tryz.prog Tryz.f4 false true false false) := by
  refine returnsInHanded_of_change_and (C := Tryz.checked) (X := fun w _ => laidMetH Tryz.prog laid5 w) (fun _ _ _ hh h => h.of_heap hh) gl_own started (by kernel_rfl) Tryz.func4
    (ChangeSpec.witness_shaped (enc := enc) (C := Tryz.checked) (os := os) (X := fun w _ => laidMetH Tryz.prog laid5 w) false (World.doorLaid Tryz.prog 400 os) #[] 8 rfl (World.shaped_of_RefB (by kernel_rfl) (by kernel_rfl)) (by kernel_rfl) (by kernel_rfl) (by kernel_rfl) (door_met os _)) ?_
  intro W base args ds gs before hval0 hW _ hsz0 hL _
  have hsz : (DataW.weightsEach Tryz.prog (Tryz.f4.params.toList ++ Rows.ceilRunsSpec.plain.varTypes Tryz.prog) (ds ++ gs)).all (· ≤ reachBytes) = true := hsz0
  have hval : ∀ (j : Nat) t v, Tryz.f4.params[j]? = some t → args[j]? = some v → Value.okWide Tryz.prog W .any base t v := hval0
  have hW' := hW
  obtain ⟨p, q, hA0, hV, rfl, hfz, hnd⟩ := hW
  have hA : DataW.TrodAll enc Tryz.prog W 0 (fun _ => true) true Tryz.f4.params.toList args.toList ds p := hA0
  rw [Tryz.params4] at hA hval hsz
  obtain ⟨hargs, rfl, rfl⟩ := trodAll_none hA
  obtain rfl : args = #[] := by cases args; simp_all
  obtain ⟨rfl, rfl⟩ := trodVars_none hV
  clear hA0 hval0 hsz0 hsz
  obtain ⟨hG, Fg, hg⟩ := glob_of hL
  refine (ceilruns_any hG hg ).mono fun e W' ⟨he, hk⟩ => ?_
  subst he
  have bel := hk.below
  exact ⟨_, rfl, _, _, _, [], _, [], hW', trodAll_mk1 (shut_bool Tryz.underlying4 _), trodAll_mk0, rfl, bel.frame _, fun h => by cases h⟩
theorem fInPlace : (Rows.ceilRunsRow.inPlace == Tryz.pinned.checked.prog.inPlace 4) = true := by kernel_rfl
theorem fUnfollowed : (Rows.ceilRunsRow.unfollowed == Tryz.pinned.checked.prog.unfollowed 4) = true := by kernel_rfl
theorem fRecurses : (Rows.ceilRunsRow.recurses == Tryz.pinned.checked.prog.recurses 4) = true := by kernel_rfl
theorem fNamed : (Rows.ceilRunsRow.named == Tryz.pinned.checked.prog.varsNamed 4) = true := by kernel_rfl
theorem closedFacts : joinedFacts Tryz.pinned.checked.prog 4 Tryz.f4 Rows.ceilRunsSpec Rows.ceilRunsRow = true := by
  unfold joinedFacts
  simp only [Bool.and_eq_true]
  exact ⟨⟨⟨⟨⟨⟨⟨⟨⟨⟨⟨⟨⟨⟨⟨⟨⟨⟨⟨⟨⟨⟨⟨⟨⟨⟨⟨⟨⟨⟨⟨(by as_aux_lemma => kernel_rfl), fp.laidOut⟩, fp.mapsRowed⟩, (by as_aux_lemma => kernel_rfl)⟩, fp.namedTie⟩, (by as_aux_lemma => kernel_rfl)⟩, fp.stops⟩, (by as_aux_lemma => kernel_rfl)⟩, fp.stopKnobs⟩, fInPlace⟩, fUnfollowed⟩, fRecurses⟩, fNamed⟩, (by as_aux_lemma => kernel_rfl)⟩, (by as_aux_lemma => kernel_rfl)⟩, (by as_aux_lemma => kernel_rfl)⟩, (by as_aux_lemma => kernel_rfl)⟩, (by as_aux_lemma => kernel_rfl)⟩, (by as_aux_lemma => kernel_rfl)⟩, (by as_aux_lemma => kernel_rfl)⟩, (by as_aux_lemma => kernel_rfl)⟩, (by as_aux_lemma => kernel_rfl)⟩, fp.plainKeys⟩, (by as_aux_lemma => kernel_rfl)⟩, fp.stopsHeard⟩, fp.mayEnter⟩, fp.lifted⟩, fp.make⟩, (by as_aux_lemma => kernel_rfl)⟩, (by as_aux_lemma => kernel_rfl)⟩, (by as_aux_lemma => kernel_rfl)⟩, (by as_aux_lemma => kernel_rfl)⟩
theorem over : Rows.CeilRunsSaid :=
  OpenClaim.holds_of_wide 4 Tryz.f4 rfl rfl rfl rfl rfl rfl rfl ⟨rfl, rfl, rfl, rfl, rfl⟩ rfl rfl rfl rfl rfl (by as_aux_lemma => kernel_rfl) Tryz.func4 closedFacts
    (of_decide_eq_true (by kernel_rfl)) (by unfold Func.isWrapper; first | (rw [if_pos (by decide +kernel)]; kernel_rfl) | (rw [if_neg (by decide +kernel)]; exact ⟨rfl, rfl⟩))
    (fun os started H enc _ => lifted os started H enc)
end Go.Proofs.YtdjgijndcjbpiaaGreatDoor.ceilRuns
namespace Go.Proofs.YtdjgijndcjbpiaaGreatDoor
/-- The tied card, under a short name, for the claim. -/
theorem ceilRunsCard_holds : Rows.CeilRunsCardSaid :=
  Claim7.holds_tied_plain_at .later [] [.data, .data, .data, .sentinel, .sentinel] true (true, "2a0ddea0f7ce6d8469d60edee278c3687fe27e746cbcf7548ef60f30a29f7c5e") true
    ceilRuns.over (fun _ h => by cases h) (by kernel_rfl) (fun _ h => by cases h) ceilRuns_row_tie rfl ⟨rfl, rfl⟩ (by kernel_rfl) rfl
    (fun f fn hf hfn => by
      obtain rfl : f = 4 := Option.some.inj ((show Tryz.prog.funcNamed "keel/keellaw6.CeilRuns" = some 4 by kernel_rfl).symm.trans hf) |>.symm
      obtain rfl : fn = Tryz.f4 := (Option.some.inj (Tryz.func4.symm.trans hfn)).symm
      exact ⟨by kernel_rfl, fun j t ht => by
        rw [Tryz.params4] at ht
        simp at ht⟩)
    (by kernel_rfl)
#print axioms ceilRunsCard_holds
end Go.Proofs.YtdjgijndcjbpiaaGreatDoor
