/-
  RespondRuns, walked.
-/
import Derived.Test.YtnkjjhenfhnajaaDoorEd
import Derived.Test.YtnkjjhenfhnajaaDoorG26
import Derived.Test.YtnkjjhenfhnajaaDoorG28
namespace Go.Proofs.YtnkjjhenfhnajaaDoor
open Go.RowKit Go.Kw Go.Kreg Go.Tm Go.Ad
set_option linter.unusedSimpArgs false
set_option linter.unusedVariables false

section
variable {w : World} {p : Nat} {m : TM} {x : TabX}
theorem loadOf_any (hm : m.Ok) (h : TabAt w p m x) (id : Int) : LoadTold p id m w := by
  rcases id_cases m.ts id with ho | ⟨i, t, rfl, ht⟩
  · exact loadOf_out h id ho
  · exact loadOf_in hm h ht
theorem worst_any (hm : m.Ok) (h : TabAt w p m x) (id : Int) : Calls Tryd.prog 8 #[.pointer (some ⟨p, 0, none⟩), .int .i64 id] w fun e w' => e = .returned (.tuple #[.int .i64 (worst m id).1, .int .i64 (worst m id).2]) ∧ Keeps (fun _ => False) w w' :=
  worst_core hm (loadOf_any hm h id)
set_option maxRecDepth 100000 in
set_option maxHeartbeats 4000000 in
theorem loadOf_nil (w : World) (id : Int) : Calls Tryd.prog 16 #[.pointer none, .int .i64 id] w fun e w' => e = .returned (.tuple #[.agg #[.int .i64 0, .int .i64 0, .slice none 0 0], .int .i64 1]) ∧ Keeps (fun _ => False) w w' := by
  have HS0 := hid ((St.start w).new TLo [.int .i64 0, .int .i64 0, .slice none 0 0])
  go_enter Tryd.func16, Tryd.ntmps16
  go_wp2_with (refine wpList_storeS 0 TLo _ _ rfl rfl [.int .i64 0, .int .i64 0, .slice none 0 0] HS0.out rfl rfl rfl sizeLo rfl (by simp [Value.oneCell']) ?_; intro w3 hS3; simp only [Kw.red] at hS3)
  refine bodyPost_ret (v := .tuple #[.agg #[.int .i64 0, .int .i64 0, .slice none 0 0], .int .i64 1]) (results_ct Tryd.results16 _ _ w.heap.size TLo #[.int .i64 0, .int .i64 0, .slice none 0 0] (0, 0) _ rfl (hS3.blk 0) Tryd.underlying49 rfl sizeLo) rfl ?_
  exact ⟨rfl, hS3.keeps⟩
set_option maxRecDepth 100000 in
set_option maxHeartbeats 4000000 in
theorem worst_nil (w : World) (id : Int) : Calls Tryd.prog 8 #[.pointer none, .int .i64 id] w fun e w' => e = .returned (.tuple #[.int .i64 0, .int .i64 1]) ∧ Keeps (fun _ => False) w w' := by
  have HL := hid (loadOf_nil w id)
  go_enter Tryd.func8, Tryd.ntmps8
  go_wp2_with fail
  go_step3
  go_wp2_with fail
  refine HL.out.mono ?_; rintro e w1 ⟨rfl, k1⟩
  have K1 := hid (k1.alloc (.cells #[.int .i64 0, .int .i64 0, .slice none 0 0] TLo))
  clear k1 HL
  go_wp2_with fail
  first | (rw [Exit.noGoto_ret]; go_ret2) | go_ret2
  exact ⟨rfl, K1.out⟩
end
end Go.Proofs.YtnkjjhenfhnajaaDoor
