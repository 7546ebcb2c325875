/-
  Package code, walked: rows, kinds, fields.
-/
import Derived.Test.YtkaecdkmalppcaaDoorCw
namespace Go.Proofs.YtkaecdkmalppcaaDoor
open Go.RowKit Go.Kw Go.Kreg Go.Cm

abbrev TRow : Nat := 110
abbrev TRows : Nat := 123
def wordV (k : Nat) : Value := .string ⟨(rowW k).toArray⟩
def rowsL : List Value := (List.range 12).flatMap fun k => [wordV k, .int .i64 (rowH k)]
theorem rowsL_0 {k : Nat} (h : k < 12) : rowsL[k * 2]? = some (wordV k) ∧ rowsL[k * 2 + 1]? = some (.int .i64 (rowH k)) := by
  obtain rfl | rfl | rfl | rfl | rfl | rfl | rfl | rfl | rfl | rfl | rfl | rfl : k = 0 ∨ k = 1 ∨ k = 2 ∨ k = 3 ∨ k = 4 ∨ k = 5 ∨ k = 6 ∨ k = 7 ∨ k = 8 ∨ k = 9 ∨ k = 10 ∨ k = 11 := by omega
  all_goals exact ⟨rfl, rfl⟩
def zeros12 : List Value := (List.range 12).flatMap fun _ => [.string ⟨#[]⟩, .int .i64 0]
theorem zero12 : (Tryd.prog.info? TRows).map (fun i => i.zero) = some (some (.agg zeros12.toArray)) := by kernel_rfl
theorem size12 : (Tryd.prog.info? TRows).map (·.size) = some 24 := by kernel_rfl

set_option maxRecDepth 100000 in
set_option maxHeartbeats 4000000 in
theorem row_any (k : Nat) (w : World) (h1 : 1 ≤ k) (h2 : k ≤ 11) : Calls Tryd.prog 53 #[.int .i64 k] w fun e w' => e = .returned (.tuple #[.agg #[wordV k, .int .i64 (rowH k)], .bool true]) ∧ Keeps (fun _ => False) w w' := by
  have hc := rowsL_0 (show k < 12 by omega)
  unfold wordV at *
  generalize hwv : (⟨(rowW k).toArray⟩ : ByteArray) = wv at *
  generalize hhv : rowH k = hv at *
  have Hc := hid hc
  clear hc hwv hhv
  have i0 : (0 : Int) ≤ (k : Int) := by omega
  have i1 : (k : Int) < 12 := by omega
  have b1 : decide ((k : Int) < 1) = false := by simp; omega
  have b2 : decide ((11 : Int) < (k : Int)) = false := by simp; omega
  have hS := ((St.start w).new TRow [.string ⟨#[]⟩, .int .i64 0])
  go_enter Tryd.func53, Tryd.ntmps53
  go_wp2_with (first | (refine wpList_allocS TRows _ zeros12 rfl rfl zero12 rfl hS ?_; intro L w1 hS1) | (refine wpList_storeS 1 TRows _ _ rfl rfl rowsL hS1 rfl rfl rfl size12 rfl (by intro u hu; simp only [rowsL, List.mem_flatMap] at hu; obtain ⟨k, _, hu⟩ := hu; simp only [List.mem_cons, List.not_mem_nil, or_false] at hu; rcases hu with rfl | rfl <;> rfl) ?_; intro w2 hS2; clear hS1; have d0 := (hS2.blk 1).at Hc.out.1; have d1 := (hS2.blk 1).at Hc.out.2; obtain ⟨f0, f1, fz⟩ := cells2 (hS2.blk 0)))
  have hS3 := (hS2.set 0 0 (.string wv)).set 0 1 (.int .i64 hv)
  simp only [Kw.red] at hS3
  obtain ⟨g0, g1, gz⟩ := cells2 (hS3.blk 0)
  exact bodyPost_ret (v := .tuple #[.agg #[.string wv, .int .i64 hv], .bool true]) (by simp [results, Tryd.results53, go_sem, g0, g1]) rfl ⟨rfl, hS3.keeps⟩
end Go.Proofs.YtkaecdkmalppcaaDoor
