/-
  What the row's listed variables give: the library's tables and errors in memory.
-/
import Derived.Test.YtnkjjhenfhnajaaGreatDoorG07
import Derived.Test.YtnkjjhenfhnajaaGreatDoorRows
import Derived.Stop.LaidErr
import Derived.LaidMore
import Derived.Lib.LaidTab
namespace Go.Proofs.YtnkjjhenfhnajaaGreatDoor
open Go.RowKit Go.Kw

def laid5 : List (String × DataW Unit) := [("math/bits.deBruijn32tab", Rows.laid_math_bits_deBruijn32tab), ("math/bits.deBruijn64tab", Rows.laid_math_bits_deBruijn64tab), ("internal/strconv.uint64pow10", Rows.laid_internal_strconv_uint64pow10), ("strconv.ErrRange", Rows.laid_strconv_ErrRange), ("strconv.ErrSyntax", Rows.laid_strconv_ErrSyntax)]
theorem gl_own : ownKnob Tryz.prog.godebug = none := by kernel_rfl
theorem gl_pow : Tryz.prog.globalNamed "internal/strconv.uint64pow10" = some 2 := by kernel_rfl
theorem gl_powT : (Tryz.prog.globals[2]?).map (·.type) = some 336 := by kernel_rfl
theorem gl_64 : Tryz.prog.globalNamed "math/bits.deBruijn64tab" = some 4 := by kernel_rfl
theorem gl_64T : (Tryz.prog.globals[4]?).map (·.type) = some 342 := by kernel_rfl
theorem gl_rng : Tryz.prog.globalNamed "strconv.ErrRange" = some 1 := by kernel_rfl
theorem gl_rngT : (Tryz.prog.globals[1]?).map (·.type) = some 307 := by kernel_rfl
theorem gl_syn : Tryz.prog.globalNamed "strconv.ErrSyntax" = some 0 := by kernel_rfl
theorem gl_synT : (Tryz.prog.globals[0]?).map (·.type) = some 307 := by kernel_rfl
theorem gl_star : "*" ++ "errors.errorString" = "*errors.errorString" := by decide
theorem gl_row (u : TypeId) (h : Tryz.prog.typeName? 3 u = some "*errors.errorString") : u = 332 :=
  typeName_ptr_named (nm := "errors.errorString") (by rw [gl_star]; kernel_rfl) (by kernel_rfl) (by decide) u (by rw [gl_star]; exact h)
theorem gl_c1 : Tryz.prog.cellsOf 334 = 1 := by kernel_rfl
theorem gl_c2 : Tryz.prog.cellsOf 9 = 1 := by kernel_rfl
theorem gl_u64 : Tryz.prog.cellsOf 302 = 1 := by kernel_rfl
theorem gl_u8 : Tryz.prog.cellsOf 5 = 1 := by kernel_rfl
theorem gl_20 : Tryz.prog.cellsOf 336 = 20 := by kernel_rfl
theorem gl_8 : Tryz.prog.cellsOf 342 = 64 := by kernel_rfl
def tab64 : List Int := [0, 1, 56, 2, 57, 49, 28, 3, 61, 58, 42, 50, 38, 29, 17, 4, 62, 47, 59, 36, 45, 43, 51, 22, 53, 39, 33, 30, 24, 18, 12, 5, 63, 55, 48, 27, 60, 41, 37, 16, 46, 35, 44, 21, 52, 32, 23, 11, 54, 26, 40, 15, 34, 20, 31, 10, 25, 14, 19, 9, 13, 8, 7, 6]

theorem glob_of {W : World} (h : laidMetH Tryz.prog laid5 W) : Glob W ∧ ∃ F, (glC W).holds F W := by
  rw [MakeChecks.laidMetH_plain _ _ _ (by kernel_rfl)] at h
  have h1 := laidMet.tail h
  have h2 := laidMet.tail h1
  have h3 := laidMet.tail h2
  have h4 := laidMet.tail h3
  have t64 : Lib.TabIs Tryz.prog W "math/bits.deBruijn64tab" .u8 tab64 := Lib.tabIs_of_head gl_64 gl_64T Tryz.underlying342 Tryz.underlying5 gl_u8 gl_8 h1
  have tpow : Lib.TabIs Tryz.prog W "internal/strconv.uint64pow10" .u64 Lib.pow10Tab := Lib.tabIs_of_head gl_pow gl_powT Tryz.underlying336 Tryz.underlying302 gl_u64 gl_20 h2
  obtain ⟨a0, s0, hv0, -, -, -⟩ := laid_sentinel h3 gl_rng gl_rngT Tryz.underlying307 gl_row Tryz.underlying332 Tryz.underlying334 rfl rfl Tryz.underlying9 gl_c1 gl_c2
  obtain ⟨a1, s1, hv1, -, -, -⟩ := laid_sentinel h4 gl_syn gl_synT Tryz.underlying307 gl_row Tryz.underlying332 Tryz.underlying334 rfl rfl Tryz.underlying9 gl_c1 gl_c2
  have hs : NG ≤ W.heap.size := by
    have hc := t64.cell gl_64 0 (by decide)
    have : 4 < W.heap.size := World.block_lt_of_cell? W _ hc
    exact this
  have c1 : W.cell? ⟨0, 0, none⟩ = some (.iface 332 (.pointer (some a1))) := by
    have h0 := World.var?_cell gl_syn hv1 0
    simpa using h0
  have c0 : W.cell? ⟨1, 0, none⟩ = some (.iface 332 (.pointer (some a0))) := by
    have h0 := World.var?_cell gl_rng hv0 0
    simpa using h0
  exact ⟨⟨tpow, ⟨_, _, c1⟩, ⟨_, _, c0⟩⟩, fun b => b < NG, fun _ _ => rfl, hs, fun _ => Iff.rfl⟩
theorem door_met (os : Os) (args : Array Value) : laidMetH Tryz.prog laid5 ((World.doorLaid Tryz.prog 400 os).forCall (fun _ _ => 0) ⟨#[], args, []⟩).memory :=
  laidMetH_of_parts3 (fuel := 8) (laidMet_of_run' 8 (by kernel_rfl) (by kernel_rfl)) (by kernel_rfl) (by kernel_rfl)
end Go.Proofs.YtnkjjhenfhnajaaGreatDoor
