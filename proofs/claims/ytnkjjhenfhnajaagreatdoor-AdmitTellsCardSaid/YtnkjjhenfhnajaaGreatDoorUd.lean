/-
  The laws' table, and chapter 6's runs, as plain data. No program.
-/
import Derived.Test.YtnkjjhenfhnajaaGreatDoorG05
namespace Go
namespace Tm
def clampI (n : Int) : Int := if n < 1 then 1 else if 255 < n then 255 else n
def TM.takeM (m : TM) (x : Task) : TM := if 5000 < x.code.size ∨ 40 < x.needs.length then m else (m.add x).2.2
def tableM (us : List Int) (l : List Task) : TM := (l.take 40).foldl TM.takeM ⟨65536, (us.take 16).map clampI, []⟩
theorem clamp_bd (n : Int) : 1 ≤ clampI n ∧ clampI n ≤ 255 := by unfold clampI; split <;> (try split) <;> omega
namespace CR
def n1 (c : UInt8) : ByteArray := ⟨#[c]⟩
def e0 : ByteArray := ⟨#[]⟩
def A : Task := ⟨n1 97, 1, 0, [⟨0, 1⟩], e0, 0, 0, 0⟩
def B : Task := ⟨n1 98, 4, 0, [⟨0, 3⟩], e0, 0, 0, 0⟩
def C : Task := ⟨n1 99, 6, 0, [⟨1, 1⟩], e0, 0, 0, 0⟩
def L : List Task := [A, B, C]
def M : TM := tableM [3, 1] L
set_option maxRecDepth 100000
theorem r0 : M.ceilRow 0 = [4, 4, 4, 0] := by decide +kernel
theorem r1 : M.ceilRow 1 = [6, 0] := by decide +kernel
theorem r2 : M.ceilRow 2 = [] := by decide +kernel
theorem a0 : M.ceilAt 0 (-5) = 4 := by decide +kernel
theorem a1 : M.ceilAt 0 2 = 4 := by decide +kernel
theorem a2 : M.ceilAt 1 0 = 6 := by decide +kernel
theorem a3 : M.ceilAt 0 0 = 4 := by decide +kernel
theorem a4 : M.ceilAt 0 3 = 0 := by decide +kernel
theorem a5 : M.ceilAt 1 1 = 0 := by decide +kernel
theorem us : M.units = [3, 1] := by decide +kernel
end CR
end Tm
end Go
