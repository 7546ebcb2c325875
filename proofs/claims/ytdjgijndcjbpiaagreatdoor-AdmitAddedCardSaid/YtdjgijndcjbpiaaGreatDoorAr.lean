/-
  Chapter 11's runs as plain data. No program.
-/
import Derived.Test.YtdjgijndcjbpiaaGreatDoorAd
namespace Go
namespace Ad
open Tm
namespace AR
def A : Task := ⟨⟨#[97]⟩, 1, 0, [⟨0, 1⟩, ⟨1, 1⟩], ⟨#[108, 111, 99, 107, 32, 48, 32, 49, 59, 32, 119, 111, 114, 107, 32, 51, 59, 32, 108, 111, 99, 107, 32, 49, 32, 49, 59, 32, 119, 111, 114, 107, 32, 50, 59, 32, 117, 110, 108, 111, 99, 107, 32, 49, 59, 32, 117, 110, 108, 111, 99, 107, 32, 48]⟩, 0, 0, 0⟩
def B : Task := ⟨⟨#[98]⟩, 2, 0, [⟨1, 1⟩], ⟨#[108, 111, 99, 107, 32, 49, 32, 49]⟩, 0, 0, 0⟩
def C : Task := ⟨⟨#[99]⟩, 4, 0, [⟨0, 2⟩], ⟨#[]⟩, 0, 0, 0⟩
def D : Task := ⟨⟨#[100]⟩, 4, 0, [], ⟨#[]⟩, 0, 0, 0⟩
def M0 : TM := ⟨8, [2, 1], []⟩
def M1 : TM := ⟨8, [2, 1], [A]⟩
def M2 : TM := ⟨8, [2, 1], [A, B]⟩
def M3 : TM := ⟨8, [2, 1], [A, B, C]⟩
def M : TM := ⟨8, [2, 1], [A, B, C, D]⟩
set_option maxRecDepth 100000
theorem c0 : M0.check A = 0 := by decide +kernel
theorem c1 : M1.check B = 0 := by decide +kernel
theorem c2 : M2.check C = 0 := by decide +kernel
theorem c3 : M3.check D = 0 := by decide +kernel
theorem s0 : secsI M.ts 0 = [⟨0, 1, 1, 0, 8⟩, ⟨1, 1, 1, 4, 7⟩] := by decide +kernel
theorem s1 : secsI M.ts 1 = [⟨1, 1, 1, 0, 1⟩] := by decide +kernel
theorem k0 : cost M.ts 0 = 10 := by decide +kernel
theorem u1 : sure M 1 = (⟨0, 0, 8⟩, true) := by decide +kernel
theorem u2 : sure M 2 = (⟨0, 0, 8⟩, true) := by decide +kernel
theorem u0 : sure M 0 = (⟨0, 0, 0⟩, false) := by decide +kernel
theorem t0 : term M 0 = 0 := by decide +kernel
theorem t1 : term M 1 = 8 := by decide +kernel
theorem t2 : term M 2 = 8 := by decide +kernel
theorem t3 : term M 3 = 8 := by decide +kernel
theorem t9 : term M 9 = 0 := by decide +kernel
theorem l1 : longest M 1 = 8 := by decide +kernel
theorem g : greatest M = 8 := by decide +kernel
end AR
end Ad
end Go
