/-
  keelref3.Number, walked.
-/
import Derived.Test.YtnkjjhenfhnajaaDoorG05
import Derived.Test.YtnkjjhenfhnajaaDoorG17
namespace Go.Proofs.YtnkjjhenfhnajaaDoor
open Go.RowKit Go.Kw Go.Kreg Go.Cm

theorem head_at {s : ByteArray} (h : 0 < s.size) (c : UInt8) : (s.data.toList.head? = some c) ↔ ((s[0].toNat : Int) = c.toNat) := by
  have hl : 0 < s.data.toList.length := by rw [Array.length_toList]; exact h
  have hg : s.data.toList[0] = s[0] := rfl
  rw [List.head?_eq_getElem?, List.getElem?_eq_getElem hl, hg, Option.some_inj, ← UInt8.toNat_inj]
  omega
end Go.Proofs.YtnkjjhenfhnajaaDoor
