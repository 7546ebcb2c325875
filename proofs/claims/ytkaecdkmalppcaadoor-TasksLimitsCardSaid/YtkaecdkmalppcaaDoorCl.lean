/-
  Package code, walked: Legal.
-/
import Derived.Test.YtkaecdkmalppcaaDoorCw
namespace Go.Proofs.YtkaecdkmalppcaaDoor
open Go.RowKit Go.Kw Go.Kreg Go.Cm

theorem legalFrom_cons (c : UInt8) (l : List UInt8) (i : Nat) : legalFrom (c :: l) i = if (97 ≤ c && c ≤ 122) || (decide (0 < i) && (c == 45 || (48 ≤ c && c ≤ 57))) then legalFrom l (i + 1) else false := rfl

theorem legalFrom_at {l : List UInt8} {k : Nat} (h : k < l.length) : legalFrom (l.drop k) k = if (97 ≤ (l[k].toNat : Int) ∧ (l[k].toNat : Int) ≤ 122) ∨ ((k : Int) ≠ 0 ∧ ((l[k].toNat : Int) = 45 ∨ (48 ≤ (l[k].toNat : Int) ∧ (l[k].toNat : Int) ≤ 57))) then legalFrom (l.drop (k + 1)) (k + 1) else false := by
  rw [List.drop_eq_getElem_cons h, legalFrom_cons]
  generalize l[k] = c
  congr 1
  rw [eq_iff_iff]
  have e1 : (97 ≤ c) ↔ (97 ≤ (c.toNat : Int)) := by rw [UInt8.le_iff_toNat_le]; simp; omega
  have e2 : (c ≤ 122) ↔ ((c.toNat : Int) ≤ 122) := by rw [UInt8.le_iff_toNat_le]; simp; omega
  have e3 : (48 ≤ c) ↔ (48 ≤ (c.toNat : Int)) := by rw [UInt8.le_iff_toNat_le]; simp; omega
  have e4 : (c ≤ 57) ↔ ((c.toNat : Int) ≤ 57) := by rw [UInt8.le_iff_toNat_le]; simp; omega
  have e5 : (c = 45) ↔ ((c.toNat : Int) = 45) := by rw [← UInt8.toNat_inj]; simp; omega
  have e6 : 0 < k ↔ (k : Int) ≠ 0 := by omega
  simp only [Bool.or_eq_true, Bool.and_eq_true, decide_eq_true_eq, beq_iff_eq, e1, e2, e3, e4, e5, e6]

set_option linter.unusedSimpArgs false in
set_option maxRecDepth 100000 in
set_option maxHeartbeats 1000000 in
theorem legal_any (s : ByteArray) (w : World) : Calls Tryd.prog 34 #[.string s] w fun e w' => e = .returned (.bool (legal s.data.toList)) ∧ Keeps (fun _ => False) w w' := by
  have hll : s.data.toList.length = s.size := Array.length_toList
  by_cases hsz : s.size < 1 ∨ 32 < s.size
  · have hr : legal s.data.toList = false := by unfold legal; rw [hll, if_pos hsz]
    rw [hr]
    clear hr hll
    by_cases h1 : s.size < 1
    · have b1 : decide ((s.size : Int) < 1) = true := by simp; omega
      clear hsz h1
      go_enter Tryd.func34, Tryd.ntmps34
      go_wp2_with fail
      go_ret
      exact ⟨rfl, Keeps.refl _ _⟩
    · have b1 : decide ((s.size : Int) < 1) = false := by simp; omega
      have b2 : decide ((32 : Int) < (s.size : Int)) = true := by simp; omega
      clear hsz h1
      go_enter Tryd.func34, Tryd.ntmps34
      go_wp2_with fail
      go_ret
      exact ⟨rfl, Keeps.refl _ _⟩
  · have hr : legal s.data.toList = legalFrom (s.data.toList.drop 0) 0 := by unfold legal; rw [hll, if_neg hsz]; rfl
    have Hr := hid hr
    have Hll := hid hll
    generalize legal s.data.toList = R at *
    clear hr hll
    have b1 : decide ((s.size : Int) < 1) = false := by simp; omega
    have b2 : decide ((32 : Int) < (s.size : Int)) = false := by simp; omega
    have hs32 : s.size ≤ 32 := by omega
    clear hsz
    go_enter Tryd.func34, Tryd.ntmps34
    go_wp2_with fail
    go_loopw [15] (fun x wr => ∃ k : Nat, k ≤ s.size ∧ x = .int .i64 k ∧ Hid (R = legalFrom (s.data.toList.drop k) k) ∧ Keeps (fun _ => False) w wr) (fun x _ => s.size - (intOf x).toNat)
    case atStart => exact ⟨0, Nat.zero_le _, rfl, Hr, Keeps.refl _ _⟩
    case round =>
      clear Hr
      obtain ⟨k, hk, rfl, Hq, hK⟩ := hrel
      by_cases hlt : k < s.size
      · have b3 : decide ((k : Int) < (s.size : Int)) = true := by simp; omega
        have i0 : (0 : Int) ≤ (k : Int) := by omega
        have i1 : (k : Int) < (s.size : Int) := by omega
        have hq := Hq.out
        rw [legalFrom_at (by rw [Hll.out]; exact hlt)] at hq
        have hget : s.data.toList[k]'(by rw [Hll.out]; exact hlt) = s[k] := rfl
        rw [hget] at hq
        have Hq2 := hid hq
        clear hq hget Hq
        by_cases hk0 : k = 0
        · subst hk0
          go_wp2_with fail
          all_goals
            have hq := Hq2.out
            have hb := Hll.out
            first
              | (go_ret; refine ⟨ret_bool ?_, hK⟩; rw [hq, if_neg]; simp only [Bool.not_eq_true', decide_eq_true_eq, decide_eq_false_iff_not] at *; omega)
              | (refine ⟨⟨1, by omega, rfl, hid ?_, hK⟩, by simp [intOf]; omega⟩; rw [hq, if_pos]; simp only [Bool.not_eq_true', decide_eq_true_eq, decide_eq_false_iff_not, Bool.not_eq_false', Bool.and_eq_false_iff, Bool.and_eq_true, Bool.or_eq_true, Bool.or_eq_false_iff, bne_eq_false_iff_eq] at *; omega)
        · have b4 : ((k : Int) == 0) = false := by simp; omega
          go_wp2_with fail
          all_goals
            have hq := Hq2.out
            have hb := Hll.out
            first
              | (go_ret; refine ⟨ret_bool ?_, hK⟩; rw [hq, if_neg]; simp only [Bool.not_eq_true', decide_eq_true_eq, decide_eq_false_iff_not] at *; omega)
              | (refine ⟨⟨k + 1, by omega, by go_num, hid ?_, hK⟩, by simp [intOf]; omega⟩; rw [hq, if_pos]; simp only [Bool.not_eq_true', decide_eq_true_eq, decide_eq_false_iff_not, Bool.not_eq_false', Bool.and_eq_false_iff, Bool.and_eq_true, Bool.or_eq_true, Bool.or_eq_false_iff, bne_eq_false_iff_eq] at *; omega)
      · have b3 : decide ((k : Int) < (s.size : Int)) = false := by simp; omega
        go_wp2_with fail
        go_ret
        refine ⟨?_, hK⟩
        rw [Hq.out, List.drop_eq_nil_of_le (by rw [Hll.out]; omega)]; rfl
end Go.Proofs.YtkaecdkmalppcaaDoor
