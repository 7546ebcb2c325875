/-
  Texts Ra Rl Rb Rf in one.
-/
import Derived.Test.YtnkjjhenfhnajaaGreatDoorG05
import Derived.Test.YtnkjjhenfhnajaaGreatDoorG12
import Derived.Test.YtnkjjhenfhnajaaGreatDoorG06
/-
  The reference's small tests, walked: keelref4.Begins, gap.
-/
namespace Go.Proofs.YtnkjjhenfhnajaaGreatDoor
open Go.RowKit Go.Kw Go.Kreg Go.Tm

set_option maxRecDepth 100000 in
theorem gapR_any (w : World) (n : Int) : Calls Tryz.prog 168 #[.int .i64 n] w fun e w' => e = .returned (.bool (gapOk n)) ∧ w = w' := by
  by_cases h0 : 0 ≤ n
  · have b1 : decide (0 ≤ n) = true := by simpa using h0
    by_cases h1 : n ≤ 1048576
    · have b2 : decide (n ≤ 1048576) = true := by simpa using h1
      rw [show gapOk n = true by unfold gapOk; rw [b1, b2]; rfl]
      clear h0 h1
      go_enter Tryz.func168, Tryz.ntmps168
      go_wp2_with fail
      go_ret
      exact ⟨rfl, rfl⟩
    · have b2 : decide (n ≤ 1048576) = false := by simpa using h1
      rw [show gapOk n = false by unfold gapOk; rw [b1, b2]; rfl]
      clear h0 h1
      go_enter Tryz.func168, Tryz.ntmps168
      go_wp2_with fail
      go_ret
      exact ⟨rfl, rfl⟩
  · have b1 : decide (0 ≤ n) = false := by simpa using h0
    rw [show gapOk n = false by unfold gapOk; rw [b1]; rfl]
    clear h0
    go_enter Tryz.func168, Tryz.ntmps168
    go_wp2_with fail
    go_ret
    exact ⟨rfl, rfl⟩

section
variable {w : World} {v : Value}
end
end Go.Proofs.YtnkjjhenfhnajaaGreatDoor

/-
  keelref3.Legal, walked.
-/
namespace Go.Proofs.YtnkjjhenfhnajaaGreatDoor
open Go.RowKit Go.Kw Go.Kreg Go.Cm

set_option maxRecDepth 100000 in
set_option maxHeartbeats 4000000 in
theorem legalR_any (s : ByteArray) (hs : s.size ≤ 9223372036854775807) (w : World) : Calls Tryz.prog 142 #[.string s] w fun e w' => e = .returned (.bool (legal s.data.toList)) ∧ Keeps (fun _ => False) w w' := by
  have hll : s.data.toList.length = s.size := Array.length_toList
  have hy := @legal_yes s.data.toList
  have hn := @legal_no s.data.toList
  rw [hll] at hy
  obtain ⟨b, hb⟩ : ∃ b, legalFrom (s.data.toList.drop 0) 0 = b := ⟨_, rfl⟩
  have Hb := hid hb.symm
  have Hll := hid hll
  have Hy := hid hy
  have Hn := hid hn
  clear hy hn hll
  rw [hb] at Hy Hn
  clear hb
  generalize legal s.data.toList = R at *
  go_enter Tryz.func142, Tryz.ntmps142
  go_wp2_with fail
  go_loopw [3] (fun x wr => ∃ k : Nat, k ≤ s.size ∧ x = .int .i64 k ∧ Hid (b = legalFrom (s.data.toList.drop k) k) ∧ Keeps (fun _ => False) w wr) (fun x _ => s.size - (intOf x).toNat)
  case atStart => exact ⟨0, Nat.zero_le _, rfl, Hb, Keeps.refl _ _⟩
  case round =>
    clear Hb
    obtain ⟨k, hk, rfl, Hq, hK⟩ := hrel
    by_cases hlt : k < s.size
    · have b3 : decide ((k : Int) < (s.size : Int)) = true := by simp; omega
      have i0 : (0 : Int) ≤ (k : Int) := by omega
      have i1 : (k : Int) < (s.size : Int) := by omega
      have hq := Hq.out
      rw [legalFrom_at (by rw [Hll.out]; exact hlt)] at hq
      have hget : s.data.toList[k]'(by rw [Hll.out]; exact hlt) = s[k] := rfl
      rw [hget] at hq
      have Hq2 := hid hq
      clear hq hget Hq
      have hnk := Hn.out
      by_cases h1 : 97 ≤ (s[k].toNat : Int)
      · have c1 : decide (97 ≤ (s[k].toNat : Int)) = true := by simpa using h1
        by_cases h2 : (s[k].toNat : Int) ≤ 122
        · have c2 : decide ((s[k].toNat : Int) ≤ 122) = true := by simpa using h2
          have hq3 : b = legalFrom (s.data.toList.drop (k + 1)) (k + 1) := by rw [Hq2.out, if_pos (by omega)]
          have Hq3 := hid hq3
          clear hq3 Hq2 hnk
          go_wp2_with fail
          go_roundw
          case rel => exact ⟨k + 1, by omega, by go_num, Hq3, hK⟩
          case measure => simp [intOf]; omega
        · have c2 : decide ((s[k].toNat : Int) ≤ 122) = false := by simpa using h2
          by_cases h3 : (k : Int) = 0
          · have c3 : ((k : Int) == 0) = true := by simpa using h3
            have hR : R = false := hnk (by rw [Hq2.out, if_neg (by omega)])
            subst hR
            clear h3
            go_wp2_with fail
            go_ret
            exact ⟨rfl, hK⟩
          · have c3 : ((k : Int) == 0) = false := by simpa using h3
            by_cases h4 : (s[k].toNat : Int) = 45
            · have c4 : ((s[k].toNat : Int) != 45) = false := by simpa using h4
              have hq3 : b = legalFrom (s.data.toList.drop (k + 1)) (k + 1) := by rw [Hq2.out, if_pos (by omega)]
              have Hq3 := hid hq3
              clear hq3 Hq2 hnk
              go_wp2_with fail
              go_roundw
              case rel => exact ⟨k + 1, by omega, by go_num, Hq3, hK⟩
              case measure => simp [intOf]; omega
            · have c4 : ((s[k].toNat : Int) != 45) = true := by simpa using h4
              by_cases h5 : (s[k].toNat : Int) < 48
              · have c5 : decide ((s[k].toNat : Int) < 48) = true := by simpa using h5
                have hR : R = false := hnk (by rw [Hq2.out, if_neg (by omega)])
                subst hR
                clear h3
                go_wp2_with fail
                go_ret
                exact ⟨rfl, hK⟩
              · have c5 : decide ((s[k].toNat : Int) < 48) = false := by simpa using h5
                by_cases h6 : 57 < (s[k].toNat : Int)
                · have c6 : decide (57 < (s[k].toNat : Int)) = true := by simpa using h6
                  have hR : R = false := hnk (by rw [Hq2.out, if_neg (by omega)])
                  subst hR
                  clear h3
                  go_wp2_with fail
                  go_ret
                  exact ⟨rfl, hK⟩
                · have c6 : decide (57 < (s[k].toNat : Int)) = false := by simpa using h6
                  have hq3 : b = legalFrom (s.data.toList.drop (k + 1)) (k + 1) := by rw [Hq2.out, if_pos (by omega)]
                  have Hq3 := hid hq3
                  clear hq3 Hq2 hnk
                  go_wp2_with fail
                  go_roundw
                  case rel => exact ⟨k + 1, by omega, by go_num, Hq3, hK⟩
                  case measure => simp [intOf]; omega
      · have c1 : decide (97 ≤ (s[k].toNat : Int)) = false := by simpa using h1
        by_cases h3 : (k : Int) = 0
        · have c3 : ((k : Int) == 0) = true := by simpa using h3
          have hR : R = false := hnk (by rw [Hq2.out, if_neg (by omega)])
          subst hR
          clear h3
          go_wp2_with fail
          go_ret
          exact ⟨rfl, hK⟩
        · have c3 : ((k : Int) == 0) = false := by simpa using h3
          by_cases h4 : (s[k].toNat : Int) = 45
          · have c4 : ((s[k].toNat : Int) != 45) = false := by simpa using h4
            have hq3 : b = legalFrom (s.data.toList.drop (k + 1)) (k + 1) := by rw [Hq2.out, if_pos (by omega)]
            have Hq3 := hid hq3
            clear hq3 Hq2 hnk
            go_wp2_with fail
            go_roundw
            case rel => exact ⟨k + 1, by omega, by go_num, Hq3, hK⟩
            case measure => simp [intOf]; omega
          · have c4 : ((s[k].toNat : Int) != 45) = true := by simpa using h4
            by_cases h5 : (s[k].toNat : Int) < 48
            · have c5 : decide ((s[k].toNat : Int) < 48) = true := by simpa using h5
              have hR : R = false := hnk (by rw [Hq2.out, if_neg (by omega)])
              subst hR
              clear h3
              go_wp2_with fail
              go_ret
              exact ⟨rfl, hK⟩
            · have c5 : decide ((s[k].toNat : Int) < 48) = false := by simpa using h5
              by_cases h6 : 57 < (s[k].toNat : Int)
              · have c6 : decide (57 < (s[k].toNat : Int)) = true := by simpa using h6
                have hR : R = false := hnk (by rw [Hq2.out, if_neg (by omega)])
                subst hR
                clear h3
                go_wp2_with fail
                go_ret
                exact ⟨rfl, hK⟩
              · have c6 : decide (57 < (s[k].toNat : Int)) = false := by simpa using h6
                have hq3 : b = legalFrom (s.data.toList.drop (k + 1)) (k + 1) := by rw [Hq2.out, if_pos (by omega)]
                have Hq3 := hid hq3
                clear hq3 Hq2 hnk
                go_wp2_with fail
                go_roundw
                case rel => exact ⟨k + 1, by omega, by go_num, Hq3, hK⟩
                case measure => simp [intOf]; omega
    · have b3 : decide ((k : Int) < (s.size : Int)) = false := by simp; omega
      have hbt : b = true := by rw [Hq.out, List.drop_eq_nil_of_le (by rw [Hll.out]; omega)]; rfl
      have hr := Hy.out hbt
      have Hr := hid hr
      clear hr
      by_cases h1 : 1 ≤ s.size
      · have c1 : decide ((1 : Int) ≤ (s.size : Int)) = true := by simp; omega
        by_cases h2 : s.size ≤ 32
        · have c2 : decide ((s.size : Int) ≤ 32) = true := by simp; omega
          have hR : R = true := by rw [Hr.out]; simp [h1, h2]
          subst hR
          go_wp2_with fail
          go_ret
          exact ⟨rfl, hK⟩
        · have c2 : decide ((s.size : Int) ≤ 32) = false := by simp; omega
          have hR : R = false := by rw [Hr.out]; simp [h2]
          subst hR
          go_wp2_with fail
          go_ret
          exact ⟨rfl, hK⟩
      · have c1 : decide ((1 : Int) ≤ (s.size : Int)) = false := by simp; omega
        have hR : R = false := by rw [Hr.out]; simp [h1]
        subst hR
        go_wp2_with fail
        go_ret
        exact ⟨rfl, hK⟩
end Go.Proofs.YtnkjjhenfhnajaaGreatDoor

/-
  keelref3.bound and form, walked.
-/
namespace Go.Proofs.YtnkjjhenfhnajaaGreatDoor
open Go.RowKit Go.Kw Go.Kreg Go.Cm

/-- The letters of the places. -/
def placeB : Cm.Place → Int
  | .r => 82 | .u => 78 | .s => 83 | .v => 86
set_option maxRecDepth 100000 in
set_option maxHeartbeats 1000000 in
theorem boundR_any (w : World) (p : Cm.Place) (n : Int) : Calls Tryz.prog 189 #[.int .u8 (placeB p), .int .i64 n] w fun e w' => e = .returned (.bool (okP p n)) ∧ w = w' := by
  cases p with
  | r =>
    have hok : (0 ≤ n ∧ n < 16) → okP .r n = true := fun h => by simpa [okP] using h
    have hno : ¬ (0 ≤ n ∧ n < 16) → okP .r n = false := fun h => by simpa [okP] using h
    show Calls Tryz.prog 189 #[.int .u8 82, .int .i64 n] w _
    by_cases h0 : 0 ≤ n
    · have b1 : decide (0 ≤ n) = true := by simpa using h0
      by_cases h1 : n < 16
      · have b2 : decide (n < 16) = true := by simpa using h1
        have hR : okP _ n = true := hok (by omega)
        rw [hR]
        clear h0 h1 hR hok hno
        go_enter Tryz.func189, Tryz.ntmps189
        go_wp2_with fail
        go_ret
        exact ⟨rfl, rfl⟩
      · have b2 : decide (n < 16) = false := by simpa using h1
        have hR : okP _ n = false := hno (by omega)
        rw [hR]
        clear h0 h1 hR hok hno
        go_enter Tryz.func189, Tryz.ntmps189
        go_wp2_with fail
        go_ret
        exact ⟨rfl, rfl⟩
    · have b1 : decide (0 ≤ n) = false := by simpa using h0
      have hR : okP _ n = false := hno (by omega)
      rw [hR]
      clear h0 hR hok hno
      go_enter Tryz.func189, Tryz.ntmps189
      go_wp2_with fail
      go_ret
      exact ⟨rfl, rfl⟩
  | u =>
    have hok : (1 ≤ n ∧ n ≤ 255) → okP .u n = true := fun h => by simpa [okP] using h
    have hno : ¬ (1 ≤ n ∧ n ≤ 255) → okP .u n = false := fun h => by simpa [okP] using h
    show Calls Tryz.prog 189 #[.int .u8 78, .int .i64 n] w _
    by_cases h0 : 1 ≤ n
    · have b1 : decide (1 ≤ n) = true := by simpa using h0
      by_cases h1 : n ≤ 255
      · have b2 : decide (n ≤ 255) = true := by simpa using h1
        have hR : okP _ n = true := hok (by omega)
        rw [hR]
        clear h0 h1 hR hok hno
        go_enter Tryz.func189, Tryz.ntmps189
        go_wp2_with fail
        go_ret
        exact ⟨rfl, rfl⟩
      · have b2 : decide (n ≤ 255) = false := by simpa using h1
        have hR : okP _ n = false := hno (by omega)
        rw [hR]
        clear h0 h1 hR hok hno
        go_enter Tryz.func189, Tryz.ntmps189
        go_wp2_with fail
        go_ret
        exact ⟨rfl, rfl⟩
    · have b1 : decide (1 ≤ n) = false := by simpa using h0
      have hR : okP _ n = false := hno (by omega)
      rw [hR]
      clear h0 hR hok hno
      go_enter Tryz.func189, Tryz.ntmps189
      go_wp2_with fail
      go_ret
      exact ⟨rfl, rfl⟩
  | s =>
    have hok : (1 ≤ n ∧ n ≤ 4096) → okP .s n = true := fun h => by simpa [okP] using h
    have hno : ¬ (1 ≤ n ∧ n ≤ 4096) → okP .s n = false := fun h => by simpa [okP] using h
    show Calls Tryz.prog 189 #[.int .u8 83, .int .i64 n] w _
    by_cases h0 : 1 ≤ n
    · have b1 : decide (1 ≤ n) = true := by simpa using h0
      by_cases h1 : n ≤ 4096
      · have b2 : decide (n ≤ 4096) = true := by simpa using h1
        have hR : okP _ n = true := hok (by omega)
        rw [hR]
        clear h0 h1 hR hok hno
        go_enter Tryz.func189, Tryz.ntmps189
        go_wp2_with fail
        go_ret
        exact ⟨rfl, rfl⟩
      · have b2 : decide (n ≤ 4096) = false := by simpa using h1
        have hR : okP _ n = false := hno (by omega)
        rw [hR]
        clear h0 h1 hR hok hno
        go_enter Tryz.func189, Tryz.ntmps189
        go_wp2_with fail
        go_ret
        exact ⟨rfl, rfl⟩
    · have b1 : decide (1 ≤ n) = false := by simpa using h0
      have hR : okP _ n = false := hno (by omega)
      rw [hR]
      clear h0 hR hok hno
      go_enter Tryz.func189, Tryz.ntmps189
      go_wp2_with fail
      go_ret
      exact ⟨rfl, rfl⟩
  | v =>
    show Calls Tryz.prog 189 #[.int .u8 86, .int .i64 n] w _
    rw [show okP .v n = true from rfl]
    go_enter Tryz.func189, Tryz.ntmps189
    go_wp2_with fail
    go_ret
    exact ⟨rfl, rfl⟩
end Go.Proofs.YtnkjjhenfhnajaaGreatDoor

/-
  keelref3.form and words, walked.
-/
namespace Go.Proofs.YtnkjjhenfhnajaaGreatDoor
open Go.RowKit Go.Kw Go.Kreg Go.Cm

/-- What stands behind an operation's word. -/
def formS : Nat → List UInt8
  | 1 => [82, 78] | 2 => [82] | 3 => [86] | 5 => [83] | 6 => [82] | 7 => [82] | 10 => [83, 66] | _ => []
set_option maxRecDepth 100000 in
set_option maxHeartbeats 4000000 in
theorem formR_any (w : World) (k : Nat) (hk : k < 12) : Calls Tryz.prog 187 #[.int .i64 k] w fun e w' => e = .returned (.string ⟨(formS k).toArray⟩) ∧ Keeps (fun _ => False) w w' := by
  have hc : k = 0 ∨ k = 1 ∨ k = 2 ∨ k = 3 ∨ k = 4 ∨ k = 5 ∨ k = 6 ∨ k = 7 ∨ k = 8 ∨ k = 9 ∨ k = 10 ∨ k = 11 := by omega
  rcases hc with rfl | rfl | rfl | rfl | rfl | rfl | rfl | rfl | rfl | rfl | rfl | rfl
  all_goals
    clear hk
    go_enter Tryz.func187, Tryz.ntmps187
    go_wp2_with fail
    go_ret
    exact ⟨rfl, (Keeps.refl _ _).alloc _⟩
/-- The words' row. -/
def wordsC : List Value := (List.range 12).map fun k => .string ⟨(rowW k).toArray⟩
set_option maxRecDepth 100000 in
theorem wordsR_any (w : World) : Calls Tryz.prog 186 #[] w fun e w' => ∃ g, e = .returned (.slice (some ⟨g, 0, none⟩) 12 12) ∧ St (fun _ => False) w [.pt g 9 wordsC] w' := by
  have HS := hid ((St.start w).new 9 wordsC)
  go_enter Tryz.func186, Tryz.ntmps186
  go_wp2_with fail
  go_ret
  exact ⟨_, rfl, HS.out⟩
end Go.Proofs.YtnkjjhenfhnajaaGreatDoor
