/-
  keelref3.Number, walked.
-/
import Derived.Test.YtnkjjhenfhnajaaGreatDoorG05
import Derived.Test.YtnkjjhenfhnajaaGreatDoorG17
namespace Go.Proofs.YtnkjjhenfhnajaaGreatDoor
open Go.RowKit Go.Kw Go.Kreg Go.Cm

theorem head_at {s : ByteArray} (h : 0 < s.size) (c : UInt8) : (s.data.toList.head? = some c) ↔ ((s[0].toNat : Int) = c.toNat) := by
  have hl : 0 < s.data.toList.length := by rw [Array.length_toList]; exact h
  have hg : s.data.toList[0] = s[0] := rfl
  rw [List.head?_eq_getElem?, List.getElem?_eq_getElem hl, hg, Option.some_inj, ← UInt8.toNat_inj]
  omega
set_option maxRecDepth 100000 in
set_option maxHeartbeats 8000000 in
theorem numberR_any (w : World) (s : ByteArray) (hs : s.size ≤ 9223372036854775807) : Calls Tryz.prog 188 #[.string s] w fun e w' => e = .returned (.tuple #[.int .i64 ((numR s.data.toList).getD 0), .bool (numR s.data.toList).isSome]) ∧ w = w' := by
  have hll : s.data.toList.length = s.size := Array.length_toList
  obtain ⟨R, hR⟩ : ∃ R, R = numR s.data.toList := ⟨_, rfl⟩
  have HR := hid hR
  rw [← hR]
  have Hll := hid hll
  clear hR hll
  by_cases h0 : 0 < s.size
  · have b1 : decide ((0 : Int) < (s.size : Int)) = true := by simp; omega
    by_cases hm : (s[0].toNat : Int) = 45
    · have b2 : ((s[0].toNat : Int) == 45) = true := by simpa using hm
      have hh := (head_at h0 45).2 hm
      obtain ⟨d, hd⟩ : ∃ d, s.extract 1 s.size = d := ⟨_, rfl⟩
      have hds : d.size = s.size - 1 := by rw [← hd]; simp [ByteArray.size_extract]
      have hdl : s.data.toList = 45 :: d.data.toList := by
        rw [← hd, ba_extract]
        unfold piece
        rw [show s.size - 1 = (s.data.toList.drop 1).length by rw [List.length_drop, Hll.out], List.take_length]
        cases hL : s.data.toList with
        | nil => rw [hL] at hh; cases hh
        | cons c l => rw [hL] at hh; have : c = 45 := by simpa using hh
                      rw [this]; rfl
      have HF : Hid (R = (magR true d.data.toList).bind (finR true)) := hid (by rw [HR.out, hdl, numR_neg])
      have hdb : d.size ≤ 9223372036854775807 := by omega
      have i3 : (1 : Int) ≤ (s.size : Int) := by omega
      clear hm hh hds hdl HR Hll
      go_enter Tryz.func188, Tryz.ntmps188
      have Hdl : Hid (d.data.toList.length = d.size) := hid Array.length_toList
      by_cases e0 : d.size = 0
      · have c1 : ((d.size : Int) == 0) = true := by simpa using e0
        have hR : R = none := by rw [HF.out]; exact mag_none (.inl (List.length_eq_zero_iff.1 (by rw [Hdl.out]; exact e0)))
        subst hR
        clear e0
        go_wp2_with fail
        go_ret2
        exact ⟨rfl, rfl⟩
      · have c1 : ((d.size : Int) == 0) = false := beq_false_of_ne (by omega)
        have i0 : 0 < d.size := by omega
        by_cases e1 : 19 < d.size
        · have c2 : decide ((19 : Int) < (d.size : Int)) = true := by simp; omega
          have hR : R = none := by rw [HF.out]; exact mag_none (.inr (.inl (by rw [Hdl.out]; exact e1)))
          subst hR
          go_wp2_with fail
          go_ret2
          exact ⟨rfl, rfl⟩
        · have c2 : decide ((19 : Int) < (d.size : Int)) = false := by simp; omega
          by_cases e2 : (d[0].toNat : Int) = 48 ∧ (1 < d.size ∨ true = true)
          · have c3 : ((d[0].toNat : Int) == 48) = true := by simpa using e2.1
            have hR : R = none := by rw [HF.out]; exact mag_none (.inr (.inr ⟨(head_at i0 48).2 e2.1, e2.2.imp_left fun h => by rw [Hdl.out]; exact h⟩))
            subst hR
            by_cases e3 : 1 < d.size
            · have c4 : decide ((1 : Int) < (d.size : Int)) = true := by simp; omega
              clear e2
              go_wp2_with fail
              go_ret2
              exact ⟨rfl, rfl⟩
            · have c4 : decide ((1 : Int) < (d.size : Int)) = false := by simp; omega
              have e4 : true = true := e2.2.resolve_left e3
              first
                | cases e4; done
                | (clear e2 e4; go_wp2_with fail; go_ret2; exact ⟨rfl, rfl⟩)
          · have hat : R = atR true d.data.toList 0 := by
              rw [HF.out]
              refine mag_at ?_
              rintro (h | h | ⟨h, h'⟩)
              · rw [← List.length_eq_zero_iff, Hdl.out] at h; omega
              · rw [Hdl.out] at h; omega
              · exact e2 ⟨(head_at i0 48).1 h, h'.imp_left fun h => by rw [Hdl.out] at h; exact h⟩
            have Hat := hid hat
            clear hat HF
            have hgo : ((d[0].toNat : Int) == 48) = false ∨ ((d[0].toNat : Int) == 48) = true ∧ decide ((1 : Int) < (d.size : Int)) = false ∧ true = false := by
              by_cases h : (d[0].toNat : Int) = 48
              · refine .inr ⟨by simpa using h, ?_, ?_⟩
                · have : ¬ 1 < d.size := fun hh => e2 ⟨h, .inl hh⟩
                  exact decide_eq_false (by omega)
                · first
                    | rfl
                    | exact absurd ⟨h, .inr rfl⟩ e2
              · exact .inl (beq_false_of_ne h)
            clear e2
            rcases hgo with c3 | ⟨c3, c4, c5⟩
            · go_wp2_with fail
              go_loopw [7, 6] (fun x y wr => ∃ k : Nat, k ≤ d.size ∧ x = .int .i64 k ∧ y = .int .u64 (valD 0 (d.data.toList.take k)) ∧ Hid (R = atR true d.data.toList k ∧ valD 0 (d.data.toList.take k) < 10 ^ k) ∧ w = wr) (fun x _ _ => d.size - (intOf x).toNat)
              case atStart => exact ⟨0, Nat.zero_le _, rfl, rfl, hid ⟨Hat.out, by simp [valD]⟩, rfl⟩
              case round =>
                obtain ⟨k, hk, rfl, rfl, HQ, rfl⟩ := hrel
                by_cases hlt : k < d.size
                · have a1 : decide (k < d.size) = true := by simpa using hlt
                  have i1 : (0 : Int) ≤ (k : Int) := by omega
                  have i2 : (k : Int) < (d.size : Int) := by omega
                  by_cases h5 : (d[k].toNat : Int) < 48
                  · have c5 : decide ((d[k].toNat : Int) < 48) = true := by simpa using h5
                    have hR : R = none := by rw [HQ.out.1]; exact atR_no (by rw [Hdl.out]; exact hlt) (fun e => by have e1 : 48 ≤ (d[k]).toNat := e.1; have e2 : (d[k]).toNat ≤ 57 := e.2; omega)
                    subst hR
                    go_wp2_with fail
                    go_ret2
                    exact ⟨rfl, rfl⟩
                  · have c5 : decide ((d[k].toNat : Int) < 48) = false := by simpa using h5
                    by_cases h6 : 57 < (d[k].toNat : Int)
                    · have c6 : decide (57 < (d[k].toNat : Int)) = true := by simpa using h6
                      have hR : R = none := by rw [HQ.out.1]; exact atR_no (by rw [Hdl.out]; exact hlt) (fun e => by have e1 : 48 ≤ (d[k]).toNat := e.1; have e2 : (d[k]).toNat ≤ 57 := e.2; omega)
                      subst hR
                      go_wp2_with fail
                      go_ret2
                      exact ⟨rfl, rfl⟩
                    · have c6 : decide (57 < (d[k].toNat : Int)) = false := by simpa using h6
                      have hl' : k < d.data.toList.length := by rw [Hdl.out]; exact hlt
                      have hg : d.data.toList[k] = d[k] := rfl
                      have hq := HQ.out.1
                      rw [atR_yes hl' (by rw [hg]; omega)] at hq
                      have hv := valD_take hl'
                      have h19 : (10 : Nat) ^ k ≤ 10 ^ 18 := Nat.pow_le_pow_right (by omega) (by omega)
                      have hlt2 := HQ.out.2
                      have hp10 : (10 : Nat) ^ (k + 1) = 10 ^ k * 10 := Nat.pow_succ ..
                      rw [hg] at hv
                      generalize 10 ^ k = P at *
                      have hv2 : valD 0 ((d).data.toList.take (k + 1)) < 10 ^ (k + 1) := by rw [hp10, hv]; omega
                      have hb1 : valD 0 (d.data.toList.take k) * 10 + (d[k].toNat - 48) < 18446744073709551616 := by omega
                      have Hv := hid hv
                      have HQ2 := hid (And.intro hq hv2)
                      clear HQ hq hv hlt2 hp10 hv2 h19 hg
                      generalize valD 0 (d.data.toList.take k) = V at *
                      go_wp2_with fail
                      go_roundw
                      case rel => exact ⟨k + 1, by omega, by go_num, by rw [Hv.out]; go_num, HQ2, by first | rfl | trivial⟩
                      case measure => simp [intOf]; omega
                · have a1 : decide (k < d.size) = false := by simpa using hlt
                  obtain rfl : k = d.size := by omega
                  have hq := HQ.out.1
                  have hv := HQ.out.2
                  have h19 : (10 : Nat) ^ d.size ≤ 10 ^ 19 := Nat.pow_le_pow_right (by omega) (by omega)
                  rw [← Hdl.out, atR_end] at hq
                  rw [← Hdl.out, List.take_length, Hdl.out] at hv
                  have hb1 : valD 0 d.data.toList < 18446744073709551616 := by omega
                  rw [show d.data.toList.take d.size = d.data.toList by rw [← Hdl.out, List.take_length]]
                  generalize valD 0 d.data.toList = V at *
                  clear hv h19 HQ
                  unfold finR at hq
                  rw [if_pos rfl] at hq
                  by_cases hV : 9223372036854775808 < V
                  · have c9 : decide ((9223372036854775808 : Int) < (V : Int)) = true := by simp; omega
                    rw [if_pos hV] at hq
                    subst hq
                    clear hV
                    go_wp2_with fail
                    go_ret2
                    exact ⟨rfl, rfl⟩
                  · have c9 : decide ((9223372036854775808 : Int) < (V : Int)) = false := by simp; omega
                    rw [if_neg hV] at hq
                    subst hq
                    go_wp2_with fail
                    go_ret2
                    refine ⟨?_, rfl⟩
                    refine congrArg (fun n => Ending.returned (.tuple #[.int .i64 n, .bool true])) (?_ : _ = -(V:Int))
                    have hV : V ≤ 9223372036854775808 := by omega
                    show wrap64 (IntKind.u64.wrap (-(V : Int))) = -(V : Int)
                    simp only [wrap64, IntKind.wrap, IntKind.bits, IntKind.signed]
                    first | omega | (simp; omega) | (trace_state; sorry)
            · cases c5
    · have b2 : ((s[0].toNat : Int) == 45) = false := by simpa using hm
      have HF : Hid (R = (magR false s.data.toList).bind (finR false)) := hid (by rw [HR.out, numR_pos (fun h => hm ((head_at h0 45).1 h))])
      clear hm HR Hll
      go_enter Tryz.func188, Tryz.ntmps188
      have Hdl : Hid (s.data.toList.length = s.size) := hid Array.length_toList
      by_cases e0 : s.size = 0
      · have c1 : ((s.size : Int) == 0) = true := by simpa using e0
        have hR : R = none := by rw [HF.out]; exact mag_none (.inl (List.length_eq_zero_iff.1 (by rw [Hdl.out]; exact e0)))
        subst hR
        clear e0
        go_wp2_with fail
        go_ret2
        exact ⟨rfl, rfl⟩
      · have c1 : ((s.size : Int) == 0) = false := beq_false_of_ne (by omega)
        have i0 : 0 < s.size := by omega
        by_cases e1 : 19 < s.size
        · have c2 : decide ((19 : Int) < (s.size : Int)) = true := by simp; omega
          have hR : R = none := by rw [HF.out]; exact mag_none (.inr (.inl (by rw [Hdl.out]; exact e1)))
          subst hR
          go_wp2_with fail
          go_ret2
          exact ⟨rfl, rfl⟩
        · have c2 : decide ((19 : Int) < (s.size : Int)) = false := by simp; omega
          by_cases e2 : (s[0].toNat : Int) = 48 ∧ (1 < s.size ∨ false = true)
          · have c3 : ((s[0].toNat : Int) == 48) = true := by simpa using e2.1
            have hR : R = none := by rw [HF.out]; exact mag_none (.inr (.inr ⟨(head_at i0 48).2 e2.1, e2.2.imp_left fun h => by rw [Hdl.out]; exact h⟩))
            subst hR
            by_cases e3 : 1 < s.size
            · have c4 : decide ((1 : Int) < (s.size : Int)) = true := by simp; omega
              clear e2
              go_wp2_with fail
              go_ret2
              exact ⟨rfl, rfl⟩
            · have c4 : decide ((1 : Int) < (s.size : Int)) = false := by simp; omega
              have e4 : false = true := e2.2.resolve_left e3
              first
                | cases e4; done
                | (clear e2 e4; go_wp2_with fail; go_ret2; exact ⟨rfl, rfl⟩)
          · have hat : R = atR false s.data.toList 0 := by
              rw [HF.out]
              refine mag_at ?_
              rintro (h | h | ⟨h, h'⟩)
              · rw [← List.length_eq_zero_iff, Hdl.out] at h; omega
              · rw [Hdl.out] at h; omega
              · exact e2 ⟨(head_at i0 48).1 h, h'.imp_left fun h => by rw [Hdl.out] at h; exact h⟩
            have Hat := hid hat
            clear hat HF
            have hgo : ((s[0].toNat : Int) == 48) = false ∨ ((s[0].toNat : Int) == 48) = true ∧ decide ((1 : Int) < (s.size : Int)) = false ∧ false = false := by
              by_cases h : (s[0].toNat : Int) = 48
              · refine .inr ⟨by simpa using h, ?_, ?_⟩
                · have : ¬ 1 < s.size := fun hh => e2 ⟨h, .inl hh⟩
                  exact decide_eq_false (by omega)
                · first
                    | rfl
                    | exact absurd ⟨h, .inr rfl⟩ e2
              · exact .inl (beq_false_of_ne h)
            clear e2
            rcases hgo with c3 | ⟨c3, c4, c5⟩
            · go_wp2_with fail
              go_loopw [7, 6] (fun x y wr => ∃ k : Nat, k ≤ s.size ∧ x = .int .i64 k ∧ y = .int .u64 (valD 0 (s.data.toList.take k)) ∧ Hid (R = atR false s.data.toList k ∧ valD 0 (s.data.toList.take k) < 10 ^ k) ∧ w = wr) (fun x _ _ => s.size - (intOf x).toNat)
              case atStart => exact ⟨0, Nat.zero_le _, rfl, rfl, hid ⟨Hat.out, by simp [valD]⟩, rfl⟩
              case round =>
                obtain ⟨k, hk, rfl, rfl, HQ, rfl⟩ := hrel
                by_cases hlt : k < s.size
                · have a1 : decide (k < s.size) = true := by simpa using hlt
                  have i1 : (0 : Int) ≤ (k : Int) := by omega
                  have i2 : (k : Int) < (s.size : Int) := by omega
                  by_cases h5 : (s[k].toNat : Int) < 48
                  · have c5 : decide ((s[k].toNat : Int) < 48) = true := by simpa using h5
                    have hR : R = none := by rw [HQ.out.1]; exact atR_no (by rw [Hdl.out]; exact hlt) (fun e => by have e1 : 48 ≤ (s[k]).toNat := e.1; have e2 : (s[k]).toNat ≤ 57 := e.2; omega)
                    subst hR
                    go_wp2_with fail
                    go_ret2
                    exact ⟨rfl, rfl⟩
                  · have c5 : decide ((s[k].toNat : Int) < 48) = false := by simpa using h5
                    by_cases h6 : 57 < (s[k].toNat : Int)
                    · have c6 : decide (57 < (s[k].toNat : Int)) = true := by simpa using h6
                      have hR : R = none := by rw [HQ.out.1]; exact atR_no (by rw [Hdl.out]; exact hlt) (fun e => by have e1 : 48 ≤ (s[k]).toNat := e.1; have e2 : (s[k]).toNat ≤ 57 := e.2; omega)
                      subst hR
                      go_wp2_with fail
                      go_ret2
                      exact ⟨rfl, rfl⟩
                    · have c6 : decide (57 < (s[k].toNat : Int)) = false := by simpa using h6
                      have hl' : k < s.data.toList.length := by rw [Hdl.out]; exact hlt
                      have hg : s.data.toList[k] = s[k] := rfl
                      have hq := HQ.out.1
                      rw [atR_yes hl' (by rw [hg]; omega)] at hq
                      have hv := valD_take hl'
                      have h19 : (10 : Nat) ^ k ≤ 10 ^ 18 := Nat.pow_le_pow_right (by omega) (by omega)
                      have hlt2 := HQ.out.2
                      have hp10 : (10 : Nat) ^ (k + 1) = 10 ^ k * 10 := Nat.pow_succ ..
                      rw [hg] at hv
                      generalize 10 ^ k = P at *
                      have hv2 : valD 0 ((s).data.toList.take (k + 1)) < 10 ^ (k + 1) := by rw [hp10, hv]; omega
                      have hb1 : valD 0 (s.data.toList.take k) * 10 + (s[k].toNat - 48) < 18446744073709551616 := by omega
                      have Hv := hid hv
                      have HQ2 := hid (And.intro hq hv2)
                      clear HQ hq hv hlt2 hp10 hv2 h19 hg
                      generalize valD 0 (s.data.toList.take k) = V at *
                      go_wp2_with fail
                      go_roundw
                      case rel => exact ⟨k + 1, by omega, by go_num, by rw [Hv.out]; go_num, HQ2, by first | rfl | trivial⟩
                      case measure => simp [intOf]; omega
                · have a1 : decide (k < s.size) = false := by simpa using hlt
                  obtain rfl : k = s.size := by omega
                  have hq := HQ.out.1
                  have hv := HQ.out.2
                  have h19 : (10 : Nat) ^ s.size ≤ 10 ^ 19 := Nat.pow_le_pow_right (by omega) (by omega)
                  rw [← Hdl.out, atR_end] at hq
                  rw [← Hdl.out, List.take_length, Hdl.out] at hv
                  have hb1 : valD 0 s.data.toList < 18446744073709551616 := by omega
                  rw [show s.data.toList.take s.size = s.data.toList by rw [← Hdl.out, List.take_length]]
                  generalize valD 0 s.data.toList = V at *
                  clear hv h19 HQ
                  unfold finR at hq
                  rw [if_neg (by decide)] at hq
                  by_cases hV : 9223372036854775808 ≤ V
                  · have c9 : decide ((9223372036854775808 : Int) ≤ (V : Int)) = true := by simp; omega
                    rw [if_pos hV] at hq
                    subst hq
                    clear hV
                    go_wp2_with fail
                    go_ret2
                    exact ⟨rfl, rfl⟩
                  · have c9 : decide ((9223372036854775808 : Int) ≤ (V : Int)) = false := by simp; omega
                    rw [if_neg hV] at hq
                    subst hq
                    go_wp2_with fail
                    go_ret2
                    exact ⟨rfl, rfl⟩
            · clear c5
              go_wp2_with fail
              go_loopw [7, 6] (fun x y wr => ∃ k : Nat, k ≤ s.size ∧ x = .int .i64 k ∧ y = .int .u64 (valD 0 (s.data.toList.take k)) ∧ Hid (R = atR false s.data.toList k ∧ valD 0 (s.data.toList.take k) < 10 ^ k) ∧ w = wr) (fun x _ _ => s.size - (intOf x).toNat)
              case atStart => exact ⟨0, Nat.zero_le _, rfl, rfl, hid ⟨Hat.out, by simp [valD]⟩, rfl⟩
              case round =>
                obtain ⟨k, hk, rfl, rfl, HQ, rfl⟩ := hrel
                by_cases hlt : k < s.size
                · have a1 : decide (k < s.size) = true := by simpa using hlt
                  have i1 : (0 : Int) ≤ (k : Int) := by omega
                  have i2 : (k : Int) < (s.size : Int) := by omega
                  by_cases h5 : (s[k].toNat : Int) < 48
                  · have c5 : decide ((s[k].toNat : Int) < 48) = true := by simpa using h5
                    have hR : R = none := by rw [HQ.out.1]; exact atR_no (by rw [Hdl.out]; exact hlt) (fun e => by have e1 : 48 ≤ (s[k]).toNat := e.1; have e2 : (s[k]).toNat ≤ 57 := e.2; omega)
                    subst hR
                    go_wp2_with fail
                    go_ret2
                    exact ⟨rfl, rfl⟩
                  · have c5 : decide ((s[k].toNat : Int) < 48) = false := by simpa using h5
                    by_cases h6 : 57 < (s[k].toNat : Int)
                    · have c6 : decide (57 < (s[k].toNat : Int)) = true := by simpa using h6
                      have hR : R = none := by rw [HQ.out.1]; exact atR_no (by rw [Hdl.out]; exact hlt) (fun e => by have e1 : 48 ≤ (s[k]).toNat := e.1; have e2 : (s[k]).toNat ≤ 57 := e.2; omega)
                      subst hR
                      go_wp2_with fail
                      go_ret2
                      exact ⟨rfl, rfl⟩
                    · have c6 : decide (57 < (s[k].toNat : Int)) = false := by simpa using h6
                      have hl' : k < s.data.toList.length := by rw [Hdl.out]; exact hlt
                      have hg : s.data.toList[k] = s[k] := rfl
                      have hq := HQ.out.1
                      rw [atR_yes hl' (by rw [hg]; omega)] at hq
                      have hv := valD_take hl'
                      have h19 : (10 : Nat) ^ k ≤ 10 ^ 18 := Nat.pow_le_pow_right (by omega) (by omega)
                      have hlt2 := HQ.out.2
                      have hp10 : (10 : Nat) ^ (k + 1) = 10 ^ k * 10 := Nat.pow_succ ..
                      rw [hg] at hv
                      generalize 10 ^ k = P at *
                      have hv2 : valD 0 ((s).data.toList.take (k + 1)) < 10 ^ (k + 1) := by rw [hp10, hv]; omega
                      have hb1 : valD 0 (s.data.toList.take k) * 10 + (s[k].toNat - 48) < 18446744073709551616 := by omega
                      have Hv := hid hv
                      have HQ2 := hid (And.intro hq hv2)
                      clear HQ hq hv hlt2 hp10 hv2 h19 hg
                      generalize valD 0 (s.data.toList.take k) = V at *
                      go_wp2_with fail
                      go_roundw
                      case rel => exact ⟨k + 1, by omega, by go_num, by rw [Hv.out]; go_num, HQ2, by first | rfl | trivial⟩
                      case measure => simp [intOf]; omega
                · have a1 : decide (k < s.size) = false := by simpa using hlt
                  obtain rfl : k = s.size := by omega
                  have hq := HQ.out.1
                  have hv := HQ.out.2
                  have h19 : (10 : Nat) ^ s.size ≤ 10 ^ 19 := Nat.pow_le_pow_right (by omega) (by omega)
                  rw [← Hdl.out, atR_end] at hq
                  rw [← Hdl.out, List.take_length, Hdl.out] at hv
                  have hb1 : valD 0 s.data.toList < 18446744073709551616 := by omega
                  rw [show s.data.toList.take s.size = s.data.toList by rw [← Hdl.out, List.take_length]]
                  generalize valD 0 s.data.toList = V at *
                  clear hv h19 HQ
                  unfold finR at hq
                  rw [if_neg (by decide)] at hq
                  by_cases hV : 9223372036854775808 ≤ V
                  · have c9 : decide ((9223372036854775808 : Int) ≤ (V : Int)) = true := by simp; omega
                    rw [if_pos hV] at hq
                    subst hq
                    clear hV
                    go_wp2_with fail
                    go_ret2
                    exact ⟨rfl, rfl⟩
                  · have c9 : decide ((9223372036854775808 : Int) ≤ (V : Int)) = false := by simp; omega
                    rw [if_neg hV] at hq
                    subst hq
                    go_wp2_with fail
                    go_ret2
                    exact ⟨rfl, rfl⟩
  · have hR : R = none := by rw [HR.out, show s.data.toList = [] from List.length_eq_zero_iff.1 (by rw [Hll.out]; omega)]; rfl
    have b1 : decide ((0 : Int) < (s.size : Int)) = false := decide_eq_false (by omega)
    have c1 : ((s.size : Int) == 0) = true := beq_iff_eq.2 (by omega)
    subst hR
    clear h0 HR Hll
    go_enter Tryz.func188, Tryz.ntmps188
    go_wp2_with fail
    go_ret2
    exact ⟨rfl, rfl⟩
end Go.Proofs.YtnkjjhenfhnajaaGreatDoor
