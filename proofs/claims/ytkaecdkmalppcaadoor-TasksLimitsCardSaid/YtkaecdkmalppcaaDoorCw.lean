/-
  Package code, walked: words, rows, fields.
-/
import Derived.Test.YtkaecdkmalppcaaDoorProg
import Derived.Test.YtkaecdkmalppcaaDoorSlo
import Derived.Test.YtkaecdkmalppcaaDoorKmix
import Derived.Test.YtkaecdkmalppcaaDoorCm
import Derived.KernelRfl
namespace Go.Proofs.YtkaecdkmalppcaaDoor
open Go.RowKit Go.Kw Go.Kreg Go.Cm

abbrev TOp : Nat := 53
abbrev TOps : Nat := 48
abbrev TRd : Nat := 95
theorem infoI : (Tryd.prog.info? 3).map (fun i => (i.zero, i.size, i.bytes)) = some (some (.int .i64 0), 1, 8) := by kernel_rfl
theorem infoOp : (Tryd.prog.info? TOp).map (fun i => (i.zero, i.size, i.bytes)) = some (some (.agg #[.int .i64 0, .int .i64 0, .int .i64 0, .int .i64 0]), 4, 32) := by kernel_rfl

theorem byte_eq (c : UInt8) (k : Nat) (hk : k < 256) : ((c.toNat : Int) == (k : Int)) = (c == UInt8.ofNat k) := by
  rw [Bool.eq_iff_iff]
  simp only [beq_iff_eq]
  constructor
  · intro h
    have h : c.toNat = k := by omega
    rw [← h]; simp
  · intro h; subst h
    simp [Nat.mod_eq_of_lt hk]

theorem blank_any (c : UInt8) (w : World) : Calls Tryd.prog 52 #[.int .u8 c.toNat] w fun e w' => e = .returned (.bool (blankB c)) ∧ w = w' := by
  have e9 := byte_eq c 9 (by omega)
  have e10 := byte_eq c 10 (by omega)
  have e13 := byte_eq c 13 (by omega)
  have e32 := byte_eq c 32 (by omega)
  have e59 := byte_eq c 59 (by omega)
  have hb : blankB c = ((((c == UInt8.ofNat 9) || (c == UInt8.ofNat 10)) || (c == UInt8.ofNat 13)) || (c == UInt8.ofNat 32) || (c == UInt8.ofNat 59)) := rfl
  rw [hb]
  simp only [Int.cast_ofNat_Int] at e9 e10 e13 e32 e59
  generalize (c == UInt8.ofNat 9) = b1 at *
  generalize (c == UInt8.ofNat 10) = b2 at *
  generalize (c == UInt8.ofNat 13) = b3 at *
  generalize (c == UInt8.ofNat 32) = b4 at *
  generalize (c == UInt8.ofNat 59) = b5 at *
  clear hb
  cases b1
  · cases b2
    · cases b3
      · cases b4
        · go_enter Tryd.func52, Tryd.ntmps52
          go_wp2
          go_ret
          exact ⟨rfl, rfl⟩
        · go_enter Tryd.func52, Tryd.ntmps52
          go_wp2
          go_ret
          exact ⟨rfl, rfl⟩
      · go_enter Tryd.func52, Tryd.ntmps52
        go_wp2
        go_ret
        exact ⟨rfl, rfl⟩
    · go_enter Tryd.func52, Tryd.ntmps52
      go_wp2
      go_ret
      exact ⟨rfl, rfl⟩
  · go_enter Tryd.func52, Tryd.ntmps52
    go_wp2
    go_ret
    exact ⟨rfl, rfl⟩

set_option maxHeartbeats 1000000 in
theorem word_any {w : World} {F : Nat → Prop} {rb i : Nat} {s : ByteArray} {ov op : Value} (h : Sts [.pt rb TRd [.string s, .int .i64 i, ov, op]] F w) (hi : i ≤ s.size) (hs : s.size ≤ 4096) :
    Calls Tryd.prog 41 #[.pointer (some ⟨rb, 0, none⟩)] w fun e w' =>
      e = .returned (.tuple #[.string (s.extract (wordAt s.data.toList i).2.1 (wordAt s.data.toList i).2.2), .int .i64 (wordAt s.data.toList i).2.1]) ∧ St F w [.pt rb TRd [.string s, .int .i64 (wordAt s.data.toList i).2.2, ov, op]] w' := by
  have hS := St.of h
  have hll : s.data.toList.length = s.size := Array.length_toList
  have Hll := hid hll
  clear h hll
  simp only [wordAt]
  generalize hj : skipTo s.data.toList i = j at *
  have Hj := hid hj
  clear hj
  go_enter Tryd.func41, Tryd.ntmps41
  go_wp2_with fail
  go_step3
  go_wp2_with fail
  go_step3
  go_wp2_with fail
  go_loopw [] (fun wr => ∃ k : Nat, k ≤ s.size ∧ Hid (skipTo s.data.toList k = j) ∧ St F w [.pt rb TRd [.string s, .int .i64 k, ov, op]] wr) (fun wr => s.size - atOf wr rb 1)
  case atStart => exact ⟨i, hi, Hj, hS⟩
  case round =>
    clear hS
    obtain ⟨k, hk, Hk, hS⟩ := hrel
    have HS := hid hS
    obtain ⟨c0, c1, c2, c3, fz⟩ := cells4 (hS.blk 0)
    clear hS
    have hcase : (∃ hlt : k < s.size, blankB (s[k]'hlt) = true ∧ Hid (skipTo s.data.toList (k + 1) = j)) ∨ (∃ hlt : k < s.size, blankB (s[k]'hlt) = false ∧ k = j) ∨ (¬ k < s.size ∧ k = j) := by
      by_cases hlt : k < s.size
      · have hl' : k < s.data.toList.length := by rw [Hll.out]; exact hlt
        by_cases hb : blankB (s[k]'hlt) = true
        · exact .inl ⟨hlt, hb, by rw [← skip_yes hl' hb]; exact Hk⟩
        · have hb : blankB (s[k]'hlt) = false := by simpa using hb
          exact .inr (.inl ⟨hlt, hb, by rw [← Hk.out, skip_no hl' hb]⟩)
      · exact .inr (.inr ⟨hlt, by rw [← Hk.out, skip_end (by rw [Hll.out]; omega)]⟩)
    rcases hcase with ⟨hlt, hb, H1⟩ | ⟨hlt, hb, rfl⟩ | ⟨hlt, rfl⟩
    · have b1 : decide ((k : Int) < (s.size : Int)) = true := by simp; omega
      have i0 : (0 : Int) ≤ (k : Int) := by omega
      have i1 : (k : Int) < (s.size : Int) := by omega
      go_wp2_with fail
      go_quiet (fail)
      revert nq; intro n1
      go_wp2_with fail
      go_quiet (exact (blank_any _ _).mono fun e w' h => ⟨h.1, _, h.2.symm⟩)
      go_wp2_with fail
      have hS := (HS.out.drewN (n1 + nq)).set 0 1 (.int .i64 ((k : Int) + 1))
      refine ⟨⟨k + 1, by omega, H1, hS⟩, ?_⟩
      rw [atOf_pt 0 1 hS rfl, atOf_pt 0 1 HS.out rfl]
      omega
    case' inr.inl =>
      have b1 : decide ((k : Int) < (s.size : Int)) = true := by simp; omega
      have i0 : (0 : Int) ≤ (k : Int) := by omega
      have i1 : (k : Int) < (s.size : Int) := by omega
      go_wp2_with fail
      go_quiet (fail)
      revert nq; intro n1
      go_wp2_with fail
      go_quiet (exact (blank_any _ _).mono fun e w' h => ⟨h.1, _, h.2.symm⟩)
      go_wp2_with fail
      have HS2 := hid (HS.out.drewN (n1 + nq))
    case' inr.inr =>
      have b1 : decide ((k : Int) < (s.size : Int)) = false := by simp; omega
      go_wp2_with fail
      go_quiet (fail)
      revert nq; intro n1
      go_wp2_with fail
      have HS2 := hid (HS.out.drewN n1)
    all_goals
      generalize hE : endOf s.data.toList k = E at *
      have HE := hid hE
      clear hE HS c0 c1 c2 c3 fz
      go_loopw [] (fun wr => ∃ m : Nat, m ≤ s.size ∧ Hid (endOf s.data.toList m = E) ∧ St F w [.pt rb TRd [.string s, .int .i64 m, ov, op]] wr) (fun wr => s.size - atOf wr rb 1)
      case atStart => exact ⟨k, hk, HE, HS2.out⟩
      case round =>
        clear HS2
        obtain ⟨m, hm, Hm, hS⟩ := hrel
        have HS := hid hS
        obtain ⟨c0, c1, c2, c3, fz⟩ := cells4 (hS.blk 0)
        clear hS
        have hcase : (∃ hlt : m < s.size, blankB (s[m]'hlt) = false ∧ Hid (endOf s.data.toList (m + 1) = E)) ∨ (∃ hlt : m < s.size, blankB (s[m]'hlt) = true ∧ m = E) ∨ (¬ m < s.size ∧ m = E) := by
          by_cases hlt : m < s.size
          · have hl' : m < s.data.toList.length := by rw [Hll.out]; exact hlt
            by_cases hb : blankB (s[m]'hlt) = true
            · exact .inr (.inl ⟨hlt, hb, by rw [← Hm.out, end_no hl' hb]⟩)
            · have hb : blankB (s[m]'hlt) = false := by simpa using hb
              exact .inl ⟨hlt, hb, by rw [← end_yes hl' hb]; exact Hm⟩
          · exact .inr (.inr ⟨hlt, by rw [← Hm.out, end_end (by rw [Hll.out]; omega)]⟩)
        have hle : ∀ m, Hid (endOf s.data.toList m = E) → m ≤ E := fun m h => by rw [← h.out]; exact end_ge _ _
        have hkE := hle k HE
        clear hle
        rcases hcase with ⟨hlt2, hb2, H1⟩ | ⟨hlt2, hb2, rfl⟩ | ⟨hlt2, rfl⟩
        · have b2 : decide ((m : Int) < (s.size : Int)) = true := by simp; omega
          have i2 : (0 : Int) ≤ (m : Int) := by omega
          have i3 : (m : Int) < (s.size : Int) := by omega
          go_wp2_with fail
          go_quiet (exact (blank_any _ _).mono fun e w' h => ⟨h.1, _, h.2.symm⟩)
          revert nq; intro n3
          go_wp2_with fail
          have hS := (HS.out.drewN n3).set 0 1 (.int .i64 ((m : Int) + 1))
          refine ⟨⟨m + 1, by omega, H1, hS⟩, ?_⟩
          rw [atOf_pt 0 1 hS rfl, atOf_pt 0 1 HS.out rfl]
          omega
        · have b2 : decide ((m : Int) < (s.size : Int)) = true := by simp; omega
          have i2 : (0 : Int) ≤ (m : Int) := by omega
          have i3 : (m : Int) < (s.size : Int) := by omega
          go_wp2_with fail
          go_quiet (exact (blank_any _ _).mono fun e w' h => ⟨h.1, _, h.2.symm⟩)
          revert nq; intro n3
          go_wp2_with fail
          go_quiet (fail)
          revert nq; intro n4
          go_wp2_with fail
          rw [Exit.noGoto_ret]
          go_ret2
          rw [HE.out]
          exact ⟨rfl, (HS.out.drewN n3).drewN n4⟩
        · have b2 : decide ((m : Int) < (s.size : Int)) = false := by simp; omega
          go_wp2_with fail
          go_quiet (fail)
          revert nq; intro n3
          go_wp2_with fail
          go_quiet (fail)
          revert nq; intro n4
          go_wp2_with fail
          rw [Exit.noGoto_ret]
          go_ret2
          rw [HE.out]
          exact ⟨rfl, (HS.out.drewN n3).drewN n4⟩
end Go.Proofs.YtkaecdkmalppcaaDoor
