/-
  Texts Cw Cx Cy Cl in one.
-/
import Derived.Test.YtnkjjhenfhnajaaGreatDoorProg
import Derived.Test.YtnkjjhenfhnajaaGreatDoorG01
import Derived.Test.YtnkjjhenfhnajaaGreatDoorG02
import Derived.Test.YtnkjjhenfhnajaaGreatDoorG03
import Derived.KernelRfl
/-
  Package code, walked: words, rows, fields.
-/
namespace Go.Proofs.YtnkjjhenfhnajaaGreatDoor
open Go.RowKit Go.Kw Go.Kreg Go.Cm

abbrev TOp : Nat := 153
abbrev TOps : Nat := 133
abbrev TRd : Nat := 250
theorem infoI : (Tryz.prog.info? 3).map (fun i => (i.zero, i.size, i.bytes)) = some (some (.int .i64 0), 1, 8) := by kernel_rfl
theorem infoOp : (Tryz.prog.info? TOp).map (fun i => (i.zero, i.size, i.bytes)) = some (some (.agg #[.int .i64 0, .int .i64 0, .int .i64 0, .int .i64 0]), 4, 32) := by kernel_rfl

theorem byte_eq (c : UInt8) (k : Nat) (hk : k < 256) : ((c.toNat : Int) == (k : Int)) = (c == UInt8.ofNat k) := by
  rw [Bool.eq_iff_iff]
  simp only [beq_iff_eq]
  constructor
  · intro h
    have h : c.toNat = k := by omega
    rw [← h]; simp
  · intro h; subst h
    simp [Nat.mod_eq_of_lt hk]

theorem blank_any (c : UInt8) (w : World) : Calls Tryz.prog 179 #[.int .u8 c.toNat] w fun e w' => e = .returned (.bool (blankB c)) ∧ w = w' := by
  have e9 := byte_eq c 9 (by omega)
  have e10 := byte_eq c 10 (by omega)
  have e13 := byte_eq c 13 (by omega)
  have e32 := byte_eq c 32 (by omega)
  have e59 := byte_eq c 59 (by omega)
  have hb : blankB c = ((((c == UInt8.ofNat 9) || (c == UInt8.ofNat 10)) || (c == UInt8.ofNat 13)) || (c == UInt8.ofNat 32) || (c == UInt8.ofNat 59)) := rfl
  rw [hb]
  simp only [Int.cast_ofNat_Int] at e9 e10 e13 e32 e59
  generalize (c == UInt8.ofNat 9) = b1 at *
  generalize (c == UInt8.ofNat 10) = b2 at *
  generalize (c == UInt8.ofNat 13) = b3 at *
  generalize (c == UInt8.ofNat 32) = b4 at *
  generalize (c == UInt8.ofNat 59) = b5 at *
  clear hb
  cases b1
  · cases b2
    · cases b3
      · cases b4
        · go_enter Tryz.func179, Tryz.ntmps179
          go_wp2
          go_ret
          exact ⟨rfl, rfl⟩
        · go_enter Tryz.func179, Tryz.ntmps179
          go_wp2
          go_ret
          exact ⟨rfl, rfl⟩
      · go_enter Tryz.func179, Tryz.ntmps179
        go_wp2
        go_ret
        exact ⟨rfl, rfl⟩
    · go_enter Tryz.func179, Tryz.ntmps179
      go_wp2
      go_ret
      exact ⟨rfl, rfl⟩
  · go_enter Tryz.func179, Tryz.ntmps179
    go_wp2
    go_ret
    exact ⟨rfl, rfl⟩

set_option maxHeartbeats 1000000 in
theorem word_any {w : World} {F : Nat → Prop} {rb i : Nat} {s : ByteArray} {ov op : Value} (h : Sts [.pt rb TRd [.string s, .int .i64 i, ov, op]] F w) (hi : i ≤ s.size) (hs : s.size ≤ 4096) :
    Calls Tryz.prog 157 #[.pointer (some ⟨rb, 0, none⟩)] w fun e w' =>
      e = .returned (.tuple #[.string (s.extract (wordAt s.data.toList i).2.1 (wordAt s.data.toList i).2.2), .int .i64 (wordAt s.data.toList i).2.1]) ∧ St F w [.pt rb TRd [.string s, .int .i64 (wordAt s.data.toList i).2.2, ov, op]] w' := by
  have hS := St.of h
  have hll : s.data.toList.length = s.size := Array.length_toList
  have Hll := hid hll
  clear h hll
  simp only [wordAt]
  generalize hj : skipTo s.data.toList i = j at *
  have Hj := hid hj
  clear hj
  go_enter Tryz.func157, Tryz.ntmps157
  go_wp2_with fail
  go_step3
  go_wp2_with fail
  go_step3
  go_wp2_with fail
  go_loopw [] (fun wr => ∃ k : Nat, k ≤ s.size ∧ Hid (skipTo s.data.toList k = j) ∧ St F w [.pt rb TRd [.string s, .int .i64 k, ov, op]] wr) (fun wr => s.size - atOf wr rb 1)
  case atStart => exact ⟨i, hi, Hj, hS⟩
  case round =>
    clear hS
    obtain ⟨k, hk, Hk, hS⟩ := hrel
    have HS := hid hS
    obtain ⟨c0, c1, c2, c3, fz⟩ := cells4 (hS.blk 0)
    clear hS
    have hcase : (∃ hlt : k < s.size, blankB (s[k]'hlt) = true ∧ Hid (skipTo s.data.toList (k + 1) = j)) ∨ (∃ hlt : k < s.size, blankB (s[k]'hlt) = false ∧ k = j) ∨ (¬ k < s.size ∧ k = j) := by
      by_cases hlt : k < s.size
      · have hl' : k < s.data.toList.length := by rw [Hll.out]; exact hlt
        by_cases hb : blankB (s[k]'hlt) = true
        · exact .inl ⟨hlt, hb, by rw [← skip_yes hl' hb]; exact Hk⟩
        · have hb : blankB (s[k]'hlt) = false := by simpa using hb
          exact .inr (.inl ⟨hlt, hb, by rw [← Hk.out, skip_no hl' hb]⟩)
      · exact .inr (.inr ⟨hlt, by rw [← Hk.out, skip_end (by rw [Hll.out]; omega)]⟩)
    rcases hcase with ⟨hlt, hb, H1⟩ | ⟨hlt, hb, rfl⟩ | ⟨hlt, rfl⟩
    · have b1 : decide ((k : Int) < (s.size : Int)) = true := by simp; omega
      have i0 : (0 : Int) ≤ (k : Int) := by omega
      have i1 : (k : Int) < (s.size : Int) := by omega
      go_wp2_with fail
      go_quiet (fail)
      revert nq; intro n1
      go_wp2_with fail
      go_quiet (exact (blank_any _ _).mono fun e w' h => ⟨h.1, _, h.2.symm⟩)
      go_wp2_with fail
      have hS := (HS.out.drewN (n1 + nq)).set 0 1 (.int .i64 ((k : Int) + 1))
      refine ⟨⟨k + 1, by omega, H1, hS⟩, ?_⟩
      rw [atOf_pt 0 1 hS rfl, atOf_pt 0 1 HS.out rfl]
      omega
    case' inr.inl =>
      have b1 : decide ((k : Int) < (s.size : Int)) = true := by simp; omega
      have i0 : (0 : Int) ≤ (k : Int) := by omega
      have i1 : (k : Int) < (s.size : Int) := by omega
      go_wp2_with fail
      go_quiet (fail)
      revert nq; intro n1
      go_wp2_with fail
      go_quiet (exact (blank_any _ _).mono fun e w' h => ⟨h.1, _, h.2.symm⟩)
      go_wp2_with fail
      have HS2 := hid (HS.out.drewN (n1 + nq))
    case' inr.inr =>
      have b1 : decide ((k : Int) < (s.size : Int)) = false := by simp; omega
      go_wp2_with fail
      go_quiet (fail)
      revert nq; intro n1
      go_wp2_with fail
      have HS2 := hid (HS.out.drewN n1)
    all_goals
      generalize hE : endOf s.data.toList k = E at *
      have HE := hid hE
      clear hE HS c0 c1 c2 c3 fz
      go_loopw [] (fun wr => ∃ m : Nat, m ≤ s.size ∧ Hid (endOf s.data.toList m = E) ∧ St F w [.pt rb TRd [.string s, .int .i64 m, ov, op]] wr) (fun wr => s.size - atOf wr rb 1)
      case atStart => exact ⟨k, hk, HE, HS2.out⟩
      case round =>
        clear HS2
        obtain ⟨m, hm, Hm, hS⟩ := hrel
        have HS := hid hS
        obtain ⟨c0, c1, c2, c3, fz⟩ := cells4 (hS.blk 0)
        clear hS
        have hcase : (∃ hlt : m < s.size, blankB (s[m]'hlt) = false ∧ Hid (endOf s.data.toList (m + 1) = E)) ∨ (∃ hlt : m < s.size, blankB (s[m]'hlt) = true ∧ m = E) ∨ (¬ m < s.size ∧ m = E) := by
          by_cases hlt : m < s.size
          · have hl' : m < s.data.toList.length := by rw [Hll.out]; exact hlt
            by_cases hb : blankB (s[m]'hlt) = true
            · exact .inr (.inl ⟨hlt, hb, by rw [← Hm.out, end_no hl' hb]⟩)
            · have hb : blankB (s[m]'hlt) = false := by simpa using hb
              exact .inl ⟨hlt, hb, by rw [← end_yes hl' hb]; exact Hm⟩
          · exact .inr (.inr ⟨hlt, by rw [← Hm.out, end_end (by rw [Hll.out]; omega)]⟩)
        have hle : ∀ m, Hid (endOf s.data.toList m = E) → m ≤ E := fun m h => by rw [← h.out]; exact end_ge _ _
        have hkE := hle k HE
        clear hle
        rcases hcase with ⟨hlt2, hb2, H1⟩ | ⟨hlt2, hb2, rfl⟩ | ⟨hlt2, rfl⟩
        · have b2 : decide ((m : Int) < (s.size : Int)) = true := by simp; omega
          have i2 : (0 : Int) ≤ (m : Int) := by omega
          have i3 : (m : Int) < (s.size : Int) := by omega
          go_wp2_with fail
          go_quiet (exact (blank_any _ _).mono fun e w' h => ⟨h.1, _, h.2.symm⟩)
          revert nq; intro n3
          go_wp2_with fail
          have hS := (HS.out.drewN n3).set 0 1 (.int .i64 ((m : Int) + 1))
          refine ⟨⟨m + 1, by omega, H1, hS⟩, ?_⟩
          rw [atOf_pt 0 1 hS rfl, atOf_pt 0 1 HS.out rfl]
          omega
        · have b2 : decide ((m : Int) < (s.size : Int)) = true := by simp; omega
          have i2 : (0 : Int) ≤ (m : Int) := by omega
          have i3 : (m : Int) < (s.size : Int) := by omega
          go_wp2_with fail
          go_quiet (exact (blank_any _ _).mono fun e w' h => ⟨h.1, _, h.2.symm⟩)
          revert nq; intro n3
          go_wp2_with fail
          go_quiet (fail)
          revert nq; intro n4
          go_wp2_with fail
          rw [Exit.noGoto_ret]
          go_ret2
          rw [HE.out]
          exact ⟨rfl, (HS.out.drewN n3).drewN n4⟩
        · have b2 : decide ((m : Int) < (s.size : Int)) = false := by simp; omega
          go_wp2_with fail
          go_quiet (fail)
          revert nq; intro n3
          go_wp2_with fail
          go_quiet (fail)
          revert nq; intro n4
          go_wp2_with fail
          rw [Exit.noGoto_ret]
          go_ret2
          rw [HE.out]
          exact ⟨rfl, (HS.out.drewN n3).drewN n4⟩
end Go.Proofs.YtnkjjhenfhnajaaGreatDoor

/-
  Package code, walked: rows, kinds, fields.
-/
namespace Go.Proofs.YtnkjjhenfhnajaaGreatDoor
open Go.RowKit Go.Kw Go.Kreg Go.Cm

abbrev TRow : Nat := 274
abbrev TRows : Nat := 301
def wordV (k : Nat) : Value := .string ⟨(rowW k).toArray⟩
def rowsL : List Value := (List.range 12).flatMap fun k => [wordV k, .int .i64 (rowH k)]
theorem rowsL_0 {k : Nat} (h : k < 12) : rowsL[k * 2]? = some (wordV k) ∧ rowsL[k * 2 + 1]? = some (.int .i64 (rowH k)) := by
  obtain rfl | rfl | rfl | rfl | rfl | rfl | rfl | rfl | rfl | rfl | rfl | rfl : k = 0 ∨ k = 1 ∨ k = 2 ∨ k = 3 ∨ k = 4 ∨ k = 5 ∨ k = 6 ∨ k = 7 ∨ k = 8 ∨ k = 9 ∨ k = 10 ∨ k = 11 := by omega
  all_goals exact ⟨rfl, rfl⟩
def zeros12 : List Value := (List.range 12).flatMap fun _ => [.string ⟨#[]⟩, .int .i64 0]
theorem zero12 : (Tryz.prog.info? TRows).map (fun i => i.zero) = some (some (.agg zeros12.toArray)) := by kernel_rfl
theorem size12 : (Tryz.prog.info? TRows).map (·.size) = some 24 := by kernel_rfl

set_option maxRecDepth 100000 in
set_option maxHeartbeats 4000000 in
theorem row_any (k : Nat) (w : World) (h1 : 1 ≤ k) (h2 : k ≤ 11) : Calls Tryz.prog 180 #[.int .i64 k] w fun e w' => e = .returned (.tuple #[.agg #[wordV k, .int .i64 (rowH k)], .bool true]) ∧ Keeps (fun _ => False) w w' := by
  have hc := rowsL_0 (show k < 12 by omega)
  unfold wordV at *
  generalize hwv : (⟨(rowW k).toArray⟩ : ByteArray) = wv at *
  generalize hhv : rowH k = hv at *
  have Hc := hid hc
  clear hc hwv hhv
  have i0 : (0 : Int) ≤ (k : Int) := by omega
  have i1 : (k : Int) < 12 := by omega
  have b1 : decide ((k : Int) < 1) = false := by simp; omega
  have b2 : decide ((11 : Int) < (k : Int)) = false := by simp; omega
  have hS := ((St.start w).new TRow [.string ⟨#[]⟩, .int .i64 0])
  go_enter Tryz.func180, Tryz.ntmps180
  go_wp2_with (first | (refine wpList_allocS TRows _ zeros12 rfl rfl zero12 rfl hS ?_; intro L w1 hS1) | (refine wpList_storeS 1 TRows _ _ rfl rfl rowsL hS1 rfl rfl rfl size12 rfl (by intro u hu; simp only [rowsL, List.mem_flatMap] at hu; obtain ⟨k, _, hu⟩ := hu; simp only [List.mem_cons, List.not_mem_nil, or_false] at hu; rcases hu with rfl | rfl <;> rfl) ?_; intro w2 hS2; clear hS1; have d0 := (hS2.blk 1).at Hc.out.1; have d1 := (hS2.blk 1).at Hc.out.2; obtain ⟨f0, f1, fz⟩ := cells2 (hS2.blk 0)))
  have hS3 := (hS2.set 0 0 (.string wv)).set 0 1 (.int .i64 hv)
  simp only [Kw.red] at hS3
  obtain ⟨g0, g1, gz⟩ := cells2 (hS3.blk 0)
  exact bodyPost_ret (v := .tuple #[.agg #[.string wv, .int .i64 hv], .bool true]) (by simp [results, Tryz.results180, go_sem, g0, g1]) rfl ⟨rfl, hS3.keeps⟩
end Go.Proofs.YtnkjjhenfhnajaaGreatDoor

/-
  Package code, walked: fields, kinds, what may begin.
-/
namespace Go.Proofs.YtnkjjhenfhnajaaGreatDoor
open Go.RowKit Go.Kw Go.Kreg Go.Cm

def opV (o : Cm.Op) : Value := .agg #[.int .i64 o.kind, .int .i64 o.res, .int .i64 o.n, .int .i64 o.v]
theorem row_int (k : Int) (w : World) (h1 : 1 ≤ k) (h2 : k ≤ 11) : Calls Tryz.prog 180 #[.int .i64 k] w fun e w' => e = .returned (.tuple #[.agg #[wordV k.toNat, .int .i64 (rowH k.toNat)], .bool true]) ∧ Keeps (fun _ => False) w w' := by
  obtain ⟨n, rfl⟩ := Int.eq_ofNat_of_zero_le (show 0 ≤ k by omega)
  exact row_any n w (by omega) (by omega)
theorem rowH_le (k : Nat) : rowH k ≤ 4 := by unfold rowH; split <;> omega

set_option maxRecDepth 100000 in
set_option maxHeartbeats 4000000 in
theorem fields_any (o : Cm.Op) (w : World) (h1 : 1 ≤ o.kind) (h2 : o.kind ≤ 11) : Calls Tryz.prog 197 #[opV o] w fun e w' => e = .returned (.bool (fieldsOk o)) ∧ Keeps (fun _ => False) w w' := by
  have hf : fieldsOk o = fieldsH (rowH o.kind.toNat) o := by unfold fieldsOk; rw [if_neg (by omega)]
  rw [hf]
  have hr := row_int o.kind
  have hle := rowH_le o.kind.toNat
  clear hf
  obtain ⟨kd, rs, n, v⟩ := o
  unfold opV
  simp only at *
  unfold wordV at hr
  generalize (⟨(rowW kd.toNat).toArray⟩ : ByteArray) = wv at *
  generalize rowH kd.toNat = hv at *
  have Hr := hid hr
  clear hr
  have k0 := (Keeps.refl (fun _ => False) w).alloc (.cells #[.int .i64 kd, .int .i64 rs, .int .i64 n, .int .i64 v] TOp)
  have hB := Blk.new w TOp [.int .i64 kd, .int .i64 rs, .int .i64 n, .int .i64 v]
  have K0 := hid k0
  have HB := hid hB
  clear k0 hB
  obtain rfl | rfl | rfl | rfl | rfl : hv = 1 ∨ hv = 2 ∨ hv = 3 ∨ hv = 4 ∨ hv = 0 := by omega
  all_goals
    simp only [fieldsH]
    go_enter Tryz.func197, Tryz.ntmps197
    go_wp2_with fail
    refine (Hr.out _ h1 h2).mono ?_; rintro e w1 ⟨rfl, k1⟩
    obtain ⟨c0, c1, c2, c3, cz⟩ := cells4 (k1.blk HB.out id)
    have K1 := hid (K0.out.trans k1)
    clear k1
    go_wp2_with fail
    all_goals
      go_ret
      refine ⟨ret_bool ?_, K1.out.alloc _⟩
      first
        | rfl
        | (rw [Bool.eq_iff_iff]; simp; done)
        | (rw [Bool.eq_iff_iff]; simp; omega)

theorem kindFrom_yes {w : List UInt8} {f k : Nat} (h : rowW k = w) : kindFrom w (f + 1) k = k := by unfold kindFrom; rw [if_pos h]
theorem kindFrom_no {w : List UInt8} {f k : Nat} (h : rowW k ≠ w) : kindFrom w (f + 1) k = kindFrom w f (k + 1) := by
  conv => lhs; unfold kindFrom
  rw [if_neg h]

set_option maxRecDepth 100000 in
set_option maxHeartbeats 4000000 in
theorem kindOf_any (s : ByteArray) (w : World) : Calls Tryz.prog 158 #[.string s] w fun e w' => e = .returned (.int .i64 (kindOf s.data.toList)) ∧ Keeps (fun _ => False) w w' := by
  generalize hK : kindOf s.data.toList = K at *
  have HK := hid hK
  clear hK
  go_enter Tryz.func158, Tryz.ntmps158
  go_wp2_with fail
  go_loopw [3] (fun i wr => ∃ k : Nat, 1 ≤ k ∧ k ≤ 12 ∧ i = .int .i64 k ∧ Hid (kindFrom s.data.toList (12 - k) k = K) ∧ Keeps (fun _ => False) w wr) (fun i _ => 12 - (intOf i).toNat)
  case atStart => exact ⟨1, by omega, by omega, rfl, HK, Keeps.refl _ _⟩
  case round =>
    obtain ⟨k, hk1, hk2, rfl, Hk, hK⟩ := hrel
    have HKp := hid hK
    clear hK
    by_cases hlt : k ≤ 11
    · have b1 : decide ((k : Int) ≤ 11) = true := by simp; omega
      by_cases hw : rowW k = s.data.toList
      · have h0 : K = k := by rw [← Hk.out, show 12 - k = (11 - k) + 1 by omega, kindFrom_yes hw]
        have H0 := hid h0
        have b2 : (rowW k == s.toList) = true := by rw [ByteArray.toList_eq]; simpa using hw
        clear hw h0
        go_wp2_with fail
        refine (row_any k _ hk1 hlt).mono ?_; rintro e w1 ⟨rfl, k1⟩
        unfold wordV
        have K1 := hid (HKp.out.trans k1)
        clear k1
        go_wp2_with fail
        go_ret
        exact ⟨ret_int (by rw [H0.out]), K1.out.alloc _⟩
      · have H0 := hid (show kindFrom s.data.toList (12 - (k + 1)) (k + 1) = K by rw [← Hk.out, show 12 - k = (11 - k) + 1 by omega, kindFrom_no hw]; congr 1; omega)
        have b2 : (rowW k == s.toList) = false := by rw [ByteArray.toList_eq]; simpa using hw
        clear hw
        go_wp2_with fail
        refine (row_any k _ hk1 hlt).mono ?_; rintro e w1 ⟨rfl, k1⟩
        unfold wordV
        have K1 := hid (HKp.out.trans k1)
        clear k1
        go_wp2_with fail
        refine ⟨⟨k + 1, by omega, by omega, by go_num, H0, K1.out.alloc _⟩, ?_⟩
        simp [intOf]; omega
    · have b1 : decide ((k : Int) ≤ 11) = false := by simp; omega
      have h0 : K = 0 := by rw [← Hk.out, show 12 - k = 0 by omega]; rfl
      have H0 := hid h0
      clear h0
      go_wp2_with fail
      go_ret
      exact ⟨ret_int (by rw [H0.out]; rfl), HKp.out⟩

set_option maxRecDepth 100000 in
set_option maxHeartbeats 1000000 in
theorem begins_any {w : World} {rb on oc kind : Nat} {oa : Option Addr} {i opn : Int} {s : ByteArray} (hb : Blk w rb TRd [.string s, .int .i64 i, .slice oa on oc, .int .i64 opn]) :
    Calls Tryz.prog 159 #[.pointer (some ⟨rb, 0, none⟩), .int .i64 kind] w fun e w' => e = .returned (.int .i64 (begins kind on opn)) ∧ w = w' := by
  obtain ⟨c0, c1, c2, c3, cz⟩ := cells4 hb
  generalize hB : begins kind on opn = B at *
  have HB := hid hB
  clear hB hb
  go_enter Tryz.func159, Tryz.ntmps159
  go_wp2_with fail
  all_goals
    go_ret
    refine ⟨ret_int ?_, rfl⟩
    rw [← HB.out]
    simp only [beq_iff_eq, beq_eq_false_iff_ne, ne_eq] at *
    unfold begins
    (repeat' split) <;> omega
end Go.Proofs.YtnkjjhenfhnajaaGreatDoor

/-
  Package code, walked: Legal.
-/
namespace Go.Proofs.YtnkjjhenfhnajaaGreatDoor
open Go.RowKit Go.Kw Go.Kreg Go.Cm

theorem legalFrom_cons (c : UInt8) (l : List UInt8) (i : Nat) : legalFrom (c :: l) i = if (97 ≤ c && c ≤ 122) || (decide (0 < i) && (c == 45 || (48 ≤ c && c ≤ 57))) then legalFrom l (i + 1) else false := rfl

theorem legalFrom_at {l : List UInt8} {k : Nat} (h : k < l.length) : legalFrom (l.drop k) k = if (97 ≤ (l[k].toNat : Int) ∧ (l[k].toNat : Int) ≤ 122) ∨ ((k : Int) ≠ 0 ∧ ((l[k].toNat : Int) = 45 ∨ (48 ≤ (l[k].toNat : Int) ∧ (l[k].toNat : Int) ≤ 57))) then legalFrom (l.drop (k + 1)) (k + 1) else false := by
  rw [List.drop_eq_getElem_cons h, legalFrom_cons]
  generalize l[k] = c
  congr 1
  rw [eq_iff_iff]
  have e1 : (97 ≤ c) ↔ (97 ≤ (c.toNat : Int)) := by rw [UInt8.le_iff_toNat_le]; simp; omega
  have e2 : (c ≤ 122) ↔ ((c.toNat : Int) ≤ 122) := by rw [UInt8.le_iff_toNat_le]; simp; omega
  have e3 : (48 ≤ c) ↔ (48 ≤ (c.toNat : Int)) := by rw [UInt8.le_iff_toNat_le]; simp; omega
  have e4 : (c ≤ 57) ↔ ((c.toNat : Int) ≤ 57) := by rw [UInt8.le_iff_toNat_le]; simp; omega
  have e5 : (c = 45) ↔ ((c.toNat : Int) = 45) := by rw [← UInt8.toNat_inj]; simp; omega
  have e6 : 0 < k ↔ (k : Int) ≠ 0 := by omega
  simp only [Bool.or_eq_true, Bool.and_eq_true, decide_eq_true_eq, beq_iff_eq, e1, e2, e3, e4, e5, e6]

set_option linter.unusedSimpArgs false in
set_option maxRecDepth 100000 in
set_option maxHeartbeats 1000000 in
theorem legal_any (s : ByteArray) (w : World) : Calls Tryz.prog 74 #[.string s] w fun e w' => e = .returned (.bool (legal s.data.toList)) ∧ Keeps (fun _ => False) w w' := by
  have hll : s.data.toList.length = s.size := Array.length_toList
  by_cases hsz : s.size < 1 ∨ 32 < s.size
  · have hr : legal s.data.toList = false := by unfold legal; rw [hll, if_pos hsz]
    rw [hr]
    clear hr hll
    by_cases h1 : s.size < 1
    · have b1 : decide ((s.size : Int) < 1) = true := by simp; omega
      clear hsz h1
      go_enter Tryz.func74, Tryz.ntmps74
      go_wp2_with fail
      go_ret
      exact ⟨rfl, Keeps.refl _ _⟩
    · have b1 : decide ((s.size : Int) < 1) = false := by simp; omega
      have b2 : decide ((32 : Int) < (s.size : Int)) = true := by simp; omega
      clear hsz h1
      go_enter Tryz.func74, Tryz.ntmps74
      go_wp2_with fail
      go_ret
      exact ⟨rfl, Keeps.refl _ _⟩
  · have hr : legal s.data.toList = legalFrom (s.data.toList.drop 0) 0 := by unfold legal; rw [hll, if_neg hsz]; rfl
    have Hr := hid hr
    have Hll := hid hll
    generalize legal s.data.toList = R at *
    clear hr hll
    have b1 : decide ((s.size : Int) < 1) = false := by simp; omega
    have b2 : decide ((32 : Int) < (s.size : Int)) = false := by simp; omega
    have hs32 : s.size ≤ 32 := by omega
    clear hsz
    go_enter Tryz.func74, Tryz.ntmps74
    go_wp2_with fail
    go_loopw [15] (fun x wr => ∃ k : Nat, k ≤ s.size ∧ x = .int .i64 k ∧ Hid (R = legalFrom (s.data.toList.drop k) k) ∧ Keeps (fun _ => False) w wr) (fun x _ => s.size - (intOf x).toNat)
    case atStart => exact ⟨0, Nat.zero_le _, rfl, Hr, Keeps.refl _ _⟩
    case round =>
      clear Hr
      obtain ⟨k, hk, rfl, Hq, hK⟩ := hrel
      by_cases hlt : k < s.size
      · have b3 : decide ((k : Int) < (s.size : Int)) = true := by simp; omega
        have i0 : (0 : Int) ≤ (k : Int) := by omega
        have i1 : (k : Int) < (s.size : Int) := by omega
        have hq := Hq.out
        rw [legalFrom_at (by rw [Hll.out]; exact hlt)] at hq
        have hget : s.data.toList[k]'(by rw [Hll.out]; exact hlt) = s[k] := rfl
        rw [hget] at hq
        have Hq2 := hid hq
        clear hq hget Hq
        by_cases hk0 : k = 0
        · subst hk0
          go_wp2_with fail
          all_goals
            have hq := Hq2.out
            have hb := Hll.out
            first
              | (go_ret; refine ⟨ret_bool ?_, hK⟩; rw [hq, if_neg]; simp only [Bool.not_eq_true', decide_eq_true_eq, decide_eq_false_iff_not] at *; omega)
              | (refine ⟨⟨1, by omega, rfl, hid ?_, hK⟩, by simp [intOf]; omega⟩; rw [hq, if_pos]; simp only [Bool.not_eq_true', decide_eq_true_eq, decide_eq_false_iff_not, Bool.not_eq_false', Bool.and_eq_false_iff, Bool.and_eq_true, Bool.or_eq_true, Bool.or_eq_false_iff, bne_eq_false_iff_eq] at *; omega)
        · have b4 : ((k : Int) == 0) = false := by simp; omega
          go_wp2_with fail
          all_goals
            have hq := Hq2.out
            have hb := Hll.out
            first
              | (go_ret; refine ⟨ret_bool ?_, hK⟩; rw [hq, if_neg]; simp only [Bool.not_eq_true', decide_eq_true_eq, decide_eq_false_iff_not] at *; omega)
              | (refine ⟨⟨k + 1, by omega, by go_num, hid ?_, hK⟩, by simp [intOf]; omega⟩; rw [hq, if_pos]; simp only [Bool.not_eq_true', decide_eq_true_eq, decide_eq_false_iff_not, Bool.not_eq_false', Bool.and_eq_false_iff, Bool.and_eq_true, Bool.or_eq_true, Bool.or_eq_false_iff, bne_eq_false_iff_eq] at *; omega)
      · have b3 : decide ((k : Int) < (s.size : Int)) = false := by simp; omega
        go_wp2_with fail
        go_ret
        refine ⟨?_, hK⟩
        rw [Hq.out, List.drop_eq_nil_of_le (by rw [Hll.out]; omega)]; rfl
end Go.Proofs.YtnkjjhenfhnajaaGreatDoor
