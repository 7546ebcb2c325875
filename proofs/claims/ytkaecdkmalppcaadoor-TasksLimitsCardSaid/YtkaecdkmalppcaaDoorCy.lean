/-
  Package code, walked: fields, kinds, what may begin.
-/
import Derived.Test.YtkaecdkmalppcaaDoorCx
namespace Go.Proofs.YtkaecdkmalppcaaDoor
open Go.RowKit Go.Kw Go.Kreg Go.Cm

def opV (o : Cm.Op) : Value := .agg #[.int .i64 o.kind, .int .i64 o.res, .int .i64 o.n, .int .i64 o.v]
theorem row_int (k : Int) (w : World) (h1 : 1 ≤ k) (h2 : k ≤ 11) : Calls Tryd.prog 53 #[.int .i64 k] w fun e w' => e = .returned (.tuple #[.agg #[wordV k.toNat, .int .i64 (rowH k.toNat)], .bool true]) ∧ Keeps (fun _ => False) w w' := by
  obtain ⟨n, rfl⟩ := Int.eq_ofNat_of_zero_le (show 0 ≤ k by omega)
  exact row_any n w (by omega) (by omega)
theorem rowH_le (k : Nat) : rowH k ≤ 4 := by unfold rowH; split <;> omega

set_option maxRecDepth 100000 in
set_option maxHeartbeats 4000000 in
theorem fields_any (o : Cm.Op) (w : World) (h1 : 1 ≤ o.kind) (h2 : o.kind ≤ 11) : Calls Tryd.prog 60 #[opV o] w fun e w' => e = .returned (.bool (fieldsOk o)) ∧ Keeps (fun _ => False) w w' := by
  have hf : fieldsOk o = fieldsH (rowH o.kind.toNat) o := by unfold fieldsOk; rw [if_neg (by omega)]
  rw [hf]
  have hr := row_int o.kind
  have hle := rowH_le o.kind.toNat
  clear hf
  obtain ⟨kd, rs, n, v⟩ := o
  unfold opV
  simp only at *
  unfold wordV at hr
  generalize (⟨(rowW kd.toNat).toArray⟩ : ByteArray) = wv at *
  generalize rowH kd.toNat = hv at *
  have Hr := hid hr
  clear hr
  have k0 := (Keeps.refl (fun _ => False) w).alloc (.cells #[.int .i64 kd, .int .i64 rs, .int .i64 n, .int .i64 v] TOp)
  have hB := Blk.new w TOp [.int .i64 kd, .int .i64 rs, .int .i64 n, .int .i64 v]
  have K0 := hid k0
  have HB := hid hB
  clear k0 hB
  obtain rfl | rfl | rfl | rfl | rfl : hv = 1 ∨ hv = 2 ∨ hv = 3 ∨ hv = 4 ∨ hv = 0 := by omega
  all_goals
    simp only [fieldsH]
    go_enter Tryd.func60, Tryd.ntmps60
    go_wp2_with fail
    refine (Hr.out _ h1 h2).mono ?_; rintro e w1 ⟨rfl, k1⟩
    obtain ⟨c0, c1, c2, c3, cz⟩ := cells4 (k1.blk HB.out id)
    have K1 := hid (K0.out.trans k1)
    clear k1
    go_wp2_with fail
    all_goals
      go_ret
      refine ⟨ret_bool ?_, K1.out.alloc _⟩
      first
        | rfl
        | (rw [Bool.eq_iff_iff]; simp; done)
        | (rw [Bool.eq_iff_iff]; simp; omega)

theorem kindFrom_yes {w : List UInt8} {f k : Nat} (h : rowW k = w) : kindFrom w (f + 1) k = k := by unfold kindFrom; rw [if_pos h]
theorem kindFrom_no {w : List UInt8} {f k : Nat} (h : rowW k ≠ w) : kindFrom w (f + 1) k = kindFrom w f (k + 1) := by
  conv => lhs; unfold kindFrom
  rw [if_neg h]

set_option maxRecDepth 100000 in
set_option maxHeartbeats 4000000 in
theorem kindOf_any (s : ByteArray) (w : World) : Calls Tryd.prog 42 #[.string s] w fun e w' => e = .returned (.int .i64 (kindOf s.data.toList)) ∧ Keeps (fun _ => False) w w' := by
  generalize hK : kindOf s.data.toList = K at *
  have HK := hid hK
  clear hK
  go_enter Tryd.func42, Tryd.ntmps42
  go_wp2_with fail
  go_loopw [3] (fun i wr => ∃ k : Nat, 1 ≤ k ∧ k ≤ 12 ∧ i = .int .i64 k ∧ Hid (kindFrom s.data.toList (12 - k) k = K) ∧ Keeps (fun _ => False) w wr) (fun i _ => 12 - (intOf i).toNat)
  case atStart => exact ⟨1, by omega, by omega, rfl, HK, Keeps.refl _ _⟩
  case round =>
    obtain ⟨k, hk1, hk2, rfl, Hk, hK⟩ := hrel
    have HKp := hid hK
    clear hK
    by_cases hlt : k ≤ 11
    · have b1 : decide ((k : Int) ≤ 11) = true := by simp; omega
      by_cases hw : rowW k = s.data.toList
      · have h0 : K = k := by rw [← Hk.out, show 12 - k = (11 - k) + 1 by omega, kindFrom_yes hw]
        have H0 := hid h0
        have b2 : (rowW k == s.toList) = true := by rw [ByteArray.toList_eq]; simpa using hw
        clear hw h0
        go_wp2_with fail
        refine (row_any k _ hk1 hlt).mono ?_; rintro e w1 ⟨rfl, k1⟩
        unfold wordV
        have K1 := hid (HKp.out.trans k1)
        clear k1
        go_wp2_with fail
        go_ret
        exact ⟨ret_int (by rw [H0.out]), K1.out.alloc _⟩
      · have H0 := hid (show kindFrom s.data.toList (12 - (k + 1)) (k + 1) = K by rw [← Hk.out, show 12 - k = (11 - k) + 1 by omega, kindFrom_no hw]; congr 1; omega)
        have b2 : (rowW k == s.toList) = false := by rw [ByteArray.toList_eq]; simpa using hw
        clear hw
        go_wp2_with fail
        refine (row_any k _ hk1 hlt).mono ?_; rintro e w1 ⟨rfl, k1⟩
        unfold wordV
        have K1 := hid (HKp.out.trans k1)
        clear k1
        go_wp2_with fail
        refine ⟨⟨k + 1, by omega, by omega, by go_num, H0, K1.out.alloc _⟩, ?_⟩
        simp [intOf]; omega
    · have b1 : decide ((k : Int) ≤ 11) = false := by simp; omega
      have h0 : K = 0 := by rw [← Hk.out, show 12 - k = 0 by omega]; rfl
      have H0 := hid h0
      clear h0
      go_wp2_with fail
      go_ret
      exact ⟨ret_int (by rw [H0.out]; rfl), HKp.out⟩

set_option maxRecDepth 100000 in
set_option maxHeartbeats 1000000 in
theorem begins_any {w : World} {rb on oc kind : Nat} {oa : Option Addr} {i opn : Int} {s : ByteArray} (hb : Blk w rb TRd [.string s, .int .i64 i, .slice oa on oc, .int .i64 opn]) :
    Calls Tryd.prog 43 #[.pointer (some ⟨rb, 0, none⟩), .int .i64 kind] w fun e w' => e = .returned (.int .i64 (begins kind on opn)) ∧ w = w' := by
  obtain ⟨c0, c1, c2, c3, cz⟩ := cells4 hb
  generalize hB : begins kind on opn = B at *
  have HB := hid hB
  clear hB hb
  go_enter Tryd.func43, Tryd.ntmps43
  go_wp2_with fail
  all_goals
    go_ret
    refine ⟨ret_int ?_, rfl⟩
    rw [← HB.out]
    simp only [beq_iff_eq, beq_eq_false_iff_ne, ne_eq] at *
    unfold begins
    (repeat' split) <;> omega
end Go.Proofs.YtkaecdkmalppcaaDoor
