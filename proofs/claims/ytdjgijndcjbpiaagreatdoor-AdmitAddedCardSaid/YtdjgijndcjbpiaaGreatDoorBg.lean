/-
  keelbook.Same of sections; what is told of no table.
-/
import Derived.Test.YtdjgijndcjbpiaaGreatDoorBe
import Derived.Test.YtdjgijndcjbpiaaGreatDoorBq
import Derived.Test.YtdjgijndcjbpiaaGreatDoorAr
namespace Go.Proofs.YtdjgijndcjbpiaaGreatDoor
open Go.RowKit Go.Kw Go.Kreg Go.Tm Go.Ad
set_option linter.unusedSimpArgs false
set_option linter.unusedVariables false

theorem eqSe (w : World) (x y : Sec) : (Op.equalIn 10000 TSe (.agg #[.int .i64 x.res, .int .i64 x.units, .int .i64 x.held, .int .i64 x.frm, .int .i64 x.upto]) (.agg #[.int .i64 y.res, .int .i64 y.units, .int .i64 y.held, .int .i64 y.frm, .int .i64 y.upto])).run Tryz.prog w = .ok (decide (x = y)) w := by
  have hS : Tryz.prog.underlying TSe = some (.struct (Tryz.prog.fieldsOf TSe)) := by kernel_rfl
  have hp : Tryz.prog.stoodInHeld TSe = false := by kernel_rfl
  rw [show (10000 : Nat) = 9999 + 1 from rfl, run_equalIn_struct w 9999 TSe _ _ hS hp]
  simp only [Program.fieldsOf, Tryz.underlying98]
  obtain ⟨a, b, c, d, e⟩ := x
  obtain ⟨a', b', c', d', e'⟩ := y
  go_simp
  by_cases h1 : a = a' <;> by_cases h2 : b = b' <;> by_cases h3 : c = c' <;> by_cases h4 : d = d' <;> by_cases h5 : e = e' <;> simp [h1, h2, h3, h4, h5] <;> omega
theorem eqHit (w : World) (x y : Hit) : (Op.equalIn 10000 THit (.agg #[.int .i64 x.task, .int .i64 x.frm, .int .i64 x.upto]) (.agg #[.int .i64 y.task, .int .i64 y.frm, .int .i64 y.upto])).run Tryz.prog w = .ok (decide (x = y)) w := by
  have hS : Tryz.prog.underlying THit = some (.struct (Tryz.prog.fieldsOf THit)) := by kernel_rfl
  have hp : Tryz.prog.stoodInHeld THit = false := by kernel_rfl
  rw [show (10000 : Nat) = 9999 + 1 from rfl, run_equalIn_struct w 9999 THit _ _ hS hp]
  simp only [Program.fieldsOf, Tryz.underlying102]
  obtain ⟨a, b, c⟩ := x
  obtain ⟨a', b', c'⟩ := y
  go_simp
  by_cases h1 : a = a' <;> by_cases h2 : b = b' <;> by_cases h3 : c = c' <;> simp [h1, h2, h3]
theorem RdS.vec {w : World} {T : TypeId} {v : Value} {n sz : Nat} {cs : List Value} (h : Vec w T sz v n cs) (hn : n ≤ 9223372036854775807) : RdS w v n sz cs := by
  obtain ⟨ao, c, rfl, _⟩ := h.shape
  refine ⟨ao, c, rfl, hn, h.1, fun j u hj => ?_⟩
  have hpos : 0 < n := by
    rcases Nat.eq_zero_or_pos n with h0 | h0
    · have := (List.getElem?_eq_some_iff.1 hj).1
      rw [h.1, h0, Nat.zero_mul] at this; omega
    · exact h0
  obtain ⟨g, cap, e, _⟩ := h.form hpos
  cases e
  exact ⟨g, 0, rfl, by rw [Nat.zero_add]; exact h.cells' (g := g) rfl hj⟩
section
variable {w : World} {va vb : Value} {xs ys : List Sec}
set_option maxRecDepth 100000 in
set_option maxHeartbeats 2000000 in
theorem sameSe_any (ha : RdS w va xs.length 5 (secsC xs)) (hb : RdS w vb ys.length 5 (secsC ys)) : Calls Tryz.prog 135 #[va, vb] w fun e w' => e = .returned (.bool (decide (xs = ys))) ∧ ∃ n, w' = w.drewN n := by
  obtain ⟨aa, ac, rfl, ha1, -, ha2⟩ := ha
  obtain ⟨ba, bc, rfl, hb1, -, hb2⟩ := hb
  by_cases hl : xs.length ≠ ys.length
  · have b0 : ((xs.length : Int) != (ys.length : Int)) = true := by simp; omega
    have hR : decide (xs = ys) = false := by simp; intro e; exact hl (by rw [e])
    rw [hR]
    clear ha2 hb2 hl hR
    go_enter Tryz.func135, Tryz.ntmps135
    go_wp2_with fail
    go_ret
    exact ⟨rfl, 0, rfl⟩
  · have hl : xs.length = ys.length := by simpa using hl
    have b0 : ((xs.length : Int) != (ys.length : Int)) = false := by simp; omega
    obtain ⟨R, hR⟩ : ∃ R, decide (xs = ys) = R := ⟨_, rfl⟩
    rw [hR]
    have HR := hid hR
    have Ha := hid ha2
    have Hb := hid hb2
    have Hl := hid hl
    clear ha2 hb2 hl hR
    go_enter Tryz.func135, Tryz.ntmps135
    go_wp2_with fail
    go_loopw [5] (fun x wr => ∃ (k : Nat), k ≤ xs.length ∧ x = .int .i64 k ∧ Hid (xs.take k = ys.take k) ∧ ∃ n, wr = w.drewN n) (fun x _ => xs.length - (intOf x).toNat)
    case atStart => exact ⟨0, Nat.zero_le _, rfl, hid rfl, 0, rfl⟩
    case round =>
      obtain ⟨k, hk, rfl, Hq, n, rfl⟩ := hrel
      by_cases hlt : k < xs.length
      · have b1 : decide (k < xs.length) = true := by simpa using hlt
        have hlt2 : k < ys.length := by rw [← Hl.out]; exact hlt
        have hx := List.getElem?_eq_getElem hlt
        have hy := List.getElem?_eq_getElem hlt2
        obtain ⟨x0, x1, x2, x3, x4⟩ := secsC_at hx
        obtain ⟨y0, y1, y2, y3, y4⟩ := secsC_at hy
        obtain ⟨b, o, rfl, c0⟩ := Ha.out _ _ x0
        obtain ⟨_, _, e1, c1⟩ := Ha.out _ _ x1
        cases e1
        obtain ⟨_, _, e1, c2⟩ := Ha.out _ _ x2
        cases e1
        obtain ⟨_, _, e1, c3⟩ := Ha.out _ _ x3
        cases e1
        obtain ⟨_, _, e1, c4⟩ := Ha.out _ _ x4
        cases e1
        obtain ⟨b', o', rfl, d0⟩ := Hb.out _ _ y0
        obtain ⟨_, _, e1, d1⟩ := Hb.out _ _ y1
        cases e1
        obtain ⟨_, _, e1, d2⟩ := Hb.out _ _ y2
        cases e1
        obtain ⟨_, _, e1, d3⟩ := Hb.out _ _ y3
        cases e1
        obtain ⟨_, _, e1, d4⟩ := Hb.out _ _ y4
        cases e1
        simp only [← Nat.add_assoc] at c1 c2 c3 c4 d1 d2 d3 d4
        have Hx := hid hx
        have Hy := hid hy
        generalize xs[k] = x at *
        generalize ys[k] = y at *
        have i0 : (0 : Int) ≤ (k : Int) := by omega
        have i1 : (k : Int) < (xs.length : Int) := by omega
        have i2 : (k : Int) < (ys.length : Int) := by omega
        clear x0 x1 x2 x3 x4 y0 y1 y2 y3 y4 hx hy
        have heq := fun w => eqSe w x y
        by_cases hxy : x = y
        · rw [show decide (x = y) = true by simpa using hxy] at heq
          have Hxy := hid hxy
          clear hxy
          go_wp2_with fail
          go_quiet (fail)
          go_wp2_with fail
          go_roundw
          case rel => exact ⟨k + 1, by omega, by go_num, hid (by rw [List.take_add_one, List.take_add_one, Hx.out, Hy.out, Hq.out, Hxy.out]), _, by first | rfl | exact (World.drewN_drewN ..).symm⟩
          case measure => simp [intOf]; omega
        · rw [show decide (x = y) = false by simpa using hxy] at heq
          have e : R = false := by
            rw [← HR.out, decide_eq_false_iff_not]
            intro e
            have h1 := Hx.out
            rw [e, Hy.out] at h1
            exact hxy (Option.some.inj h1).symm
          subst e
          clear hxy
          go_wp2_with fail
          go_quiet (fail)
          go_wp2_with fail
          go_ret
          exact ⟨rfl, _, World.drewN_drewN ..⟩
      · have b1 : decide (k < xs.length) = false := by simpa using hlt
        have e : R = true := by
          rw [← HR.out, decide_eq_true_eq]
          have := Hq.out
          rw [List.take_of_length_le (by omega), List.take_of_length_le (by rw [← Hl.out]; omega)] at this
          exact this
        subst e
        go_wp2_with fail
        go_ret
        exact ⟨rfl, n, rfl⟩
end
section
variable {w : World} {va vb : Value} {xs ys : List Need}
end
set_option maxRecDepth 100000 in
theorem lower_nil (w : World) (id : Int) (f : Value) : Calls Tryz.prog 137 #[.pointer none, .int .i64 id, f] w fun e w' => e = .returned (.tuple #[]) ∧ Keeps (fun _ => False) w w' := by
  go_enter Tryz.func137, Tryz.ntmps137
  go_wp2_with fail
  refine bodyPost_ret (v := .tuple #[]) (by simp [results, Tryz.results137]) rfl ?_
  exact ⟨rfl, Keeps.refl _ _⟩
set_option maxRecDepth 100000 in
theorem term_nil (w : World) (id : Int) : Calls Tryz.prog 63 #[.pointer none, .int .i64 id] w fun e w' => e = .returned (.int .i64 0) ∧ Keeps (fun _ => False) w w' := by
  have hS := ((St.start w).new 26 [.pointer none]).new TI' [.int .i64 0]
  simp only [World.size_alloc] at hS
  simp only [Kw.red] at hS
  have HS := hid hS
  clear hS
  go_enter Tryz.func63, Tryz.ntmps63
  go_wp2_with fail
  refine (lower_nil _ _ _).mono ?_; rintro e w1 ⟨rfl, k1⟩
  have HS1 := hid (HS.out.step k1)
  have c0 := (HS1.out.blk 1).cell 0
  simp only [List.getElem?_cons_zero] at c0
  clear k1 HS
  go_wp2_with fail
  go_ret
  exact ⟨rfl, HS1.out.keeps⟩
set_option maxRecDepth 100000 in
theorem longest_nil (w : World) (id : Int) : Calls Tryz.prog 65 #[.pointer none, .int .i64 id] w fun e w' => e = .returned (.int .i64 0) ∧ Keeps (fun _ => False) w w' := by
  have hS := (St.start w).new TI' [.int .i64 0]
  simp only [Kw.red] at hS
  have HS := hid hS
  clear hS
  go_enter Tryz.func65, Tryz.ntmps65
  go_wp2_with fail
  refine (lower_nil _ _ _).mono ?_; rintro e w1 ⟨rfl, k1⟩
  have HS1 := hid (HS.out.step k1)
  have c0 := (HS1.out.blk 0).cell 0
  simp only [List.getElem?_cons_zero] at c0
  clear k1 HS
  go_wp2_with fail
  go_ret
  exact ⟨rfl, HS1.out.keeps⟩
set_option maxRecDepth 100000 in
theorem greatest_nil (w : World) : Calls Tryz.prog 67 #[.pointer none] w fun e w' => e = .returned (.int .i64 0) ∧ Keeps (fun _ => False) w w' := by
  go_enter Tryz.func67, Tryz.ntmps67
  go_wp2_with fail
  go_ret
  exact ⟨rfl, Keeps.refl _ _⟩
end Go.Proofs.YtdjgijndcjbpiaaGreatDoor
