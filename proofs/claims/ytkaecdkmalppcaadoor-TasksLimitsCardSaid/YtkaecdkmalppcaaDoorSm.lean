/-
  keelbook.Same of operations, needs, numbers; keellaw4.same.
-/
import Derived.Test.YtkaecdkmalppcaaDoorTh
import Derived.Test.YtkaecdkmalppcaaDoorTa
import Derived.Laws.StructEq
namespace Go.Proofs.YtkaecdkmalppcaaDoor
open Go.RowKit Go.Kw Go.Kreg Go.Tm

/-- A slice value that reads as these cells, n elements. -/
def Rd (w : World) (v : Value) (n sz : Nat) (cs : List Value) : Prop :=
  ∃ ao c, v = .slice ao n c ∧ n ≤ 9223372036854775807 ∧ cs.length = n * sz ∧ ∀ (j : Nat) u, cs[j]? = some u → ∃ b o, ao = some ⟨b, o, none⟩ ∧ w.cell? ⟨b, o + j, none⟩ = some u
theorem Rd.new {w w' : World} {v : Value} {n sz : Nat} {cs : List Value} (h : Rd w v n sz cs) (hk : Keeps (fun _ => False) w w') : Rd w' v n sz cs := by
  obtain ⟨ao, c, h1, h2, h3, h4⟩ := h
  refine ⟨ao, c, h1, h2, h3, fun j u hj => ?_⟩
  obtain ⟨b, o, e, hc⟩ := h4 j u hj
  exact ⟨b, o, e, cellIn hk hc⟩
theorem Rd.blk {w : World} {b n sz : Nat} {T : TypeId} {cs : List Value} (h : Blk w b T cs) (hn : n ≤ 9223372036854775807) (hl : cs.length = n * sz) : Rd w (.slice (some ⟨b, 0, none⟩) n n) n sz cs :=
  ⟨_, _, rfl, hn, hl, fun j u hj => ⟨b, 0, rfl, by rw [Nat.zero_add]; exact h.at hj⟩⟩
theorem Rd.own {w : World} {T : TypeId} {v : Value} {n sz : Nat} {cs : List Value} (h : Own w T sz v n cs) (hn : n ≤ 9223372036854775807) : Rd w v n sz cs := by
  obtain ⟨ao, c, rfl, _⟩ := h.shape
  refine ⟨ao, c, rfl, hn, h.1, fun j u hj => ?_⟩
  have hpos : 0 < n := by
    rcases Nat.eq_zero_or_pos n with h0 | h0
    · have := (List.getElem?_eq_some_iff.1 hj).1
      rw [h.1, h0, Nat.zero_mul] at this; omega
    · exact h0
  obtain ⟨g, cap, e, _⟩ := h.form hpos
  cases e
  exact ⟨g, 0, rfl, by rw [Nat.zero_add]; exact h.cells' (g := g) rfl hj⟩
theorem Rd.nd {w : World} {v : Value} {l : List Need} (h : SlNd w v l) : Rd w v l.length 2 (needsC l) := by
  obtain ⟨ao, c, rfl, hl, _, _, hc, _⟩ := h
  refine ⟨ao, c, rfl, hl, needsC_len l, fun j u hj => ?_⟩
  have hlt : j / 2 < l.length := by
    have := (List.getElem?_eq_some_iff.1 hj).1
    rw [needsC_len] at this; omega
  obtain ⟨b, o, rfl, g0, g1⟩ := hc _ _ (List.getElem?_eq_getElem hlt)
  exact ⟨b, o, rfl, by have := slnd_src hc _ rfl j u hj; rwa [add_at] at this⟩

theorem eqOp (w : World) (x y : Cm.Op) : (Op.equalIn 10000 TOp (.agg #[.int .i64 x.kind, .int .i64 x.res, .int .i64 x.n, .int .i64 x.v]) (.agg #[.int .i64 y.kind, .int .i64 y.res, .int .i64 y.n, .int .i64 y.v])).run Tryd.prog w = .ok (decide (x = y)) w := by
  have hS : Tryd.prog.underlying TOp = some (.struct (Tryd.prog.fieldsOf TOp)) := by kernel_rfl
  have hp : Tryd.prog.stoodInHeld TOp = false := by kernel_rfl
  rw [show (10000 : Nat) = 9999 + 1 from rfl, run_equalIn_struct w 9999 TOp _ _ hS hp]
  simp only [Program.fieldsOf, Tryd.underlying53]
  obtain ⟨a, b, c, d⟩ := x
  obtain ⟨a', b', c', d'⟩ := y
  go_simp
  by_cases h1 : a = a' <;> by_cases h2 : b = b' <;> by_cases h3 : c = c' <;> by_cases h4 : d = d' <;> simp [h1, h2, h3, h4]
theorem eqNd (w : World) (x y : Need) : (Op.equalIn 10000 TNd (.agg #[.int .i64 x.res, .int .i64 x.units]) (.agg #[.int .i64 y.res, .int .i64 y.units])).run Tryd.prog w = .ok (decide (x = y)) w := by
  have hS : Tryd.prog.underlying TNd = some (.struct (Tryd.prog.fieldsOf TNd)) := by kernel_rfl
  have hp : Tryd.prog.stoodInHeld TNd = false := by kernel_rfl
  rw [show (10000 : Nat) = 9999 + 1 from rfl, run_equalIn_struct w 9999 TNd _ _ hS hp]
  simp only [Program.fieldsOf, Tryd.underlying32]
  obtain ⟨a, b⟩ := x
  obtain ⟨a', b'⟩ := y
  go_simp
  by_cases h1 : a = a' <;> by_cases h2 : b = b' <;> simp [h1, h2]
section
variable {w : World} {va vb : Value} {xs ys : List Cm.Op}
set_option maxRecDepth 100000 in
set_option maxHeartbeats 2000000 in
theorem sameOp_any (ha : Rd w va xs.length 4 (opsC xs)) (hb : Rd w vb ys.length 4 (opsC ys)) : Calls Tryd.prog 20 #[va, vb] w fun e w' => e = .returned (.bool (decide (xs = ys))) ∧ ∃ n, w' = w.drewN n := by
  obtain ⟨aa, ac, rfl, ha1, -, ha2⟩ := ha
  obtain ⟨ba, bc, rfl, hb1, -, hb2⟩ := hb
  by_cases hl : xs.length ≠ ys.length
  · have b0 : ((xs.length : Int) != (ys.length : Int)) = true := by simp; omega
    have hR : decide (xs = ys) = false := by simp; intro e; exact hl (by rw [e])
    rw [hR]
    clear ha2 hb2 hl hR
    go_enter Tryd.func20, Tryd.ntmps20
    go_wp2_with fail
    go_ret
    exact ⟨rfl, 0, rfl⟩
  · have hl : xs.length = ys.length := by simpa using hl
    have b0 : ((xs.length : Int) != (ys.length : Int)) = false := by simp; omega
    obtain ⟨R, hR⟩ : ∃ R, decide (xs = ys) = R := ⟨_, rfl⟩
    rw [hR]
    have HR := hid hR
    have Ha := hid ha2
    have Hb := hid hb2
    have Hl := hid hl
    clear ha2 hb2 hl hR
    go_enter Tryd.func20, Tryd.ntmps20
    go_wp2_with fail
    go_loopw [5] (fun x wr => ∃ (k : Nat), k ≤ xs.length ∧ x = .int .i64 k ∧ Hid (xs.take k = ys.take k) ∧ ∃ n, wr = w.drewN n) (fun x _ => xs.length - (intOf x).toNat)
    case atStart => exact ⟨0, Nat.zero_le _, rfl, hid rfl, 0, rfl⟩
    case round =>
      obtain ⟨k, hk, rfl, Hq, n, rfl⟩ := hrel
      by_cases hlt : k < xs.length
      · have b1 : decide (k < xs.length) = true := by simpa using hlt
        have hlt2 : k < ys.length := by rw [← Hl.out]; exact hlt
        have hx := List.getElem?_eq_getElem hlt
        have hy := List.getElem?_eq_getElem hlt2
        obtain ⟨x0, x1, x2, x3⟩ := opsC_at hx
        obtain ⟨y0, y1, y2, y3⟩ := opsC_at hy
        obtain ⟨b, o, rfl, c0⟩ := Ha.out _ _ x0
        obtain ⟨_, _, e1, c1⟩ := Ha.out _ _ x1
        cases e1
        obtain ⟨_, _, e1, c2⟩ := Ha.out _ _ x2
        cases e1
        obtain ⟨_, _, e1, c3⟩ := Ha.out _ _ x3
        cases e1
        obtain ⟨b', o', rfl, d0⟩ := Hb.out _ _ y0
        obtain ⟨_, _, e1, d1⟩ := Hb.out _ _ y1
        cases e1
        obtain ⟨_, _, e1, d2⟩ := Hb.out _ _ y2
        cases e1
        obtain ⟨_, _, e1, d3⟩ := Hb.out _ _ y3
        cases e1
        simp only [← Nat.add_assoc] at c1 c2 c3 d1 d2 d3
        have Hx := hid hx
        have Hy := hid hy
        generalize xs[k] = x at *
        generalize ys[k] = y at *
        have i0 : (0 : Int) ≤ (k : Int) := by omega
        have i1 : (k : Int) < (xs.length : Int) := by omega
        have i2 : (k : Int) < (ys.length : Int) := by omega
        clear x0 x1 x2 x3 y0 y1 y2 y3 hx hy
        have heq := fun w => eqOp w x y
        by_cases hxy : x = y
        · rw [show decide (x = y) = true by simpa using hxy] at heq
          have Hxy := hid hxy
          clear hxy
          go_wp2_with fail
          go_quiet (fail)
          go_wp2_with fail
          go_roundw
          case rel => exact ⟨k + 1, by omega, by go_num, hid (by rw [List.take_add_one, List.take_add_one, Hx.out, Hy.out, Hq.out, Hxy.out]), _, by first | rfl | exact (World.drewN_drewN ..).symm⟩
          case measure => simp [intOf]; omega
        · rw [show decide (x = y) = false by simpa using hxy] at heq
          have e : R = false := by
            rw [← HR.out, decide_eq_false_iff_not]
            intro e
            have h1 := Hx.out
            rw [e, Hy.out] at h1
            exact hxy (Option.some.inj h1).symm
          subst e
          clear hxy
          go_wp2_with fail
          go_quiet (fail)
          go_wp2_with fail
          go_ret
          exact ⟨rfl, _, World.drewN_drewN ..⟩
      · have b1 : decide (k < xs.length) = false := by simpa using hlt
        have e : R = true := by
          rw [← HR.out, decide_eq_true_eq]
          have := Hq.out
          rw [List.take_of_length_le (by omega), List.take_of_length_le (by rw [← Hl.out]; omega)] at this
          exact this
        subst e
        go_wp2_with fail
        go_ret
        exact ⟨rfl, n, rfl⟩
end
section
variable {w : World} {va vb : Value} {xs ys : List Need}
set_option maxRecDepth 100000 in
set_option maxHeartbeats 2000000 in
theorem sameNd_any (ha : Rd w va xs.length 2 (needsC xs)) (hb : Rd w vb ys.length 2 (needsC ys)) : Calls Tryd.prog 33 #[va, vb] w fun e w' => e = .returned (.bool (decide (xs = ys))) ∧ ∃ n, w' = w.drewN n := by
  obtain ⟨aa, ac, rfl, ha1, -, ha2⟩ := ha
  obtain ⟨ba, bc, rfl, hb1, -, hb2⟩ := hb
  by_cases hl : xs.length ≠ ys.length
  · have b0 : ((xs.length : Int) != (ys.length : Int)) = true := by simp; omega
    have hR : decide (xs = ys) = false := by simp; intro e; exact hl (by rw [e])
    rw [hR]
    clear ha2 hb2 hl hR
    go_enter Tryd.func33, Tryd.ntmps33
    go_wp2_with fail
    go_ret
    exact ⟨rfl, 0, rfl⟩
  · have hl : xs.length = ys.length := by simpa using hl
    have b0 : ((xs.length : Int) != (ys.length : Int)) = false := by simp; omega
    obtain ⟨R, hR⟩ : ∃ R, decide (xs = ys) = R := ⟨_, rfl⟩
    rw [hR]
    have HR := hid hR
    have Ha := hid ha2
    have Hb := hid hb2
    have Hl := hid hl
    clear ha2 hb2 hl hR
    go_enter Tryd.func33, Tryd.ntmps33
    go_wp2_with fail
    go_loopw [5] (fun x wr => ∃ (k : Nat), k ≤ xs.length ∧ x = .int .i64 k ∧ Hid (xs.take k = ys.take k) ∧ ∃ n, wr = w.drewN n) (fun x _ => xs.length - (intOf x).toNat)
    case atStart => exact ⟨0, Nat.zero_le _, rfl, hid rfl, 0, rfl⟩
    case round =>
      obtain ⟨k, hk, rfl, Hq, n, rfl⟩ := hrel
      by_cases hlt : k < xs.length
      · have b1 : decide (k < xs.length) = true := by simpa using hlt
        have hlt2 : k < ys.length := by rw [← Hl.out]; exact hlt
        have hx := List.getElem?_eq_getElem hlt
        have hy := List.getElem?_eq_getElem hlt2
        obtain ⟨x0, x1⟩ := needsC_at hx
        obtain ⟨y0, y1⟩ := needsC_at hy
        obtain ⟨b, o, rfl, c0⟩ := Ha.out _ _ x0
        obtain ⟨_, _, e1, c1⟩ := Ha.out _ _ x1
        cases e1
        obtain ⟨b', o', rfl, d0⟩ := Hb.out _ _ y0
        obtain ⟨_, _, e1, d1⟩ := Hb.out _ _ y1
        cases e1
        simp only [← Nat.add_assoc] at c1 d1
        have Hx := hid hx
        have Hy := hid hy
        generalize xs[k] = x at *
        generalize ys[k] = y at *
        have i0 : (0 : Int) ≤ (k : Int) := by omega
        have i1 : (k : Int) < (xs.length : Int) := by omega
        have i2 : (k : Int) < (ys.length : Int) := by omega
        clear x0 x1 y0 y1 hx hy
        have heq := fun w => eqNd w x y
        by_cases hxy : x = y
        · rw [show decide (x = y) = true by simpa using hxy] at heq
          have Hxy := hid hxy
          clear hxy
          go_wp2_with fail
          go_quiet (fail)
          go_wp2_with fail
          go_roundw
          case rel => exact ⟨k + 1, by omega, by go_num, hid (by rw [List.take_add_one, List.take_add_one, Hx.out, Hy.out, Hq.out, Hxy.out]), _, by first | rfl | exact (World.drewN_drewN ..).symm⟩
          case measure => simp [intOf]; omega
        · rw [show decide (x = y) = false by simpa using hxy] at heq
          have e : R = false := by
            rw [← HR.out, decide_eq_false_iff_not]
            intro e
            have h1 := Hx.out
            rw [e, Hy.out] at h1
            exact hxy (Option.some.inj h1).symm
          subst e
          clear hxy
          go_wp2_with fail
          go_quiet (fail)
          go_wp2_with fail
          go_ret
          exact ⟨rfl, _, World.drewN_drewN ..⟩
      · have b1 : decide (k < xs.length) = false := by simpa using hlt
        have e : R = true := by
          rw [← HR.out, decide_eq_true_eq]
          have := Hq.out
          rw [List.take_of_length_le (by omega), List.take_of_length_le (by rw [← Hl.out]; omega)] at this
          exact this
        subst e
        go_wp2_with fail
        go_ret
        exact ⟨rfl, n, rfl⟩
end
section
variable {w : World} {va vb : Value} {xs ys : List Int}
set_option maxRecDepth 100000 in
set_option maxHeartbeats 2000000 in
theorem sameI_any (ha : Rd w va xs.length 1 (intsC xs)) (hb : Rd w vb ys.length 1 (intsC ys)) : Calls Tryd.prog 23 #[va, vb] w fun e w' => e = .returned (.bool (decide (xs = ys))) ∧ ∃ n, w' = w.drewN n := by
  obtain ⟨aa, ac, rfl, ha1, -, ha2⟩ := ha
  obtain ⟨ba, bc, rfl, hb1, -, hb2⟩ := hb
  by_cases hl : xs.length ≠ ys.length
  · have b0 : ((xs.length : Int) != (ys.length : Int)) = true := by simp; omega
    have hR : decide (xs = ys) = false := by simp; intro e; exact hl (by rw [e])
    rw [hR]
    clear ha2 hb2 hl hR
    go_enter Tryd.func23, Tryd.ntmps23
    go_wp2_with fail
    go_ret
    exact ⟨rfl, 0, rfl⟩
  · have hl : xs.length = ys.length := by simpa using hl
    have b0 : ((xs.length : Int) != (ys.length : Int)) = false := by simp; omega
    obtain ⟨R, hR⟩ : ∃ R, decide (xs = ys) = R := ⟨_, rfl⟩
    rw [hR]
    have HR := hid hR
    have Ha := hid ha2
    have Hb := hid hb2
    have Hl := hid hl
    clear ha2 hb2 hl hR
    go_enter Tryd.func23, Tryd.ntmps23
    go_wp2_with fail
    go_loopw [5] (fun x wr => ∃ (k : Nat), k ≤ xs.length ∧ x = .int .i64 k ∧ Hid (xs.take k = ys.take k) ∧ ∃ n, wr = w.drewN n) (fun x _ => xs.length - (intOf x).toNat)
    case atStart => exact ⟨0, Nat.zero_le _, rfl, hid rfl, 0, rfl⟩
    case round =>
      obtain ⟨k, hk, rfl, Hq, n, rfl⟩ := hrel
      by_cases hlt : k < xs.length
      · have b1 : decide (k < xs.length) = true := by simpa using hlt
        have hlt2 : k < ys.length := by rw [← Hl.out]; exact hlt
        have hx := List.getElem?_eq_getElem hlt
        have hy := List.getElem?_eq_getElem hlt2
        have x0 := intsC_at hx
        have y0 := intsC_at hy
        obtain ⟨b, o, rfl, c0⟩ := Ha.out _ _ x0
        obtain ⟨b', o', rfl, d0⟩ := Hb.out _ _ y0
        have Hx := hid hx
        have Hy := hid hy
        generalize xs[k] = x at *
        generalize ys[k] = y at *
        have i0 : (0 : Int) ≤ (k : Int) := by omega
        have i1 : (k : Int) < (xs.length : Int) := by omega
        have i2 : (k : Int) < (ys.length : Int) := by omega
        clear x0 y0 hx hy
        by_cases hxy : x = y
        · have heq : (x != y) = false := by simpa using hxy
          have Hxy := hid hxy
          clear hxy
          go_wp2_with fail
          go_quiet (fail)
          go_wp2_with fail
          go_roundw
          case rel => exact ⟨k + 1, by omega, by go_num, hid (by rw [List.take_add_one, List.take_add_one, Hx.out, Hy.out, Hq.out, Hxy.out]), _, by first | rfl | exact (World.drewN_drewN ..).symm⟩
          case measure => simp [intOf]; omega
        · have heq : (x != y) = true := by simpa using hxy
          have e : R = false := by
            rw [← HR.out, decide_eq_false_iff_not]
            intro e
            have h1 := Hx.out
            rw [e, Hy.out] at h1
            exact hxy (Option.some.inj h1).symm
          subst e
          clear hxy
          go_wp2_with fail
          go_quiet (fail)
          go_wp2_with fail
          go_ret
          exact ⟨rfl, _, World.drewN_drewN ..⟩
      · have b1 : decide (k < xs.length) = false := by simpa using hlt
        have e : R = true := by
          rw [← HR.out, decide_eq_true_eq]
          have := Hq.out
          rw [List.take_of_length_le (by omega), List.take_of_length_le (by rw [← Hl.out]; omega)] at this
          exact this
        subst e
        go_wp2_with fail
        go_ret
        exact ⟨rfl, n, rfl⟩
end
end Go.Proofs.YtkaecdkmalppcaaDoor
