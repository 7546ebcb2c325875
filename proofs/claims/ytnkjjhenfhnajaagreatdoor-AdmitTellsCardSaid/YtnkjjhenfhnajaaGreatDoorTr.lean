/-
  Package tasks, walked: needs, times, what is wrong with a task's needs.
-/
import Derived.Test.YtnkjjhenfhnajaaGreatDoorG11
namespace Go.Proofs.YtnkjjhenfhnajaaGreatDoor
open Go.RowKit Go.Kw Go.Kreg Go.Tm

theorem needOf_cons (n : Need) (l : List Need) (res : Int) : needOf (n :: l) res = if n.res = res then n.units else needOf l res := rfl

section
variable {w : World} {p : Nat} {m : TM} {x : TabX}

set_option maxRecDepth 100000 in
set_option maxHeartbeats 2000000 in
theorem need_any (h : TabAt w p m x) (n res : Int) : Calls Tryz.prog 71 #[.pointer (some ⟨p, 0, none⟩), .int .i64 n, .int .i64 res] w fun e w' => e = .returned (.int .i64 (Tm.need m.ts n res)) ∧ Keeps (fun _ => False) w w' := by
  by_cases hout : n < 0 ∨ (m.ts.length : Int) ≤ n
  · have hR : Tm.need m.ts n res = 0 := by
      unfold Tm.need
      by_cases h0 : n < 0
      · rw [if_pos h0]
      · rw [if_neg h0, List.getElem?_eq_none (by omega)]
    rw [hR]
    have hr := row_out h n hout
    clear h hout hR
    go_enter Tryz.func71, Tryz.ntmps71
    go_wp2_with fail
    refine hr.mono ?_; rintro e w2 ⟨rfl, k2⟩
    clear hr
    go_wp2_with fail
    go_loopw [23] (fun y wr => y = .int .i64 0 ∧ wr = w2.alloc (.cells zrow.toArray TR)) (fun _ _ => 0)
    case atStart => exact ⟨rfl, rfl⟩
    case round =>
      obtain ⟨rfl, rfl⟩ := hrel
      go_wp2_with fail
      go_ret
      exact ⟨rfl, k2.alloc _⟩
  · obtain ⟨i, rfl⟩ := Int.eq_ofNat_of_zero_le (show 0 ≤ n by omega)
    have hlt : i < m.ts.length := by omega
    have ht := List.getElem?_eq_getElem hlt
    generalize m.ts[i] = t at ht
    have hR : Tm.need m.ts i res = needOf t.needs res := by unfold Tm.need; rw [if_neg (by omega), Int.toNat_natCast, ht]
    rw [hR]
    obtain ⟨na, nc, sa, sc, hn1, _, hr⟩ := row_in h ht
    have hfew : t.needs.length ≤ 16 := by
      have h1 := needs_few (h.tok.ok.needs t (List.mem_of_getElem? ht))
      have h2 := h.tok.ok.begins
      unfold begins at h2
      split at h2
      · omega
      · split at h2
        · omega
        · omega
    generalize hRR : needOf t.needs res = R at *
    have HR := hid hRR
    have Hn := hid hn1
    unfold rowC at hr
    generalize (prog t).1.length = sl at *
    clear hR hRR hn1 h hout hlt ht
    go_enter Tryz.func71, Tryz.ntmps71
    go_wp2_with fail
    refine hr.mono ?_; rintro e w2 ⟨rfl, k2⟩
    have K2 := hid (k2.alloc (.cells #[.string t.name, .int .i64 t.level, .int .i64 t.frame, .slice na t.needs.length nc, .string t.code, .int .i64 t.period, .int .i64 t.first, .int .i64 t.gap, .slice sa sl sc] TR))
    clear hr k2
    go_wp2_with fail
    go_loopw [23] (fun y wr => ∃ k : Nat, k ≤ t.needs.length ∧ y = .int .i64 k ∧ Hid (needOf (t.needs.drop k) res = R) ∧ Keeps (fun _ => False) w wr) (fun y _ => t.needs.length - (intOf y).toNat)
    case atStart => exact ⟨0, Nat.zero_le _, rfl, HR, K2.out⟩
    case round =>
      clear K2 HR
      obtain ⟨k, hk, rfl, Hq, hK⟩ := hrel
      have HK := hid hK
      clear hK
      by_cases hlt : k < t.needs.length
      · have b1 : decide (k < t.needs.length) = true := by simpa using hlt
        have hx := List.getElem?_eq_getElem hlt
        have hd := List.drop_eq_getElem_cons hlt
        obtain ⟨x0, x1⟩ := needsC_at hx
        obtain ⟨g, cap, e1, _⟩ := Hn.out.form (by omega)
        cases e1
        have d0 := cellIn HK.out (Hn.out.cells' (g := g) rfl x0)
        have d1 := cellIn HK.out (Hn.out.cells' (g := g) rfl x1)
        have hq := Hq.out
        rw [hd, needOf_cons] at hq
        generalize t.needs[k] = nd at *
        have i0 : (0 : Int) ≤ (k : Int) := by omega
        have i1 : (k : Int) < (t.needs.length : Int) := by omega
        clear x0 x1 hx hd Hq
        by_cases he : nd.res = res
        · have e1 : (nd.res == res) = true := by simpa using he
          rw [if_pos he] at hq
          have Hq := hid hq
          clear he hq
          go_wp2_with fail
          go_ret
          exact ⟨ret_int Hq.out, HK.out.alloc _⟩
        · have e1 : (nd.res == res) = false := by simpa using he
          rw [if_neg he] at hq
          have Hq := hid hq
          clear he hq
          go_wp2_with fail
          go_roundw
          case rel => exact ⟨k + 1, by omega, by go_num, Hq, HK.out.alloc _⟩
          case measure => simp [intOf]; omega
      · have b1 : decide (k < t.needs.length) = false := by simpa using hlt
        have hq := Hq.out
        rw [List.drop_eq_nil_of_le (by omega)] at hq
        have Hq2 := hid hq
        clear hq Hq
        go_wp2_with fail
        go_ret
        exact ⟨ret_int Hq2.out, HK.out⟩
end

theorem idx3 (w : World) (a b c : Int) : (Instr.index 225 (.agg #[.int .i64 a, .int .i64 b, .int .i64 c]) (.int .i64 0)).run Tryz.prog w = .ok (.int .i64 a) w ∧
    (Instr.index 225 (.agg #[.int .i64 a, .int .i64 b, .int .i64 c]) (.int .i64 1)).run Tryz.prog w = .ok (.int .i64 b) w ∧ (Instr.index 225 (.agg #[.int .i64 a, .int .i64 b, .int .i64 c]) (.int .i64 2)).run Tryz.prog w = .ok (.int .i64 c) w := by
  obtain ⟨i, hi, h0, h1, h2⟩ := info_parts infoI
  refine ⟨?_, ?_, ?_⟩ <;> simp [Instr.index, asIntOf, run_underlying Tryz.underlying225, sizeOf, typeInfo, hi, h1, part]
set_option maxRecDepth 100000 in
set_option maxHeartbeats 2000000 in
theorem times_any (w : World) (t : Task) (na : Option Addr) (nl nc : Nat) : Calls Tryz.prog 76 #[taskV t (.slice na nl nc)] w fun e w' => e = .returned (.bool (timesOk t)) ∧ Keeps (fun _ => False) w w' := by
  unfold taskV timesOk gapOk
  generalize t.period = a at *
  generalize t.first = b at *
  generalize t.gap = c at *
  have hx0 := fun w => (idx3 w a b c).1
  have hx1 := fun w => (idx3 w a b c).2.1
  have hx2 := fun w => (idx3 w a b c).2.2
  go_enter Tryz.func76, Tryz.ntmps76
  go_wp2_with fail
  go_loopw [12] (fun y wr => ∃ k : Nat, k ≤ 3 ∧ y = .int .i64 k ∧ (0 < k → 0 ≤ a ∧ a ≤ 1048576) ∧ (1 < k → 0 ≤ b ∧ b ≤ 1048576) ∧ (2 < k → 0 ≤ c ∧ c ≤ 1048576) ∧ wr = w.alloc (.cells #[.string t.name, .int .i64 t.level, .int .i64 t.frame, .slice na nl nc, .string t.code, .int .i64 a, .int .i64 b, .int .i64 c] TTk)) (fun y _ => 3 - (intOf y).toNat)
  case atStart => exact ⟨0, Nat.zero_le _, rfl, fun h => absurd h (by omega), fun h => absurd h (by omega), fun h => absurd h (by omega), rfl⟩
  case round =>
    obtain ⟨k, hk, rfl, ha, hb, hc, rfl⟩ := hrel
    obtain rfl | rfl | rfl | rfl : k = 0 ∨ k = 1 ∨ k = 2 ∨ k = 3 := by omega
    · clear ha hb hc
      by_cases h0 : a < 0
      · have e0 : decide (a < 0) = true := by simpa using h0
        go_wp2_with fail
        go_ret
        exact ⟨ret_bool (by rw [eq_comm, Bool.eq_false_iff]; simp; omega), (Keeps.refl _ _).alloc _⟩
      · have e0 : decide (a < 0) = false := by simpa using h0
        by_cases h1 : 1048576 < a
        · have e1 : decide (1048576 < a) = true := by simpa using h1
          go_wp2_with fail
          go_ret
          exact ⟨ret_bool (by rw [eq_comm, Bool.eq_false_iff]; simp; omega), (Keeps.refl _ _).alloc _⟩
        · have e1 : decide (1048576 < a) = false := by simpa using h1
          go_wp2_with fail
          go_roundw
          case rel => exact ⟨1, by omega, rfl, fun _ => by omega, fun h => absurd h (by omega), fun h => absurd h (by omega), by trivial⟩
          case measure => simp [intOf]
    · have ha := ha (by omega)
      clear hb hc
      by_cases h0 : b < 0
      · have e0 : decide (b < 0) = true := by simpa using h0
        go_wp2_with fail
        go_ret
        exact ⟨ret_bool (by rw [eq_comm, Bool.eq_false_iff]; simp; omega), (Keeps.refl _ _).alloc _⟩
      · have e0 : decide (b < 0) = false := by simpa using h0
        by_cases h1 : 1048576 < b
        · have e1 : decide (1048576 < b) = true := by simpa using h1
          go_wp2_with fail
          go_ret
          exact ⟨ret_bool (by rw [eq_comm, Bool.eq_false_iff]; simp; omega), (Keeps.refl _ _).alloc _⟩
        · have e1 : decide (1048576 < b) = false := by simpa using h1
          go_wp2_with fail
          go_roundw
          case rel => exact ⟨2, by omega, rfl, fun _ => ha, fun _ => by omega, fun h => absurd h (by omega), by trivial⟩
          case measure => simp [intOf]
    · have ha := ha (by omega)
      have hb := hb (by omega)
      clear hc
      by_cases h0 : c < 0
      · have e0 : decide (c < 0) = true := by simpa using h0
        go_wp2_with fail
        go_ret
        exact ⟨ret_bool (by rw [eq_comm, Bool.eq_false_iff]; simp; omega), (Keeps.refl _ _).alloc _⟩
      · have e0 : decide (c < 0) = false := by simpa using h0
        by_cases h1 : 1048576 < c
        · have e1 : decide (1048576 < c) = true := by simpa using h1
          go_wp2_with fail
          go_ret
          exact ⟨ret_bool (by rw [eq_comm, Bool.eq_false_iff]; simp; omega), (Keeps.refl _ _).alloc _⟩
        · have e1 : decide (1048576 < c) = false := by simpa using h1
          go_wp2_with fail
          go_roundw
          case rel => exact ⟨3, by omega, rfl, fun _ => ha, fun _ => hb, fun _ => by omega, by trivial⟩
          case measure => simp [intOf]
    · have ha := ha (by omega)
      have hb := hb (by omega)
      have hc := hc (by omega)
      go_wp2_with fail
      all_goals
        go_ret
        refine ⟨ret_bool ?_, (Keeps.refl _ _).alloc _⟩
        rw [Bool.eq_iff_iff]; simp; omega

/-- A slice value that reads as a list of needs. -/
def SlNd (w : World) (v : Value) (l : List Need) : Prop :=
  ∃ ao c, v = .slice ao l.length c ∧ l.length ≤ 9223372036854775807 ∧ l.length ≤ c ∧ c ≤ maxLen ∧
    (∀ (j : Nat) x, l[j]? = some x → ∃ b o, ao = some ⟨b, o, none⟩ ∧ w.cell? ⟨b, o + j * 2, none⟩ = some (.int .i64 x.res) ∧ w.cell? ⟨b, o + j * 2 + 1, none⟩ = some (.int .i64 x.units)) ∧ (ao = none → c = 0) ∧
    ∀ x ∈ l, (-9223372036854775808 ≤ x.res ∧ x.res ≤ 9223372036854775807) ∧ (-9223372036854775808 ≤ x.units ∧ x.units ≤ 9223372036854775807)
theorem SlNd.keeps {w w' : World} {v : Value} {l : List Need} {F : Nat → Prop} (h : SlNd w v l) (hk : Keeps F w w') (hF : ∀ b, b < w.heap.size → (∃ o n c, v = .slice (some ⟨b, o, none⟩) n c) → ¬ F b) : SlNd w' v l := by
  obtain ⟨ao, c, rfl, hl, hlc, hcm, hc, h0, hx⟩ := h
  refine ⟨ao, c, rfl, hl, hlc, hcm, fun j x hj => ?_, h0, hx⟩
  obtain ⟨b, o, rfl, h1, h2⟩ := hc j x hj
  have hb := hk.block b (World.block_lt_of_cell? w _ h1) (hF b (World.block_lt_of_cell? w _ h1) ⟨o, _, c, rfl⟩)
  exact ⟨b, o, rfl, (World.cell?_of_block (w := w) hb).trans h1, (World.cell?_of_block (w := w) hb).trans h2⟩
theorem SlNd.new {w w' : World} {v : Value} {l : List Need} (h : SlNd w v l) (hk : Keeps (fun _ => False) w w') : SlNd w' v l := h.keeps hk fun _ _ _ => id
/-- Outside what is new nothing turns. -/
theorem SlNd.newer {w0 w w' : World} {v : Value} {l : List Need} {F : Nat → Prop} (h : SlNd w v l) (h0 : SlNd w0 v l) (hk : Keeps F w w') (hF : ∀ b, F b → w0.heap.size ≤ b) : SlNd w' v l := by
  by_cases hl : l = []
  · subst hl
    obtain ⟨ao, c, rfl, h1, h2, h3, _, h4, _⟩ := h
    exact ⟨ao, c, rfl, h1, h2, h3, fun j x hj => by simp at hj, h4, by simp⟩
  · refine h.keeps hk fun b _ ⟨o, n, c, e⟩ hf => ?_
    obtain ⟨ao, c', e', _, _, _, hc, _⟩ := h0
    obtain ⟨b', o', rfl, h1, _⟩ := hc 0 (l.head hl) (by cases l; exact absurd rfl hl; rfl)
    rw [e] at e'
    simp only [Value.slice.injEq, Option.some.injEq, Addr.mk.injEq] at e'
    have := World.block_lt_of_cell? w0 _ h1
    have := hF b hf
    simp only at *
    omega

theorem needsFrom_cons (us : List Int) (pre : Option Need) (n : Need) (l : List Need) : needsFrom us pre (n :: l) = if n.res < 0 ∨ (us.length : Int) ≤ n.res ∨ n.units < 1 ∨ us.getD n.res.toNat 0 < n.units then 1
    else if (match pre with | some p => decide (n.res ≤ p.res) | none => false) then 21 else needsFrom us (some n) l := rfl
/-- The need ahead of the place k. -/
def preOf (l : List Need) (k : Nat) : Option Need := if k = 0 then none else l[k - 1]?

section
variable {w : World} {p : Nat} {m : TM} {x : TabX}
set_option maxRecDepth 100000 in
set_option maxHeartbeats 4000000 in
theorem needs_any (h : TabAt w p m x) {v : Value} {l : List Need} (hv : SlNd w v l) : Calls Tryz.prog 77 #[.pointer (some ⟨p, 0, none⟩), v] w fun e w' => e = .returned (.int .i64 (needsErr m.units l)) ∧ Keeps (fun _ => False) w w' := by
  obtain ⟨oa, oc, rfl, hl, hlc, hcm, hc, _, hx⟩ := hv
  obtain ⟨ua, uc, eu, _⟩ := h.units.shape
  obtain ⟨c0, c1, c2, c3, cz⟩ := h.cells
  have hun := h.units
  rw [eu] at c1 hun
  have hpl := h.blk.lt
  generalize hR : needsErr m.units l = R at *
  have HR := hid hR
  have Hun := hid hun
  have Hc := hid hc
  have Hx := hid hx
  have Hc1 := hid c1
  have hmx : l.length ≤ 9223372036854775807 := by omega
  clear hR hun hc h eu hx c0 c1 c2 c3 cz
  go_enter Tryz.func77, Tryz.ntmps77
  go_wp2_with fail
  go_loopw [9] (fun y wr => ∃ k : Nat, k ≤ l.length ∧ y = .int .i64 k ∧ Hid (needsFrom m.units (preOf l k) (l.drop k) = R) ∧ Keeps (fun _ => False) w wr) (fun y _ => l.length - (intOf y).toNat)
  case atStart => exact ⟨0, Nat.zero_le _, rfl, HR, Keeps.refl _ _⟩
  case round =>
    clear HR
    obtain ⟨k, hk, rfl, Hq, hK⟩ := hrel
    have HK := hid hK
    clear hK
    by_cases hlt : k < l.length
    · have b1 : decide (k < l.length) = true := by simpa using hlt
      have hxk := List.getElem?_eq_getElem hlt
      have hd := List.drop_eq_getElem_cons hlt
      have hpre : preOf l (k + 1) = some l[k] := by unfold preOf; rw [if_neg (by omega), Nat.add_sub_cancel, hxk]
      obtain ⟨b, o, rfl, d0, d1⟩ := Hc.out k _ hxk
      have hbx := Hx.out _ (List.getElem_mem hlt)
      have hq := Hq.out
      rw [hd, needsFrom_cons, ← hpre] at hq
      have hpr : ∀ q, preOf l k = some q → 0 < k ∧ w.cell? ⟨b, o + (k - 1) * 2, none⟩ = some (.int .i64 q.res) := fun q hq => by
        unfold preOf at hq
        split at hq
        · cases hq
        · obtain ⟨b', o', e, e0, _⟩ := Hc.out (k - 1) q hq
          cases e
          exact ⟨by omega, e0⟩
      have d0 := cellIn HK.out d0
      have d1 := cellIn HK.out d1
      have c1 := cellIn HK.out Hc1.out
      generalize l[k] = nd at *
      have i0 : (0 : Int) ≤ (k : Int) := by omega
      have i1 : (k : Int) < (l.length : Int) := by omega
      have Hbx := hid hbx
      have Hpr := hid hpr
      have Hq2 := hid hq
      clear hxk hd hpre hpr hq Hq hbx
      have one : (nd.res < 0 ∨ (m.units.length : Int) ≤ nd.res ∨ nd.units < 1 ∨ m.units.getD nd.res.toNat 0 < nd.units) → 1 = R := fun h => by have := Hq2.out; rw [if_pos h] at this; exact this
      by_cases e1 : nd.res < 0
      · have hR := hid (one (.inl e1))
        have f1 : decide (nd.res < 0) = true := by simpa using e1
        clear one e1
        go_wp2_with fail
        go_quiet (fail)
        go_wp2_with fail
        go_ret
        exact ⟨ret_int hR.out, (HK.out.alloc _).drewN nq⟩
      · by_cases e2 : (m.units.length : Int) ≤ nd.res
        · have hR := hid (one (.inr (.inl e2)))
          have f1 : decide (nd.res < 0) = false := by simpa using e1
          have f2 : decide ((m.units.length : Int) ≤ nd.res) = true := by simpa using e2
          clear one e1 e2
          go_wp2_with fail
          go_quiet (fail)
          go_wp2_with fail
          go_ret
          exact ⟨ret_int hR.out, (HK.out.alloc _).drewN nq⟩
        · by_cases e3 : nd.units < 1
          · have hR := hid (one (.inr (.inr (.inl e3))))
            have f1 : decide (nd.res < 0) = false := by simpa using e1
            have f2 : decide ((m.units.length : Int) ≤ nd.res) = false := by simpa using e2
            have f3 : decide (nd.units < 1) = true := by simpa using e3
            clear one e1 e2 e3
            go_wp2_with fail
            go_quiet (fail)
            go_wp2_with fail
            go_ret
            exact ⟨ret_int hR.out, (HK.out.alloc _).drewN nq⟩
          · have hu : m.units[nd.res.toNat]? = some (m.units.getD nd.res.toNat 0) := by
              have hul : nd.res.toNat < m.units.length := by omega
              rw [List.getD_eq_getElem?_getD, List.getElem?_eq_getElem hul]; rfl
            obtain ⟨ug, ucap, eu, _⟩ := Hun.out.form (by omega)
            cases eu
            have du := cellIn HK.out (Hun.out.cells' (g := ug) rfl (intsC_at hu))
            generalize m.units.getD nd.res.toNat 0 = U at *
            have f1 : decide (nd.res < 0) = false := by simpa using e1
            have f2 : decide ((m.units.length : Int) ≤ nd.res) = false := by simpa using e2
            have f3 : decide (nd.units < 1) = false := by simpa using e3
            have g1 : 0 ≤ nd.res := by omega
            have g2 : nd.res < (m.units.length : Int) := by omega
            by_cases e4 : U < nd.units
            · have hR := hid (one (.inr (.inr (.inr e4))))
              have f4 : decide (U < nd.units) = true := by simpa using e4
              clear one e1 e2 e3 e4 hu
              go_wp2_with fail
              go_quiet (fail)
              go_wp2_with fail
              go_ret
              exact ⟨ret_int hR.out, (HK.out.alloc _).drewN nq⟩
            · have hq := Hq2.out
              rw [if_neg (by omega)] at hq
              have f4 : decide (U < nd.units) = false := by simpa using e4
              have Hq3 := hid hq
              clear one e1 e2 e3 e4 hu hq Hq2
              go_wp2_with fail
              go_quiet (fail)
              revert nq; intro n1
              go_wp2_with fail
              have hq := Hq3.out
              by_cases hk0 : k = 0
              · subst hk0
                rw [show preOf l 0 = none from rfl] at hq
                simp only [Bool.false_eq_true, if_false] at hq
                have Hq4 := hid hq
                clear hq Hq3
                go_quiet (fail)
                go_wp2_with fail
                go_roundw
                case rel => exact ⟨1, by omega, rfl, Hq4, by first | exact (HK.out.alloc _).drewN _ | exact ((HK.out.alloc _).drewN _).drewN _⟩
                case measure => simp [intOf]; omega
              · have hlk : k - 1 < l.length := by omega
                have hpq : preOf l k = some l[k - 1] := by unfold preOf; rw [if_neg hk0, List.getElem?_eq_getElem hlk]
                obtain ⟨_, dp⟩ := Hpr.out _ hpq
                rw [hpq] at hq
                have dp := cellIn HK.out dp
                generalize l[k - 1] = q at *
                have t0 : decide (0 < k) = true := by simp; omega
                have t1 : (0 : Int) ≤ (k : Int) - 1 := by omega
                have t2 : (k : Int) - 1 < (l.length : Int) := by omega
                have t3 : ((k : Int) - 1).toNat = k - 1 := by omega
                by_cases hle : nd.res ≤ q.res
                · have f5 : decide (nd.res ≤ q.res) = true := by simpa using hle
                  simp only [hle, decide_true, if_true] at hq
                  have Hq4 := hid hq
                  clear hq Hq3 hpq hle hk0
                  go_quiet (fail)
                  go_wp2_with fail
                  go_ret
                  exact ⟨ret_int Hq4.out, ((HK.out.alloc _).drewN n1).drewN nq⟩
                · have f5 : decide (nd.res ≤ q.res) = false := by simpa using hle
                  simp only [hle, decide_false, Bool.false_eq_true, if_false] at hq
                  have Hq4 := hid hq
                  clear hq Hq3 hpq hle hk0
                  go_quiet (fail)
                  go_wp2_with fail
                  go_roundw
                  case rel => exact ⟨k + 1, by omega, by go_num, Hq4, by first | exact (HK.out.alloc _).drewN _ | exact ((HK.out.alloc _).drewN _).drewN _⟩
                  case measure => simp [intOf]; omega
    · have b1 : decide (k < l.length) = false := by simpa using hlt
      have hq := Hq.out
      rw [List.drop_eq_nil_of_le (by omega)] at hq
      unfold needsFrom at hq
      have Hq2 := hid hq
      clear hq Hq
      go_wp2_with fail
      go_ret
      exact ⟨ret_int Hq2.out, HK.out⟩
end
end Go.Proofs.YtnkjjhenfhnajaaGreatDoor
