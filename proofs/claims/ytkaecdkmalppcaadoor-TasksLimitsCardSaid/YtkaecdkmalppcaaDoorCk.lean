/-
  Package code, walked: Check.
-/
import Derived.Test.YtkaecdkmalppcaaDoorCp
namespace Go.Proofs.YtkaecdkmalppcaaDoor
open Go.RowKit Go.Kw Go.Kreg Go.Cm

theorem opsC_at {p : List Cm.Op} {i : Nat} {o : Cm.Op} (h : p[i]? = some o) : (opsC p)[i * 4]? = some (.int .i64 o.kind) ∧ (opsC p)[i * 4 + 1]? = some (.int .i64 o.res) ∧ (opsC p)[i * 4 + 2]? = some (.int .i64 o.n) ∧ (opsC p)[i * 4 + 3]? = some (.int .i64 o.v) := by
  have hs : p = p.take i ++ (o :: p.drop (i + 1)) := by
    have := (List.getElem?_eq_some_iff.1 h)
    rw [← this.2, List.getElem_cons_drop, List.take_append_drop]
  have hl : (opsC (p.take i)).length = i * 4 := by
    rw [opsC_len, List.length_take]; have := (List.getElem?_eq_some_iff.1 h).1; omega
  have e : opsC p = opsC (p.take i) ++ (opC o ++ opsC (p.drop (i + 1))) := by
    conv => lhs; rw [hs]
    simp [opsC]
  rw [e]
  refine ⟨?_, ?_, ?_, ?_⟩
  all_goals
    rw [List.getElem?_append_right (by omega), hl]
    simp [opC]

theorem checkFrom_cons (len : Nat) (o : Cm.Op) (p : List Cm.Op) (i : Nat) (opn : Int) : checkFrom len (o :: p) i opn =
    if fieldsOk o = false then ((i : Int), 30)
    else if o.kind = 10 then (if opn = 4 then ((i : Int), 32) else checkFrom len p (i + 1) (opn + 1))
    else if o.kind = 11 then (if opn = 0 then ((i : Int), 31) else checkFrom len p (i + 1) (opn - 1))
    else checkFrom len p (i + 1) opn := rfl
theorem ret_pair {a b : Int} {R : Int × Int} (h : (a, b) = R) : Ending.returned (.tuple #[.int .i64 a, .int .i64 b]) = .returned (.tuple #[.int .i64 R.1, .int .i64 R.2]) := by rw [← h]

section
variable {w : World} {F : Nat → Prop} {v : Value} {p : List Cm.Op}

set_option maxRecDepth 100000 in
set_option maxHeartbeats 4000000 in
theorem check_any (h : Sts [.row TOp 4 v p.length (opsC p)] F w) (hk : ∀ o ∈ p, 1 ≤ o.kind ∧ o.kind ≤ 11) (hl : p.length ≤ 256) :
    Calls Tryd.prog 55 #[v] w fun e w' => e = .returned (.tuple #[.int .i64 (check p).1, .int .i64 (check p).2]) ∧ St F w [.row TOp 4 v p.length (opsC p)] w' := by
  have hR : check p = checkFrom p.length p 0 0 := by unfold check; rw [if_neg (by omega)]
  generalize check p = R at *
  have HR := hid hR
  have HS := hid (St.of h)
  have Hk := hid hk
  have b1 : decide ((256 : Int) < (p.length : Int)) = false := by simp; omega
  obtain ⟨oa, oc, rfl, _⟩ := (HS.out.own 0).shape
  clear hR h hk
  go_enter Tryd.func55, Tryd.ntmps55
  go_wp2_with fail
  go_loopw [12, 4] (fun x y wr => ∃ (i : Nat) (opn : Int), i ≤ p.length ∧ 0 ≤ opn ∧ opn ≤ 4 ∧ x = .int .i64 i ∧ y = .int .i64 opn ∧ Hid (checkFrom p.length (p.drop i) i opn = R) ∧ St F w [.row TOp 4 (.slice oa p.length oc) p.length (opsC p)] wr) (fun x _ _ => p.length - (intOf x).toNat)
  case atStart => exact ⟨0, 0, Nat.zero_le _, by omega, by omega, rfl, rfl, hid HR.out.symm, HS.out⟩
  case round =>
    clear HS
    obtain ⟨i, opn, hi, hop0, hop4, rfl, rfl, HQ, hS⟩ := hrel
    have HS := hid hS
    clear hS
    by_cases hlt : i < p.length
    · have hx := List.getElem?_eq_getElem hlt
      have hdr : p.drop i = p[i] :: p.drop (i + 1) := List.drop_eq_getElem_cons hlt
      have hko := Hk.out _ (List.getElem_mem hlt)
      generalize p[i] = o at *
      obtain ⟨g, cap, e1, _⟩ := (HS.out.own 0).form (by omega)
      cases e1
      obtain ⟨x0, x1, x2, x3⟩ := opsC_at hx
      have d0 := (HS.out.own 0).cells' (g := g) rfl x0
      have d1 := (HS.out.own 0).cells' (g := g) rfl x1
      have d2 := (HS.out.own 0).cells' (g := g) rfl x2
      have d3 := (HS.out.own 0).cells' (g := g) rfl x3
      have hq := HQ.out
      rw [hdr] at hq
      have Hq := hid hq
      have i0 : (0 : Int) ≤ (i : Int) := by omega
      have i1 : (i : Int) < (p.length : Int) := by omega
      have b2 : decide ((i : Int) < (p.length : Int)) = true := by simp; omega
      clear hx hdr x0 x1 x2 x3 hq HQ
      go_wp2_with fail
      refine (fields_any o _ hko.1 hko.2).mono ?_; rintro e w2 ⟨rfl, k2⟩
      have HS2 := hid (HS.out.step (((Keeps.refl (fun _ => False) wr).alloc (.cells #[.int .i64 o.kind, .int .i64 o.res, .int .i64 o.n, .int .i64 o.v] TOp)).trans k2))
      obtain ⟨c0, c1, c2, c3, cz⟩ := cells4 (k2.blk (Blk.new wr TOp [.int .i64 o.kind, .int .i64 o.res, .int .i64 o.n, .int .i64 o.v]) id)
      have hq := Hq.out
      rw [checkFrom_cons] at hq
      clear k2 HS Hq d0 d1 d2 d3
      by_cases hf : fieldsOk o = false
      · rw [hf]
        rw [if_pos hf] at hq
        have Hq := hid hq
        clear hf hq
        go_wp2_with fail
        go_ret2
        exact ⟨ret_pair Hq.out, HS2.out⟩
      · have hf2 : fieldsOk o = true := by simpa using hf
        rw [hf2]
        rw [if_neg hf] at hq
        clear hf hf2
        by_cases h10 : o.kind = 10
        · have e10 : (o.kind == 10) = true := by simpa using h10
          have e11 : (o.kind == 11) = false := by simp; omega
          rw [if_pos h10] at hq
          by_cases h4 : opn = 4
          · rw [if_pos h4] at hq
            have Hq := hid hq
            have e4 : (opn == 4) = true := by simpa using h4
            clear h4 hq h10
            go_wp2_with fail
            go_ret2
            exact ⟨ret_pair Hq.out, HS2.out⟩
          · rw [if_neg h4] at hq
            have Hq := hid hq
            have e4 : (opn == 4) = false := by simpa using h4
            have hlt4 : opn + 1 ≤ 4 := by omega
            clear h4 hq h10
            go_wp2_with fail
            go_roundw
            case rel => exact ⟨i + 1, opn + 1, by omega, by omega, hlt4, by go_num, rfl, hid Hq.out, HS2.out⟩
            case measure => simp [intOf]; omega
        · have e10 : (o.kind == 10) = false := by simpa using h10
          rw [if_neg h10] at hq
          by_cases h11 : o.kind = 11
          · have e11 : (o.kind == 11) = true := by simpa using h11
            rw [if_pos h11] at hq
            by_cases h4 : opn = 0
            · rw [if_pos h4] at hq
              have Hq := hid hq
              have e4 : (opn == 0) = true := by simpa using h4
              clear h4 hq h11 h10
              go_wp2_with fail
              go_ret2
              exact ⟨ret_pair Hq.out, HS2.out⟩
            · rw [if_neg h4] at hq
              have Hq := hid hq
              have e4 : (opn == 0) = false := by simpa using h4
              have hlt4 : 0 ≤ opn - 1 := by omega
              clear h4 hq h11 h10
              go_wp2_with fail
              go_roundw
              case rel => exact ⟨i + 1, opn - 1, by omega, hlt4, by omega, by go_num, rfl, hid Hq.out, HS2.out⟩
              case measure => simp [intOf]; omega
          · have e11 : (o.kind == 11) = false := by simpa using h11
            rw [if_neg h11] at hq
            have Hq := hid hq
            clear hq h11 h10
            go_wp2_with fail
            go_roundw
            case rel => exact ⟨i + 1, opn, by omega, hop0, hop4, by go_num, rfl, hid Hq.out, HS2.out⟩
            case measure => simp [intOf]; omega
    · have b2 : decide ((i : Int) < (p.length : Int)) = false := by simp; omega
      have hq := HQ.out
      rw [List.drop_eq_nil_of_le (by omega)] at hq
      unfold checkFrom at hq
      by_cases hpos : 0 < opn
      · have b3 : decide (0 < opn) = true := by simpa using hpos
        rw [if_pos hpos] at hq
        have Hq := hid hq
        clear hq
        go_wp2_with fail
        go_ret2
        exact ⟨ret_pair Hq.out, HS.out⟩
      · have b3 : decide (0 < opn) = false := by simpa using hpos
        rw [if_neg hpos] at hq
        have Hq := hid hq
        clear hq
        go_wp2_with fail
        go_ret2
        exact ⟨ret_pair Hq.out, HS.out⟩
end
end Go.Proofs.YtkaecdkmalppcaaDoor
