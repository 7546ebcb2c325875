/-
  Texts Ur Uq in one.
-/
import Derived.Test.YtdjgijndcjbpiaaGreatDoorG14
import Derived.Test.YtdjgijndcjbpiaaGreatDoorG05
/-
  keelref6.At, walked.
-/
namespace Go.Proofs.YtdjgijndcjbpiaaGreatDoor
open Go.RowKit Go.Kw Go.Kreg Go.Tm
set_option linter.unusedSimpArgs false
set_option linter.unusedVariables false

section
variable {w : World} {p : Nat} {m : TM} {y : RefX}
set_option maxRecDepth 100000 in
set_option maxHeartbeats 4000000 in
theorem atR_any (h : RefAt w p m y) (res free : Int) : Calls Tryz.prog 47 #[.pointer (some ⟨p, 0, none⟩), .int .i64 res, .int .i64 free] w fun e w' => e = .returned (.int .i64 (m.ceilAt res free)) ∧ w = w' := by
  obtain ⟨c0, c1, c2, cz⟩ := h.cells
  have hlen := h.few
  obtain ⟨ta, tc, etv⟩ := ref_shape h
  obtain ⟨ua, uc, euv⟩ := ref_ushape h
  rw [etv] at c2
  rw [euv] at c1
  obtain ⟨R, hR⟩ : ∃ R, m.ceilAt res free = R := ⟨_, rfl⟩
  rw [hR]
  rw [ceilAt_eq h.tok.ok] at hR
  by_cases hh : m.has res
  · have hh2 := hh
    unfold TM.has at hh2
    have b0 : decide (res < 0) = false := decide_eq_false (by omega)
    have b1 : decide ((m.units.length : Int) ≤ res) = false := decide_eq_false (by omega)
    have HR := hid hR
    have H := hid h
    have Htv := hid etv
    clear h hR etv euv hh hh2
    go_enter Tryz.func47, Tryz.ntmps47
    go_wp2_with fail
    go_loopw [8, 7] (fun i z wr => ∃ (k : Nat), k ≤ m.ts.length ∧ i = .int .i64 k ∧ z = .int .i64 (ceil0 (m.ts.take k) res (max free 0)) ∧ w = wr) (fun i _ _ => m.ts.length - (intOf i).toNat)
    case atStart => exact ⟨0, Nat.zero_le _, rfl, rfl, rfl⟩
    case round =>
      obtain ⟨k, hk, rfl, rfl, rfl⟩ := hrel
      by_cases hlt : k < m.ts.length
      · have a1 : decide (k < m.ts.length) = true := by simpa using hlt
        have ht := List.getElem?_eq_getElem hlt
        have hstep := ceil0_take ht res (max free 0)
        have hneed := needR_any H.out k res
        have hnk : Tm.need m.ts k res = needOf (m.ts[k]).needs res := by unfold Tm.need; rw [if_neg (by omega), Int.toNat_natCast, ht]
        rw [hnk] at hneed
        obtain ⟨g, cap, na, nc, e, ⟨d0, d1, d2, d3, d4, d5, d6, d7⟩, -⟩ := ref_task H.out ht
        rw [Htv.out] at e
        cases e
        generalize m.ts[k] = t at *
        generalize ceil0 (m.ts.take k) res (max free 0) = L at *
        generalize needOf t.needs res = N at *
        have HN := hid hneed
        have i0 : (0 : Int) ≤ (k : Int) := by omega
        have i1 : (k : Int) < (m.ts.length : Int) := by omega
        clear ht hneed hnk
        by_cases h1 : free < N
        · have f1 : decide (free < N) = true := by simpa using h1
          by_cases h2 : 0 < N
          · have f2 : decide (0 < N) = true := by simpa using h2
            rw [if_pos (by omega)] at hstep
            by_cases h3 : L < t.level
            · have f3 : decide (L < t.level) = true := by simpa using h3
              rw [show max L t.level = t.level by omega] at hstep
              have Hst := hid hstep
              clear h1 h2 h3 hstep
              go_wp2_with fail
              refine HN.out.mono ?_; rintro e w2 ⟨rfl, rfl⟩
              go_wp2_with fail
              refine HN.out.mono ?_; rintro e w2 ⟨rfl, rfl⟩
              go_wp2_with fail
              go_roundw
              case rel => exact ⟨k + 1, by omega, by go_num, by rw [Hst.out], by first | rfl | trivial⟩
              case measure => simp [intOf]; omega
            · have f3 : decide (L < t.level) = false := by simpa using h3
              rw [show max L t.level = L by omega] at hstep
              have Hst := hid hstep
              clear h1 h2 h3 hstep
              go_wp2_with fail
              refine HN.out.mono ?_; rintro e w2 ⟨rfl, rfl⟩
              go_wp2_with fail
              refine HN.out.mono ?_; rintro e w2 ⟨rfl, rfl⟩
              go_wp2_with fail
              go_roundw
              case rel => exact ⟨k + 1, by omega, by go_num, by rw [Hst.out], by first | rfl | trivial⟩
              case measure => simp [intOf]; omega
          · have f2 : decide (0 < N) = false := by simpa using h2
            rw [if_neg (by omega)] at hstep
            have Hst := hid hstep
            clear h1 h2 hstep
            go_wp2_with fail
            refine HN.out.mono ?_; rintro e w2 ⟨rfl, rfl⟩
            go_wp2_with fail
            refine HN.out.mono ?_; rintro e w2 ⟨rfl, rfl⟩
            go_wp2_with fail
            go_roundw
            case rel => exact ⟨k + 1, by omega, by go_num, by rw [Hst.out], by first | rfl | trivial⟩
            case measure => simp [intOf]; omega
        · have f1 : decide (free < N) = false := by simpa using h1
          rw [if_neg (by omega)] at hstep
          have Hst := hid hstep
          clear h1 hstep
          go_wp2_with fail
          refine HN.out.mono ?_; rintro e w2 ⟨rfl, rfl⟩
          go_wp2_with fail
          go_roundw
          case rel => exact ⟨k + 1, by omega, by go_num, by rw [Hst.out], by first | rfl | trivial⟩
          case measure => simp [intOf]; omega
      · have a1 : decide (k < m.ts.length) = false := by simpa using hlt
        have e : ceil0 (m.ts.take k) res (max free 0) = R := by rw [List.take_of_length_le (by omega)]; exact HR.out
        rw [e]
        clear e
        go_wp2_with fail
        go_ret
        exact ⟨rfl, rfl⟩
  · have hz := ceil_hasnt h.tok.ok hh (free := max free 0) (by omega)
    rw [hz] at hR
    subst hR
    have hb : decide (res < 0) = true ∨ decide (res < 0) = false ∧ decide ((m.units.length : Int) ≤ res) = true := by
      unfold TM.has at hh
      by_cases h0 : res < 0
      · exact .inl (decide_eq_true h0)
      · exact .inr ⟨decide_eq_false h0, decide_eq_true (by omega)⟩
    clear h hz hh etv euv
    rcases hb with b0 | ⟨b0, b1⟩
    all_goals
      go_enter Tryz.func47, Tryz.ntmps47
      go_wp2_with fail
      go_ret
      exact ⟨rfl, rfl⟩
end
end Go.Proofs.YtdjgijndcjbpiaaGreatDoor

/-
  keelref6.Row, walked.
-/
namespace Go.Proofs.YtdjgijndcjbpiaaGreatDoor
open Go.RowKit Go.Kw Go.Kreg Go.Tm
set_option linter.unusedSimpArgs false
set_option linter.unusedVariables false

section
variable {w : World} {p : Nat} {m : TM} {y : RefX}
set_option maxRecDepth 100000 in
set_option maxHeartbeats 4000000 in
theorem rowR_any (h : RefAt w p m y) (res : Int) : Calls Tryz.prog 48 #[.pointer (some ⟨p, 0, none⟩), .int .i64 res] w fun e w' => ∃ lv, e = .returned lv ∧ St (fun _ => False) w [.row TI' 1 lv (m.ceilRow res).length (intsC (m.ceilRow res))] w' := by
  obtain ⟨c0, c1, c2, cz⟩ := h.cells
  obtain ⟨ua, uc, euv⟩ := ref_ushape h
  rw [euv] at c1
  obtain ⟨R, hR⟩ : ∃ R, m.ceilRow res = R := ⟨_, rfl⟩
  rw [hR]
  unfold TM.ceilRow at hR
  have HS0 := hid (show St (fun _ => False) w [.row TI' 1 (.slice none 0 0) 0 (intsC [])] w from (St.start w).add (Keeps.refl _ _) (G := fun _ => False) ⟨⟨rfl, .inl ⟨rfl, rfl⟩⟩, fun b => by simp [Value.ownBlock]⟩ (fun b hb => hb.elim))
  by_cases hh : m.has res
  · rw [if_pos hh] at hR
    have hub := unitsOf_bd h.tok.ok hh
    have hat : ∀ f : Nat, f ≤ (m.unitsOf res).toNat → m.ceilAt res f = ceil0 m.ts res f := fun f hf => by
      rw [ceilAt_eq h.tok.ok]; congr 1; omega
    have hh2 := hh
    unfold TM.has at hh2
    obtain ⟨r, rfl⟩ := Int.eq_ofNat_of_zero_le hh2.1
    have hu : m.units[r]? = some (m.unitsOf r) := by
      have hul : r < m.units.length := by omega
      unfold TM.unitsOf
      rw [Int.toNat_natCast, List.getD_eq_getElem?_getD, List.getElem?_eq_getElem hul]; rfl
    have hun := h.units
    rw [euv] at hun
    obtain ⟨ug, ucap, e, -⟩ := hun.form (by omega)
    cases e
    have du := hun.cells' (g := ug) rfl (intsC_at hu)
    have b0 : decide ((r : Int) < 0) = false := decide_eq_false (by omega)
    have b1 : decide ((m.units.length : Int) ≤ (r : Int)) = false := decide_eq_false (by omega)
    have b2 : decide (m.units.length ≤ r) = false := decide_eq_false (by omega)
    have i0 : (0 : Int) ≤ (r : Int) := by omega
    have i1 : (r : Int) < (m.units.length : Int) := by omega
    generalize m.unitsOf r = UN at *
    have HR := hid hR
    have H := hid h
    have Hat := hid hat
    have C1 := hid c1
    have DU := hid du
    clear h hR euv hh hh2 hu hun hat c0 c1 c2 cz du
    have cz := H.out.cells.2.2.2
    have c1 := C1.out
    have du := DU.out
    go_enter Tryz.func48, Tryz.ntmps48
    go_wp2_with fail
    go_loopw [6, 5] (fun i z wr => ∃ (k : Nat), (k : Int) ≤ UN + 1 ∧ i = .int .i64 k ∧ St (fun _ => False) w [.row TI' 1 z k (intsC ((List.range k).map fun f => ceil0 m.ts r (f : Nat)))] wr) (fun i _ _ => (UN + 1).toNat - (intOf i).toNat)
    case atStart => exact ⟨0, by omega, rfl, HS0.out⟩
    case round =>
      clear HS0 c1 du cz
      obtain ⟨k, hk, rfl, hS⟩ := hrel
      have c1 := cellIn hS.keeps C1.out
      have du := cellIn hS.keeps DU.out
      obtain ⟨za, zc, rfl, -⟩ := (hS.own 0).shape
      by_cases hlt : (k : Int) ≤ UN
      · have a1 : decide ((k : Int) ≤ UN) = true := by simpa using hlt
        have hcall := atR_any (H.out.keeps hS.keeps) r k
        rw [Hat.out k (by omega)] at hcall
        have hrg : (List.range (k + 1)).map (fun f => ceil0 m.ts r (f : Nat)) = (List.range k).map (fun f => ceil0 m.ts r (f : Nat)) ++ [ceil0 m.ts r k] := by rw [List.range_succ, List.map_append]; rfl
        generalize ceil0 m.ts r k = C at *
        have hS1 := hS.new TI' (intsC [C])
        simp only [Kw.red] at hS1
        have HS1 := hid hS1
        have HC := hid hcall
        have Hrg := hid hrg
        clear hS hS1 hcall hrg
        go_wp2_with fail
        refine HC.out.mono ?_; rintro e w2 ⟨rfl, rfl⟩
        go_wp2_with (at_builtin; refine wpList_appS 0 1 _ _ 22 TI' (.int .i64 0) 1 8 infoI Tryz.underlying22 rfl (by decide) rfl rfl HS1.out rfl rfl rfl rfl rfl (intsC_one [C]) (by omega) (by unfold maxLen; omega) (by omega) ?_; intro gb gc w7 hSc hat)
        go_roundw
        case rel =>
          refine ⟨k + 1, by omega, by go_num, ?_⟩
          have h := hSc.sub [0]
          simp only [Kw.red] at h
          rw [Hrg.out, show intsC (((List.range k).map fun f => ceil0 m.ts r (f : Nat)) ++ [C]) = intsC ((List.range k).map fun f => ceil0 m.ts r (f : Nat)) ++ intsC [C] by simp [intsC]]
          exact h
        case measure => simp [intOf]; omega
      · have a1 : decide ((k : Int) ≤ UN) = false := by simpa using hlt
        have hkU : k = UN.toNat + 1 := by omega
        have hRl : R.length = k := by rw [← HR.out]; simp [hkU]
        have hRR : (List.range k).map (fun f => ceil0 m.ts r (f : Nat)) = R := by rw [← HR.out, hkU]
        rw [hRR] at hS
        have HS := hid hS
        have HRl := hid hRl
        clear hS hRl hRR hkU
        go_wp2_with fail
        go_ret
        refine ⟨.slice za k zc, rfl, ?_⟩
        rw [HRl.out]
        exact HS.out
  · rw [if_neg hh] at hR
    subst hR
    have hb : decide (res < 0) = true ∨ decide (res < 0) = false ∧ decide ((m.units.length : Int) ≤ res) = true := by
      unfold TM.has at hh
      by_cases h0 : res < 0
      · exact .inl (decide_eq_true h0)
      · exact .inr ⟨decide_eq_false h0, decide_eq_true (by omega)⟩
    clear h hh euv
    rcases hb with b0 | ⟨b0, b1⟩
    all_goals
      go_enter Tryz.func48, Tryz.ntmps48
      go_wp2_with fail
      go_ret
      exact ⟨_, rfl, HS0.out⟩
end
end Go.Proofs.YtdjgijndcjbpiaaGreatDoor
