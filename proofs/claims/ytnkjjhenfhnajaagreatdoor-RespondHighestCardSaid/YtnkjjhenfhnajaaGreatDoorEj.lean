/-
  RespondHighest, walked.
-/
import Derived.Test.YtnkjjhenfhnajaaGreatDoorEh
import Derived.Test.YtnkjjhenfhnajaaGreatDoorG29
import Derived.Test.YtnkjjhenfhnajaaGreatDoorBm
namespace Go.Proofs.YtnkjjhenfhnajaaGreatDoor
open Go.RowKit Go.Kw Go.Kreg Go.Tm Go.Ad
set_option linter.unusedSimpArgs false
set_option linter.unusedVariables false

/-- Among the first j nobody but task k has this level or a higher one. -/
def hiTo (ts : List Task) (k : Nat) (lev : Int) : Nat → Bool
  | 0 => true
  | j + 1 => hiTo ts k lev j && (decide (j = k) || match ts[j]? with | some y => decide (y.level < lev) | none => true)
theorem hiTo_all {ts : List Task} {k : Nat} {lev : Int} : ∀ {n : Nat}, hiTo ts k lev n = true → ∀ (j : Nat) y, j < n → ts[j]? = some y → (j : Int) ≠ k → y.level < lev
  | 0, _, j, y, hj, _, _ => by omega
  | n + 1, h, j, y, hj, hy, hne => by
    unfold hiTo at h
    simp only [Bool.and_eq_true, Bool.or_eq_true, decide_eq_true_eq] at h
    by_cases e : j = n
    · subst e
      rw [hy] at h
      rcases h.2 with h2 | h2
      · omega
      · simpa using h2
    · exact hiTo_all h.1 j y (by omega) hy hne
section
variable {W w : World} {F : Nat → Prop}
set_option maxRecDepth 100000 in
set_option maxHeartbeats 8000000 in
theorem high_law (hG : Glob W) (hg : (glC W).holds F w) {W0 : Int} {uv tv : Value} {us : List Int} {ts : List Task} (hu : SlIm w uv us) (ht : SlTk w tv ts) (hnm : ∀ x ∈ ts, x.name.size ≤ 9223372036854775807) :
    Calls Tryz.prog 9 #[.agg #[.int .i64 W0, uv, tv]] w fun e w' => e = .returned (.bool true) ∧ Keeps (fun _ => False) w w' := by
  have HR := hid (fun (w9 : World) (k9 : Keeps (fun _ => False) w w9) => runs12_any hG (glob_new hg k9))
  have hk0 := (Keeps.refl (fun _ => False) w).alloc (.cells #[.int .i64 W0, uv, tv] TSet)
  have HT := hid (made (W0 := W0) hG hg hu ht hnm hk0)
  have hok := setM_ok W0 us ts
  have hlen := setM_len W0 us ts
  obtain ⟨m, hm⟩ : ∃ m, setM W0 us ts = m := ⟨_, rfl⟩
  rw [hm] at hok hlen HT
  have Hg := hid hg
  have Hok := hid hok
  obtain ⟨ua, uc, rfl, -⟩ := id hu
  obtain ⟨la, lc, rfl, -⟩ := id ht
  clear hg hu ht hnm hk0 hm hok
  go_enter Tryz.func9, Tryz.ntmps9
  go_wp2_with fail
  refine HT.out.mono ?_; rintro e w1 ⟨p, q, rfl, hS⟩
  have K1 := hid (glob_keeps Hg.out hS).1
  obtain ⟨y, hy⟩ := tab_at 1 hS
  obtain ⟨z, hz⟩ := ref_at 2 hS
  have Hy := hid hy
  have Hz := hid hz
  have HV := hid (heavy_any hz)
  clear hS hy hz HT
  go_wp2_with fail
  refine HV.out.mono ?_; rintro e w2 ⟨rfl, rfl⟩
  cases hv : heavyM m.ts with
  | true =>
    clear hv
    go_wp2_with fail
    refine (HR.out w1 K1.out).mono ?_; rintro e w2 ⟨rfl, k⟩
    have K2 := hid (K1.out.trans k)
    clear k K1
    go_wp2_with fail
    go_ret
    exact ⟨rfl, K2.out⟩
  | false =>
    clear hv HV
    go_wp2_with fail
    go_loopw [6] (fun y wr => ∃ k : Nat, k ≤ m.ts.length ∧ y = .int .i64 k ∧ Hid (Keeps (fun _ => False) w1 wr)) (fun y _ => m.ts.length - (intOf y).toNat)
    case atStart => exact ⟨0, Nat.zero_le _, rfl, hid (Keeps.refl _ _)⟩
    case round =>
      obtain ⟨k, hk, rfl, KR⟩ := hrel
      have HL := hid (tlen_any (Hy.out.keeps KR.out))
      by_cases hlt : k < m.ts.length
      · have b0 : decide (k < m.ts.length) = true := by simpa using hlt
        have hx := List.getElem?_eq_getElem hlt
        have HGx := hid (get_in (Hy.out.keeps KR.out) hx)
        unfold taskV at HGx
        have hwh := fun h => worst_high Hok.out (in_some hx) h
        have hgi : gapI m.ts k = gapT m.ts[k] := by unfold gapI; rw [in_some hx]
        generalize m.ts[k] = x at *
        have Hwh := hid hwh
        have Hgi := hid hgi
        clear hx hwh hgi
        go_wp2_with fail
        refine HL.out.mono ?_; rintro e w2 ⟨rfl, rfl⟩
        go_wp2_with fail
        refine HGx.out.mono ?_; rintro e w2 ⟨g, rfl, hS⟩
        have HX := hid (((St.start wr).step hS.keeps).new TTk [.string x.name, .int .i64 x.level, .int .i64 x.frame, .slice (some ⟨g, 0, none⟩) x.needs.length x.needs.length, .string x.code, .int .i64 x.period, .int .i64 x.first, .int .i64 x.gap])
        clear hS HGx HL
        go_upto_region 10 with fail
        generalize w2.heap.size = xb at *
        generalize w2.alloc (.cells #[.string x.name, .int .i64 x.level, .int .i64 x.frame, .slice (some ⟨g, 0, none⟩) x.needs.length x.needs.length, .string x.code, .int .i64 x.period, .int .i64 x.first, .int .i64 x.gap] TTk) = w3 at *
        have xl0 : w3.cell? ⟨xb, 1, none⟩ = some (.int .i64 x.level) := (HX.out.blk 0).cell 1
        have XL := hid xl0
        have K3 := hid (KR.out.trans HX.out.keeps)
        clear xl0 HX KR
        go_wp2_with fail
        go_loopw [10, 9] (fun y z wr => ∃ j : Nat, j ≤ m.ts.length ∧ y = .int .i64 j ∧ z = .bool (hiTo m.ts k x.level j) ∧ Hid (Keeps (fun _ => False) w3 wr)) (fun y _ _ => m.ts.length - (intOf y).toNat)
        case atStart => exact ⟨0, Nat.zero_le _, rfl, rfl, hid (Keeps.refl _ _)⟩
        case round =>
          obtain ⟨j, hj, rfl, rfl, KQ⟩ := hrel
          have KI := hid (K3.out.trans KQ.out)
          have HL := hid (tlen_any (Hy.out.keeps KI.out))
          by_cases hlj : j < m.ts.length
          · have b1 : decide (j < m.ts.length) = true := by simpa using hlj
            have hz := List.getElem?_eq_getElem hlj
            have HGz := hid (get_in (Hy.out.keeps KI.out) hz)
            unfold taskV at HGz
            have hst : hiTo m.ts k x.level (j + 1) = (hiTo m.ts k x.level j && (decide (j = k) || decide (m.ts[j].level < x.level))) := by
              conv => lhs; unfold hiTo
              rw [hz]
            generalize m.ts[j] = z at *
            generalize hiTo m.ts k x.level j = HF at *
            have Hst := hid hst
            clear hst hz
            go_wp2_with fail
            refine HL.out.mono ?_; rintro e w5 ⟨rfl, rfl⟩
            go_wp2_with fail
            refine HGz.out.mono ?_; rintro e w5 ⟨g2, rfl, hS⟩
            have HZ := hid (((St.start wr).step hS.keeps).new TTk [.string z.name, .int .i64 z.level, .int .i64 z.frame, .slice (some ⟨g2, 0, none⟩) z.needs.length z.needs.length, .string z.code, .int .i64 z.period, .int .i64 z.first, .int .i64 z.gap])
            clear hS HGz HL
            go_upto_region 15 with fail
            generalize w5.heap.size = zb at *
            generalize w5.alloc (.cells #[.string z.name, .int .i64 z.level, .int .i64 z.frame, .slice (some ⟨g2, 0, none⟩) z.needs.length z.needs.length, .string z.code, .int .i64 z.period, .int .i64 z.first, .int .i64 z.gap] TTk) = w6 at *
            have zl : w6.cell? ⟨zb, 1, none⟩ = some (.int .i64 z.level) := (HZ.out.blk 0).cell 1
            have K6 := hid (KQ.out.trans HZ.out.keeps)
            have xl := cellIn K6.out XL.out
            clear HZ KQ KI
            by_cases hjk : j = k
            · have c1 : ((j : Int) == (k : Int)) = true := by rw [beq_iff_eq]; omega
              have he : hiTo m.ts k x.level (j + 1) = HF := by rw [Hst.out]; simp [hjk]
              have He := hid he
              clear he hjk Hst
              cases HF
              · go_wp2_with fail
                go_roundw
                case rel => exact ⟨j + 1, by omega, by go_num, by rw [He.out], K6⟩
                case measure => simp [intOf]; omega
              · go_wp2_with fail
                go_roundw
                case rel => exact ⟨j + 1, by omega, by go_num, by rw [He.out], K6⟩
                case measure => simp [intOf]; omega
            · have c1 : ((j : Int) == (k : Int)) = false := by rw [beq_eq_false_iff_ne]; omega
              obtain ⟨LV, hLV⟩ : ∃ LV, decide (z.level < x.level) = LV := ⟨_, rfl⟩
              have he : hiTo m.ts k x.level (j + 1) = (HF && LV) := by rw [Hst.out, hLV]; simp [hjk]
              have He := hid he
              clear he hjk Hst
              cases HF
              · clear hLV
                go_wp2_with fail
                go_roundw
                case rel => exact ⟨j + 1, by omega, by go_num, by rw [He.out]; rfl, K6⟩
                case measure => simp [intOf]; omega
              · cases LV
                · go_wp2_with fail
                  go_roundw
                  case rel => exact ⟨j + 1, by omega, by go_num, by rw [He.out]; rfl, K6⟩
                  case measure => simp [intOf]; omega
                · go_wp2_with fail
                  go_roundw
                  case rel => exact ⟨j + 1, by omega, by go_num, by rw [He.out]; rfl, K6⟩
                  case measure => simp [intOf]; omega
          · have b1 : decide (j < m.ts.length) = false := by simpa using hlj
            have hjl : j = m.ts.length := by omega
            cases hF : hiTo m.ts k x.level j with
            | false =>
              clear hF hjl XL
              go_wp2_with fail
              refine HL.out.mono ?_; rintro e w5 ⟨rfl, rfl⟩
              go_wp2_with fail
              go_roundw
              case rel => exact ⟨k + 1, by omega, by go_num, KI⟩
              case measure => simp [intOf]; omega
            | true =>
              have hwo := Hwh.out fun j' y hy hne => hiTo_all hF j' y (by have := (List.getElem?_eq_some_iff.1 hy).1; omega) hy hne
              have c0 := term_nn m k
              have c1 := term_le Hok.out k
              have c2 := cost_nn m.ts k
              have c3 := cost_le m.ts k
              obtain ⟨T, hT⟩ : ∃ T, term m k = T := ⟨_, rfl⟩
              obtain ⟨C, hC⟩ : ∃ C, cost m.ts k = C := ⟨_, rfl⟩
              rw [hT, hC] at hwo
              rw [hT] at c0 c1
              rw [hC] at c2 c3
              rw [Int.add_comm T C] at hwo
              have HT := hid hT
              have HC := hid hC
              generalize gapT x = G at *
              clear hF hjl XL Hwh hT hC
              have c4 : (C + T != C + T) = false := by simp
              go_wp2_with fail
              refine HL.out.mono ?_; rintro e w5 ⟨rfl, rfl⟩
              clear HL
              by_cases h1 : G ≤ 0
              · rw [if_pos h1] at hwo
                have Hwo := hid hwo
                have hpos : decide (0 < G) = false := by simp; omega
                clear hwo
                go_wp2_with fail
                have KA := hid ((Keeps.refl (fun _ => False) wr))
                have hc := gapI_any (Hy.out.keeps (KI.out.trans KA.out)) (k : Int)
                rw [Hgi.out, hpos] at hc
                refine hc.mono ?_; rintro e w12 ⟨rfl, kk⟩
                have K12 := hid (KA.out.trans kk)
                clear hc kk KA
                go_wp2_with fail
                have hc := worst_any Hok.out (Hy.out.keeps (KI.out.trans K12.out)) (k : Int)
                rw [Hwo.out] at hc
                refine hc.mono ?_; rintro e w13 ⟨rfl, kk⟩
                have K13 := hid (K12.out.trans kk)
                clear hc kk K12
                go_wp2_with fail
                have hc := cost_any (Hy.out.keeps (KI.out.trans K13.out)) (k : Int)
                rw [HC.out] at hc
                refine hc.mono ?_; rintro e w14 ⟨rfl, kk⟩
                have K14 := hid (K13.out.trans kk)
                clear hc kk K13
                go_wp2_with fail
                have hc := term_any (Hy.out.keeps (KI.out.trans K14.out)) (k : Int)
                rw [HT.out] at hc
                refine hc.mono ?_; rintro e w15 ⟨rfl, kk⟩
                have K15 := hid (K14.out.trans kk)
                clear hc kk K14
                go_wp2_with fail
                go_roundw
                case rel => exact ⟨k + 1, by omega, by go_num, hid (KI.out.trans K15.out)⟩
                case measure => simp [intOf]; omega
              · rw [if_neg h1] at hwo
                have hpos : decide (0 < G) = true := by simp; omega
                by_cases h2 : C + T ≤ G
                · rw [if_pos h2] at hwo
                  have Hwo := hid hwo
                  have d1 : decide (C + T ≤ G) = true := by simpa using h2
                  have d2 : decide (G < C + T) = false := decide_eq_false (by omega)
                  clear hwo h2
                  go_wp2_with fail
                  have KA := hid ((Keeps.refl (fun _ => False) wr))
                  have hc := gapI_any (Hy.out.keeps (KI.out.trans KA.out)) (k : Int)
                  rw [Hgi.out, hpos] at hc
                  refine hc.mono ?_; rintro e w12 ⟨rfl, kk⟩
                  have K12 := hid (KA.out.trans kk)
                  clear hc kk KA
                  go_wp2_with fail
                  have hc := worst_any Hok.out (Hy.out.keeps (KI.out.trans K12.out)) (k : Int)
                  rw [Hwo.out] at hc
                  refine hc.mono ?_; rintro e w13 ⟨rfl, kk⟩
                  have K13 := hid (K12.out.trans kk)
                  clear hc kk K12
                  go_wp2_with fail
                  have hc := cost_any (Hy.out.keeps (KI.out.trans K13.out)) (k : Int)
                  rw [HC.out] at hc
                  refine hc.mono ?_; rintro e w14 ⟨rfl, kk⟩
                  have K14 := hid (K13.out.trans kk)
                  clear hc kk K13
                  go_wp2_with fail
                  have hc := term_any (Hy.out.keeps (KI.out.trans K14.out)) (k : Int)
                  rw [HT.out] at hc
                  refine hc.mono ?_; rintro e w15 ⟨rfl, kk⟩
                  have K15 := hid (K14.out.trans kk)
                  clear hc kk K14
                  go_wp2_with fail
                  go_roundw
                  case rel => exact ⟨k + 1, by omega, by go_num, hid (KI.out.trans K15.out)⟩
                  case measure => simp [intOf]; omega
                · rw [if_neg h2] at hwo
                  have Hwo := hid hwo
                  have d1 : decide (C + T ≤ G) = false := by simpa using h2
                  have d2 : decide (G < C + T) = true := decide_eq_true (by omega)
                  clear hwo h2
                  go_wp2_with fail
                  have KA := hid ((Keeps.refl (fun _ => False) wr))
                  have hc := gapI_any (Hy.out.keeps (KI.out.trans KA.out)) (k : Int)
                  rw [Hgi.out, hpos] at hc
                  refine hc.mono ?_; rintro e w12 ⟨rfl, kk⟩
                  have K12 := hid (KA.out.trans kk)
                  clear hc kk KA
                  go_wp2_with fail
                  have hc := worst_any Hok.out (Hy.out.keeps (KI.out.trans K12.out)) (k : Int)
                  rw [Hwo.out] at hc
                  refine hc.mono ?_; rintro e w13 ⟨rfl, kk⟩
                  have K13 := hid (K12.out.trans kk)
                  clear hc kk K12
                  go_wp2_with fail
                  have hc := cost_any (Hy.out.keeps (KI.out.trans K13.out)) (k : Int)
                  rw [HC.out] at hc
                  refine hc.mono ?_; rintro e w14 ⟨rfl, kk⟩
                  have K14 := hid (K13.out.trans kk)
                  clear hc kk K13
                  go_wp2_with fail
                  have hc := term_any (Hy.out.keeps (KI.out.trans K14.out)) (k : Int)
                  rw [HT.out] at hc
                  refine hc.mono ?_; rintro e w15 ⟨rfl, kk⟩
                  have K15 := hid (K14.out.trans kk)
                  clear hc kk K14
                  go_wp2_with fail
                  go_roundw
                  case rel => exact ⟨k + 1, by omega, by go_num, hid (KI.out.trans K15.out)⟩
                  case measure => simp [intOf]; omega
      · have b0 : decide (k < m.ts.length) = false := by simpa using hlt
        have KF := hid (K1.out.trans KR.out)
        go_wp2_with fail
        refine HL.out.mono ?_; rintro e w5 ⟨rfl, rfl⟩
        go_wp2_with fail
        refine (HR.out _ KF.out).mono ?_; rintro e w2 ⟨rfl, k⟩
        have K2 := hid (KF.out.trans k)
        clear k KF
        go_wp2_with fail
        go_ret
        exact ⟨rfl, K2.out⟩
end
end Go.Proofs.YtnkjjhenfhnajaaGreatDoor
