/-
  CeilStacks, walked.
-/
import Derived.Test.YtdjgijndcjbpiaaGreatDoorUe
import Derived.Test.YtdjgijndcjbpiaaGreatDoorBk
import Derived.Test.YtdjgijndcjbpiaaGreatDoorKk2
import Derived.Deep.Cut
import Derived.Deep.DeepCutAuto
namespace Go.Proofs.YtdjgijndcjbpiaaGreatDoor
open Go.RowKit Go.Kw Go.Kreg Go.Tm
set_option linter.unusedSimpArgs false
set_option linter.unusedVariables false

section
variable {W w : World} {F : Nat → Prop}
set_option maxRecDepth 100000 in
set_option maxHeartbeats 8000000 in
theorem stacks_law (hG : Glob W) (hg : (glC W).holds F w) {lv : Value} {l : List Int} (hl : SlIn w lv l) (hlb : ∀ x ∈ l, big x) :
    Calls Tryz.prog 7 #[lv] w fun e w' => e = .returned (.bool true) ∧ Keeps (fun _ => False) w w' := by
  obtain ⟨la, lc, rfl, h1, h2, h3, h4, -⟩ := id hl
  have HL := hid h4
  have HB := hid hlb
  have Hg := hid hg
  have HS := hid (St.of (Sts.one hg))
  clear hl hlb hg h4
  go_enter Tryz.func7, Tryz.ntmps7
  go_upto_if 13 with fail
  go_cut [0] (fun y wx => y = .slice la (l.take 300).length lc ∧ wx = w)
  case first =>
    by_cases hx : 300 < l.length
    · have b0 : decide ((300 : Int) < (l.length : Int)) = true := decide_eq_true (by omega)
      have i0 : (300 : Int) ≤ (lc : Int) := by omega
      have i1 : (300 : Int) ≤ (l.length : Int) := by omega
      have e : (l.take 300).length = 300 := by rw [List.length_take]; omega
      have He := hid e
      clear e
      go_wp2_with fail
      go_meet
      case rel => exact ⟨by rw [He.out], rfl⟩
    · have b0 : decide ((300 : Int) < (l.length : Int)) = false := decide_eq_false (by omega)
      have e : (l.take 300).length = l.length := by rw [List.length_take]; omega
      have He := hid e
      clear e
      go_wp2_with fail
      go_meet
      case rel => exact ⟨by rw [He.out], rfl⟩
  case rest =>
    obtain ⟨rfl, hwc⟩ := hcut
    have hwc := hwc.symm
    subst hwc
    have hll : (l.take 300).length ≤ 300 := by rw [List.length_take]; omega
    have hl' : ∀ (j : Nat) x, (l.take 300)[j]? = some x → ∃ b o, la = some ⟨b, o, none⟩ ∧ w.cell? ⟨b, o + j, none⟩ = some (.int .i64 x) := fun j x hj => by
      rw [List.getElem?_take] at hj
      split at hj
      · exact HL.out j x hj
      · cases hj
    generalize l.take 300 = l' at *
    have HL2 := hid hl'
    clear hl' HL HB
    have hS1 := stk_new HS.out
    have hS2 := hS1.new TBk [.slice none 0 0, .slice none 0 0, .int .i64 0, .bool false]
    simp only [World.size_alloc] at hS2
    simp only [Kw.red] at hS2
    have hS3 := hS2.imp 2 (bookC (w.heap.size + 1) []) (fun F h => book_start h)
    simp only [Kw.red] at hS3
    have hS4 := hS3.add (Keeps.refl (fun _ => False) _) (G := fun _ => False) (c := .row TI' 1 (.slice none 0 0) 0 (intsC [])) ⟨⟨rfl, .inl ⟨rfl, rfl⟩⟩, fun b => by simp [Value.ownBlock]⟩ (fun _ h => h.elim)
    have HS4 := hid hS4
    clear hS1 hS2 hS3 hS4 HS
    go_wp2_with fail
    generalize w.heap.size = s at *
    go_loopw [6, 4] (fun i z wr => ∃ (k : Nat) (L : List Int) (es : List Ent), k ≤ l'.length ∧ i = .int .i64 k ∧ L.length ≤ k ∧ (es.length = k ∧ held es ≤ k * 301 ∧ numsOk es) ∧ St F w [glC W, stkC s TSt L, bookC (s + 1) es, .row TI' 1 z L.length (intsC L)] wr) (fun i _ _ => l'.length - (intOf i).toNat)
    case atStart => exact ⟨0, [], [], Nat.zero_le _, rfl, Nat.zero_le _, ⟨rfl, by simp [held], fun e he => by cases he⟩, HS4.out⟩
    case round =>
      clear HS4
      obtain ⟨k, L, es, hk, rfl, hLk, hes, hS⟩ := hrel
      have Hes := hid hes
      clear hes
      by_cases hlt : k < l'.length
      · have a1 : decide (k < l'.length) = true := by simpa using hlt
        have hkp := (glob_keeps Hg.out hS).1
        have hx := List.getElem?_eq_getElem hlt
        obtain ⟨b, o, rfl, dx⟩ := HL2.out k _ hx
        have DX := hid dx
        have dx := cellIn hkp dx
        generalize l'[k] = x at *
        have i0 : (0 : Int) ≤ (k : Int) := by omega
        have i1 : (k : Int) < (l'.length : Int) := by omega
        obtain ⟨wa, wcap, rfl, -⟩ := (hS.own 3).shape
        obtain ⟨N, hN⟩ : ∃ N, L.length = N := ⟨_, rfl⟩
        rw [hN] at hS hLk ⊢
        have HS1 := hid hS
        have HNL := hid hN
        clear hx hkp hS hN
        go_upto_if 25 with fail
        go_cut [8] (fun y wx => y = .int .i64 (topOf L) ∧ wx = wr)
        case first =>
          by_cases h0 : 0 < N
          · have b2 : decide ((0 : Int) < (N : Int)) = true := by simp; omega
            have b2' : decide (0 < N) = true := by simpa using h0
            have ho := HS1.out.own 3
            have hN := HNL.out
            obtain ⟨wg, wc2, e, -⟩ := ho.form (by omega)
            have ht : L[N - 1]? = some (topOf L) := by
              unfold topOf
              rw [List.getLast?_eq_getElem?, hN, List.getElem?_eq_getElem (show N - 1 < L.length by omega)]; rfl
            have e1 : wa = some ⟨wg, 0, none⟩ := by cases e; rfl
            subst e1
            have dt := ho.cells' (g := wg) rfl (intsC_at ht)
            have DT := hid dt
            clear ho hN e ht dt
            have dt := DT.out
            have j2 : (0 : Int) ≤ (N : Int) - 1 := by omega
            have j3 : (N : Int) - 1 < (N : Int) := by omega
            have j4 : ((N : Int) - 1).toNat = N - 1 := by omega
            clear h0
            go_wp2_with fail
            go_meet
            case rel => exact ⟨rfl, rfl⟩
          · have b2 : decide ((0 : Int) < (N : Int)) = false := by simp; omega
            have b2' : decide (0 < N) = false := by simpa using h0
            have e1 : topOf L = 0 := by
              have : L = [] := List.eq_nil_of_length_eq_zero (by have := HNL.out; omega)
              rw [this]; rfl
            have E1 := hid e1
            obtain rfl : N = 0 := by omega
            clear h0 e1 b2 b2'
            go_wp2_with fail
            go_meet
            case rel => exact ⟨by rw [E1.out], rfl⟩
        case rest =>
          obtain ⟨rfl, hwc⟩ := hcut
          have hwc := hwc.symm
          subst hwc
          go_upto_region 13 with fail
          go_cut [40] (fun y wx => (∃ B : Bool, y = .bool B) ∧ wx = wr)
          case first =>
            by_cases hx0 : x < 0
            · have b3 : decide (x < 0) = true := by simpa using hx0
              clear hx0
              go_wp2_with fail
              go_meet
              case rel => exact ⟨⟨_, rfl⟩, rfl⟩
            · have b3 : decide (x < 0) = false := by simpa using hx0
              clear hx0
              go_wp2_with fail
              go_meet
              case rel => exact ⟨⟨_, rfl⟩, rfl⟩
          case rest =>
            obtain ⟨⟨B, rfl⟩, hwc⟩ := hcut
            have hwc := hwc.symm
            subst hwc
            go_upto_if 40 with fail
            go_cut [4] (fun y wx => ∃ L2 : List Int, L2.length ≤ k + 1 ∧ St F w [glC W, stkC s TSt L2, bookC (s + 1) es, .row TI' 1 y L2.length (intsC L2)] wx)
            case first =>
              cases B with
              | false =>
                obtain ⟨F1, g1, _, _, bk⟩ := HS1.out.sel [1]
                have hrc := craise_any (show Sts [stkC s TSt L] F1 wr from g1) x (by have := HNL.out; omega)
                clear g1
                by_cases hxt : x < topOf L
                · rw [show max x (topOf L) = topOf L by omega] at hrc
                  have b4 : decide (x < topOf L) = true := by simpa using hxt
                  have HR := hid hrc
                  clear hxt hrc
                  go_wp2_with fail
                  refine HR.out.mono ?_; rintro e w2 ⟨rfl, hS⟩
                  have hS := bk hS
                  simp only [Kw.red] at hS
                  have hS1 := hS.new TI' (intsC [topOf L])
                  simp only [Kw.red] at hS1
                  have HS2 := hid hS1
                  clear hS hS1 bk HR
                  go_wp2_with (at_builtin; refine wpList_appS 3 4 _ _ TS TI' (.int .i64 0) 1 8 infoI Tryz.underlying22 rfl (by decide) rfl rfl HS2.out rfl rfl rfl rfl rfl (intsC_one [topOf L]) (by omega) (by unfold maxLen; omega) (by omega) ?_; intro gb gc w7 hSc hat)
                  go_meet
                  case rel =>
                    refine ⟨L ++ [topOf L], by rw [List.length_append, HNL.out]; simp; omega, ?_⟩
                    have h := hSc.sub [0, 1, 2, 3]
                    simp only [Kw.red] at h
                    rw [List.length_append, HNL.out, List.length_singleton, intsC_app]
                    exact h
                · rw [show max x (topOf L) = x by omega] at hrc
                  have b4 : decide (x < topOf L) = false := by simpa using hxt
                  have HR := hid hrc
                  clear hxt hrc
                  go_wp2_with fail
                  refine HR.out.mono ?_; rintro e w2 ⟨rfl, hS⟩
                  have hS := bk hS
                  simp only [Kw.red] at hS
                  have hS1 := hS.new TI' (intsC [x])
                  simp only [Kw.red] at hS1
                  have HS2 := hid hS1
                  clear hS hS1 bk HR
                  go_wp2_with (at_builtin; refine wpList_appS 3 4 _ _ TS TI' (.int .i64 0) 1 8 infoI Tryz.underlying22 rfl (by decide) rfl rfl HS2.out rfl rfl rfl rfl rfl (intsC_one [x]) (by omega) (by unfold maxLen; omega) (by omega) ?_; intro gb gc w7 hSc hat)
                  go_meet
                  case rel =>
                    refine ⟨L ++ [x], by rw [List.length_append, HNL.out]; simp; omega, ?_⟩
                    have h := hSc.sub [0, 1, 2, 3]
                    simp only [Kw.red] at h
                    rw [List.length_append, HNL.out, List.length_singleton, intsC_app]
                    exact h
              | true =>
                obtain ⟨F1, g1, _, _, bk⟩ := HS1.out.sel [1]
                have hlw := clower_any (show Sts [stkC s TSt L] F1 wr from g1) (by have := HNL.out; omega)
                rw [HNL.out] at hlw
                by_cases h0 : 0 < N
                · have b2 : decide ((0 : Int) < (N : Int)) = true := by simp; omega
                  have b2' : decide (0 < N) = true := by simpa using h0
                  rw [b2'] at hlw
                  have HLw := hid hlw
                  have hN := HNL.out
                  obtain ⟨wg, wc2, e, -⟩ := (HS1.out.own 3).form (by omega)
                  obtain rfl : wa = some ⟨wg, 0, none⟩ := by cases e; rfl
                  have j2 : (0 : Int) ≤ (N : Int) - 1 := by omega
                  have j4 : ((N : Int) - 1).toNat = N - 1 := by omega
                  have hcap : N ≤ wcap := by obtain ⟨_, _, e2, hc⟩ := (HS1.out.own 3).shape; cases e2; exact hc
                  have j5 : (N : Int) - 1 ≤ (wcap : Int) := by omega
                  have j6 : (N : Int) - 1 = ((N - 1 : Nat) : Int) := by omega
                  have J6 := hid j6
                  clear g1 hlw hN e h0 j6
                  go_wp2_with fail
                  refine HLw.out.mono ?_; rintro e w2 ⟨rfl, hS⟩
                  have hS := bk hS
                  simp only [Kw.red] at hS
                  have HSd := hid hS
                  have hS1 := hS.new TI' []
                  simp only [Kw.red] at hS1
                  have hS2 := hS1.imp 4 (c := .pt w2.heap.size TI' []) (.row TI' 1 (.slice (some ⟨w2.heap.size, 0, none⟩) 0 0) 0 []) (fun F h => ⟨Own.of_blk (n := 0) (cap := 0) (sz := 1) h.1 rfl (Nat.le_refl _) (by simp [maxLen]), fun b => (h.2 b).trans ⟨fun e => by rw [e]; rfl, fun e => by simpa [Value.ownBlock] using e.symm⟩⟩)
                  simp only [Kw.red] at hS2
                  have hsrc : ∀ (ad : Addr), some (⟨wg, 0, none⟩ : Addr) = some ad → ∀ (j : Nat) u, (intsC L.dropLast)[j]? = some u → (w2.alloc (.cells #[] TI')).cell? (ad.add j) = some u := by
                    intro ad e j u hu
                    cases e
                    rw [add_at, Nat.zero_add]
                    have hj : j < N - 1 := by
                      have := (List.getElem?_eq_some_iff.1 hu).1
                      rw [intsC_len, List.length_dropLast, HNL.out] at this; exact this
                    refine (hS2.own 3).cells' (g := wg) rfl ?_
                    rw [← hu]
                    unfold intsC
                    rw [List.getElem?_map, List.getElem?_map, List.getElem?_dropLast, if_pos (by rw [HNL.out]; exact hj)]
                  have Hsrc := hid hsrc
                  have HS3 := hid hS2
                  clear hS hS1 hS2 hsrc bk HLw
                  go_wp2_with (at_builtin; refine wpList_appX 4 _ _ TS TI' (.int .i64 0) 1 8 infoI Tryz.underlying22 rfl (by decide) rfl rfl HS3.out rfl rfl (some ⟨wg, 0, none⟩) (N - 1) wcap (intsC L.dropLast) (by first | rfl | (simp [Act.eval]; done)) (by rw [intsC_len, List.length_dropLast, HNL.out, Nat.mul_one]) (fun e => by cases e) Hsrc.out (intsC_one _) (by unfold maxLen; omega) (by omega) ?_; intro v7 w7 hSc hat)
                  go_meet
                  case rel =>
                    refine ⟨L.dropLast, by rw [List.length_dropLast, HNL.out]; omega, ?_⟩
                    have h := hSc.sub [0, 1, 2, 4]
                    simp only [Kw.red] at h
                    rw [List.length_dropLast, HNL.out]
                    rw [Nat.zero_add, List.nil_append] at h
                    exact h
                · have b2 : decide ((0 : Int) < (N : Int)) = false := by simp; omega
                  have b2' : decide (0 < N) = false := by simpa using h0
                  rw [b2'] at hlw
                  have HLw := hid hlw
                  have HL0 := hid (show L = [] from List.eq_nil_of_length_eq_zero (by have := HNL.out; omega))
                  obtain rfl : N = 0 := by omega
                  clear g1 hlw h0 b2 b2'
                  go_wp2_with fail
                  refine HLw.out.mono ?_; rintro e w2 ⟨rfl, hS⟩
                  have hS := bk hS
                  simp only [Kw.red] at hS
                  have HSd := hid hS
                  clear hS bk HLw
                  go_wp2_with fail
                  go_meet
                  case rel =>
                    refine ⟨[], by simp, ?_⟩
                    have h := HSd.out
                    rw [HL0.out] at h
                    exact h
            case rest =>
              obtain ⟨L2, hL2, hS⟩ := hcut
              obtain ⟨wa2, wcap2, rfl, -⟩ := (hS.own 3).shape
              obtain ⟨N2, hN2⟩ : ∃ n, L2.length = n := ⟨_, rfl⟩
              obtain ⟨sv, hc, ho⟩ := stk_at 1 hS
              have hcl := clist_any hc ho (by omega)
              rw [hN2] at hS hL2 hcl ⊢
              have HN2 := hid hN2
              have HS5 := hid hS
              have HC1 := hid hcl
              clear hS hN2 hc ho hcl HS1 dx HNL
              go_wp2_with fail
              refine HC1.out.mono ?_; rintro e w2 ⟨g1, rfl, hA⟩
              have hS := HS5.out.adds hA
              simp only [Kw.red] at hS
              obtain ⟨sv, hc, ho⟩ := stk_at 1 hS
              have hcl := clist_any hc ho (by have := HN2.out; omega)
              rw [HN2.out] at hcl
              have HC2 := hid hcl
              have HS6 := hid hS
              clear hS hA hc ho hcl HC1 HS5
              go_wp2_with fail
              refine HC2.out.mono ?_; rintro e w3 ⟨g2, rfl, hA⟩
              have hS := HS6.out.adds hA
              simp only [Kw.red] at hS
              have hS7 := hS.imp 5 (c := .pt g2 TI' (intsC L2)) (.lst TI 1 (some g2) N2 (intsC L2)) (fun F h => ⟨⟨by rw [intsC_len, HN2.out, Nat.mul_one], h.1⟩, fun b => (h.2 b).trans (by simp [eq_comm])⟩)
              obtain ⟨F2, q2, _, _, bk2⟩ := hS7.sel [2, 5]
              have hkp := keep_any (show Sts [bookC (s + 1) es, .lst TI 1 (some g2) N2 (intsC L2)] F2 _ from q2) (intsC_one _) (by omega) (by have := Hes.out.1; omega) (by have := Hes.out.2.1; omega)
              unfold lval at hkp
              simp only [Option.map_some] at hkp
              have HK := hid hkp
              clear hS hA hS7 q2 hkp HC2 HS6
              go_wp2_with fail
              refine HK.out.mono ?_; rintro e w4 ⟨rfl, was, hS⟩
              have hS := bk2 hS
              simp only [Kw.red] at hS
              have hS8 := hS.sub [0, 1, 2, 3, 4]
              simp only [Kw.red] at hS8
              have dx := cellIn (glob_keeps Hg.out hS8).1 DX.out
              obtain ⟨F3, q3, _, _, bk3⟩ := hS8.sel [1]
              have hrc := craise_any (show Sts [stkC s TSt L2] F3 w4 from q3) x (by have := HN2.out; omega)
              generalize max x (topOf L2) = mx at *
              have HR := hid hrc
              clear hS hS8 q3 hrc bk2 HK
              go_wp2_with fail
              refine HR.out.mono ?_; rintro e w5 ⟨rfl, hS⟩
              have hS := bk3 hS
              simp only [Kw.red] at hS
              have HS9 := hid hS
              obtain ⟨F4, q4, _, _, bk4⟩ := hS.drew.sel [1]
              have hlw := clower_any (show Sts [stkC s TSt (L2 ++ [mx])] F4 w5.drew from q4) (by have := HN2.out; simp; omega)
              rw [decide_eq_true (show 0 < (L2 ++ [mx]).length by simp), List.dropLast_concat] at hlw
              have HLw := hid hlw
              clear hS q4 hlw bk3 HR dx
              go_wp2_with fail
              refine wp_region_preT 6 (.one 0 (.one 1 (.one 2 (.two 3 (.one 4 (.one 5 .done)) 4 (.one 3 (.one 5 .done)))))) (by kernel_rfl) (by decide +kernel) ?_
              simp only [List.drop_succ_cons, List.drop_zero, wpPreT]
              refine at'_of rfl ?_
              go_wp2_with fail
              refine HLw.out.mono ?_; rintro e w6 ⟨rfl, hS⟩
              have hS := bk4 hS
              simp only [Kw.red] at hS
              obtain ⟨sv, hc, ho⟩ := stk_at 1 hS
              have hcl := clist_any hc ho (by have := HN2.out; omega)
              rw [HN2.out] at hcl
              have HC3 := hid hcl
              have HS10 := hid hS
              clear hS hc ho hcl bk4 HLw HS9
              go_wp2_with fail
              refine segQ_normal trivial ?_
              refine at'_of rfl ?_
              go_wp2_with fail
              refine segQ_normal trivial ?_
              refine at'_of rfl ?_
              go_wp2_with fail
              refine segQ_normal trivial ?_
              refine And.intro ?_ ?_
              · refine at'_of rfl ?_
                go_wp2_with fail
                refine HC3.out.mono ?_; rintro e w7 ⟨g3, rfl, hA⟩
                have hS := HS10.out.adds hA
                simp only [Kw.red] at hS
                have HS11 := hid hS
                have hsm := sameI_any (xs := L2) (ys := L2) (Rd.blk (n := L2.length) (sz := 1) (hS.blk 5) (by have := HN2.out; omega) (by rw [intsC_len, Nat.mul_one])) (Rd.blk (n := L2.length) (sz := 1) (hS.blk 4) (by have := HN2.out; omega) (by rw [intsC_len, Nat.mul_one]))
                rw [decide_eq_true rfl, HN2.out] at hsm
                have HSm := hid hsm
                clear hS hA hsm HC3 HS10
                go_wp2_with fail
                refine segQ_normal trivial ?_
                refine at'_of rfl ?_
                go_wp2_with fail
                refine segQ_normal trivial ?_
                refine at'_of rfl ?_
                go_wp2_with fail
                refine HSm.out.mono ?_; rintro e w8 ⟨rfl, nq, rfl⟩
                have HS12 := hid (HS11.out.drewN nq)
                have hr1 := Rd.blk (n := L2.length) (sz := 1) (HS12.out.blk 4) (by have := HN2.out; omega) (by rw [intsC_len, Nat.mul_one])
                have how := HS12.out.own 3
                have hr2 := Rd.own (n := N2) how (by omega)
                generalize w7.drewN nq = w8 at *
                clear HSm HS11
                have hsame : ∀ w9, Keeps (fun _ => False) w8 w9 → Calls Tryz.prog 35 #[.slice (some ⟨g1, 0, none⟩) N2 N2, .slice wa2 N2 wcap2] w9 fun e w' => e = .returned (.bool true) ∧ Keeps (fun _ => False) w9 w' := fun w9 k9 => by
                  have hsm := sameI_any (xs := L2) (ys := L2) (hr1.new k9) (by rw [HN2.out]; exact hr2.new k9)
                  rw [decide_eq_true rfl, HN2.out] at hsm
                  exact hsm.mono fun e w' ⟨h, n, hn⟩ => ⟨h, by rw [hn]; exact (Keeps.refl _ _).drewN n⟩
                have HSame := hid hsame
                obtain ⟨sv, hc, ho⟩ := stk_at 1 HS12.out
                have hlen : ∀ w9, Keeps (fun _ => False) w8 w9 → Calls Tryz.prog 45 #[.pointer (some ⟨s, 0, none⟩)] w9 fun e w' => e = .returned (.int .i64 N2) ∧ Keeps (fun _ => False) w9 w' := fun w9 k9 => by
                  have h := clen_any (cellIn k9 hc) (ho.keeps k9 fun _ _ => id)
                  rw [HN2.out] at h
                  exact h.mono fun e w' ⟨h, hn⟩ => ⟨h, by rw [← hn]; exact Keeps.refl _ _⟩
                have HLen := hid hlen
                have htop : ∀ w9, Keeps (fun _ => False) w8 w9 → Calls Tryz.prog 44 #[.pointer (some ⟨s, 0, none⟩)] w9 fun e w' => e = .returned (.int .i64 (topOf L2)) ∧ Keeps (fun _ => False) w9 w' := fun w9 k9 =>
                  (ctop_any (cellIn k9 hc) (ho.keeps k9 fun _ _ => id) (by have := HN2.out; omega)).mono fun e w' ⟨h, hn⟩ => ⟨h, by rw [← hn]; exact Keeps.refl _ _⟩
                clear hsame hlen hr1 hr2 hc ho
                go_wp2_with fail
                refine segQ_normal trivial ?_
                by_cases h0 : 0 < N2
                · have b2 : decide ((0 : Int) < (N2 : Int)) = true := by simp; omega
                  have b2' : decide (0 < N2) = true := by simpa using h0
                  have b5 : ((N2 : Int) == 0) = false := by rw [beq_eq_false_iff_ne]; omega
                  have ht : L2[N2 - 1]? = some (topOf L2) := by
                    unfold topOf
                    rw [List.getLast?_eq_getElem?, HN2.out, List.getElem?_eq_getElem (show N2 - 1 < L2.length by have := HN2.out; omega)]; rfl
                  obtain ⟨wg, wc3, e, -⟩ := how.form h0
                  obtain rfl : wa2 = some ⟨wg, 0, none⟩ := by cases e; rfl
                  have dt := how.cells' (g := wg) rfl (intsC_at ht)
                  have HTop := hid htop
                  have j2 : (0 : Int) ≤ (N2 : Int) - 1 := by omega
                  have j3 : (N2 : Int) - 1 < (N2 : Int) := by omega
                  have j4 : ((N2 : Int) - 1).toNat = N2 - 1 := by omega
                  generalize topOf L2 = T2 at *
                  clear how e ht h0 htop
                  repeat (first | go_big_quiet_skip | ((first | refine wpKeep_load rfl ?_ | refine wpKeep_other rfl ?_); (first | go_big_quiet_step (fail) | quiet_step (fail)); refine wpQuiet_nil ?_; refine Shut.mk ?_) | (refine wpQuiet_step (fun K hK => ?_); go_simp; first | (refine hK _ ?_; clear hK K) | (apply Exists.intro; refine ⟨fun w9 k9 => ?_, hK _ ?_⟩; (first | exact (HSame.out w9 k9).mono fun e w' h => ⟨h.1, k9.trans h.2⟩ | exact (HLen.out w9 k9).mono fun e w' h => ⟨h.1, k9.trans h.2⟩ | exact (HTop.out w9 k9).mono fun e w' h => ⟨h.1, k9.trans h.2⟩); clear hK K)))
                  refine wpQuiet_nil ?_
                  intro w9 k9
                  have HS13 := hid (HS12.out.step k9)
                  clear k9
                  go_wp2_with fail
                  go_roundw
                  case rel =>
                    refine ⟨k + 1, L2, es ++ [⟨some g2, N2, intsC L2, was⟩], by omega, by go_num, by have := HN2.out; omega, ⟨by rw [List.length_append, Hes.out.1]; rfl, ?_, Hes.out.2.2.app (by simp only; omega) L2 rfl⟩, ?_⟩
                    · rw [held_app]; have := Hes.out.2.1; simp only; omega
                    · rw [HN2.out]
                      have h := HS13.out.sub [0, 1, 2, 3]
                      simp only [Kw.red] at h
                      exact h
                  case measure => simp [intOf]; omega
                · have e1 : topOf L2 = 0 := by
                    have : L2 = [] := List.eq_nil_of_length_eq_zero (by have := HN2.out; omega)
                    rw [this]; rfl
                  rw [e1] at htop
                  have HTop := hid htop
                  have b2 : decide ((0 : Int) < (N2 : Int)) = false := by simp; omega
                  have b2' : decide (0 < N2) = false := by simpa using h0
                  have b5 : ((N2 : Int) == 0) = true := by rw [beq_iff_eq]; omega
                  clear how h0 htop e1
                  repeat (first | go_big_quiet_skip | ((first | refine wpKeep_load rfl ?_ | refine wpKeep_other rfl ?_); (first | go_big_quiet_step (fail) | quiet_step (fail)); refine wpQuiet_nil ?_; refine Shut.mk ?_) | (refine wpQuiet_step (fun K hK => ?_); go_simp; first | (refine hK _ ?_; clear hK K) | (apply Exists.intro; refine ⟨fun w9 k9 => ?_, hK _ ?_⟩; (first | exact (HSame.out w9 k9).mono fun e w' h => ⟨h.1, k9.trans h.2⟩ | exact (HLen.out w9 k9).mono fun e w' h => ⟨h.1, k9.trans h.2⟩ | exact (HTop.out w9 k9).mono fun e w' h => ⟨h.1, k9.trans h.2⟩); clear hK K)))
                  refine wpQuiet_nil ?_
                  intro w9 k9
                  have HS13 := hid (HS12.out.step k9)
                  clear k9
                  go_wp2_with fail
                  go_roundw
                  case rel =>
                    refine ⟨k + 1, L2, es ++ [⟨some g2, N2, intsC L2, was⟩], by omega, by go_num, by have := HN2.out; omega, ⟨by rw [List.length_append, Hes.out.1]; rfl, ?_, Hes.out.2.2.app (by simp only; omega) L2 rfl⟩, ?_⟩
                    · rw [held_app]; have := Hes.out.2.1; simp only; omega
                    · rw [HN2.out]
                      have h := HS13.out.sub [0, 1, 2, 3]
                      simp only [Kw.red] at h
                      exact h
                  case measure => simp [intOf]; omega
              · refine at'_of rfl ?_
                go_wp2_with fail
                refine segQ_normal trivial ?_
                refine at'_of rfl ?_
                go_wp2_with fail
                refine HC3.out.mono ?_; rintro e w7 ⟨g3, rfl, hA⟩
                have hS := HS10.out.adds hA
                simp only [Kw.red] at hS
                have HS11 := hid hS
                have hsm := sameI_any (xs := L2) (ys := L2) (Rd.blk (n := L2.length) (sz := 1) (hS.blk 5) (by have := HN2.out; omega) (by rw [intsC_len, Nat.mul_one])) (Rd.blk (n := L2.length) (sz := 1) (hS.blk 4) (by have := HN2.out; omega) (by rw [intsC_len, Nat.mul_one]))
                rw [decide_eq_true rfl, HN2.out] at hsm
                have HSm := hid hsm
                clear hS hA hsm HC3 HS10
                go_wp2_with fail
                refine segQ_normal trivial ?_
                refine at'_of rfl ?_
                go_wp2_with fail
                refine HSm.out.mono ?_; rintro e w8 ⟨rfl, nq, rfl⟩
                have HS12 := hid (HS11.out.drewN nq)
                have hr1 := Rd.blk (n := L2.length) (sz := 1) (HS12.out.blk 4) (by have := HN2.out; omega) (by rw [intsC_len, Nat.mul_one])
                have how := HS12.out.own 3
                have hr2 := Rd.own (n := N2) how (by omega)
                generalize w7.drewN nq = w8 at *
                clear HSm HS11
                have hsame : ∀ w9, Keeps (fun _ => False) w8 w9 → Calls Tryz.prog 35 #[.slice (some ⟨g1, 0, none⟩) N2 N2, .slice wa2 N2 wcap2] w9 fun e w' => e = .returned (.bool true) ∧ Keeps (fun _ => False) w9 w' := fun w9 k9 => by
                  have hsm := sameI_any (xs := L2) (ys := L2) (hr1.new k9) (by rw [HN2.out]; exact hr2.new k9)
                  rw [decide_eq_true rfl, HN2.out] at hsm
                  exact hsm.mono fun e w' ⟨h, n, hn⟩ => ⟨h, by rw [hn]; exact (Keeps.refl _ _).drewN n⟩
                have HSame := hid hsame
                obtain ⟨sv, hc, ho⟩ := stk_at 1 HS12.out
                have hlen : ∀ w9, Keeps (fun _ => False) w8 w9 → Calls Tryz.prog 45 #[.pointer (some ⟨s, 0, none⟩)] w9 fun e w' => e = .returned (.int .i64 N2) ∧ Keeps (fun _ => False) w9 w' := fun w9 k9 => by
                  have h := clen_any (cellIn k9 hc) (ho.keeps k9 fun _ _ => id)
                  rw [HN2.out] at h
                  exact h.mono fun e w' ⟨h, hn⟩ => ⟨h, by rw [← hn]; exact Keeps.refl _ _⟩
                have HLen := hid hlen
                have htop : ∀ w9, Keeps (fun _ => False) w8 w9 → Calls Tryz.prog 44 #[.pointer (some ⟨s, 0, none⟩)] w9 fun e w' => e = .returned (.int .i64 (topOf L2)) ∧ Keeps (fun _ => False) w9 w' := fun w9 k9 =>
                  (ctop_any (cellIn k9 hc) (ho.keeps k9 fun _ _ => id) (by have := HN2.out; omega)).mono fun e w' ⟨h, hn⟩ => ⟨h, by rw [← hn]; exact Keeps.refl _ _⟩
                clear hsame hlen hr1 hr2 hc ho
                go_wp2_with fail
                refine segQ_normal trivial ?_
                by_cases h0 : 0 < N2
                · have b2 : decide ((0 : Int) < (N2 : Int)) = true := by simp; omega
                  have b2' : decide (0 < N2) = true := by simpa using h0
                  have b5 : ((N2 : Int) == 0) = false := by rw [beq_eq_false_iff_ne]; omega
                  have ht : L2[N2 - 1]? = some (topOf L2) := by
                    unfold topOf
                    rw [List.getLast?_eq_getElem?, HN2.out, List.getElem?_eq_getElem (show N2 - 1 < L2.length by have := HN2.out; omega)]; rfl
                  obtain ⟨wg, wc3, e, -⟩ := how.form h0
                  obtain rfl : wa2 = some ⟨wg, 0, none⟩ := by cases e; rfl
                  have dt := how.cells' (g := wg) rfl (intsC_at ht)
                  have HTop := hid htop
                  have j2 : (0 : Int) ≤ (N2 : Int) - 1 := by omega
                  have j3 : (N2 : Int) - 1 < (N2 : Int) := by omega
                  have j4 : ((N2 : Int) - 1).toNat = N2 - 1 := by omega
                  generalize topOf L2 = T2 at *
                  clear how e ht h0 htop
                  repeat (first | go_big_quiet_skip | ((first | refine wpKeep_load rfl ?_ | refine wpKeep_other rfl ?_); (first | go_big_quiet_step (fail) | quiet_step (fail)); refine wpQuiet_nil ?_; refine Shut.mk ?_) | (refine wpQuiet_step (fun K hK => ?_); go_simp; first | (refine hK _ ?_; clear hK K) | (apply Exists.intro; refine ⟨fun w9 k9 => ?_, hK _ ?_⟩; (first | exact (HSame.out w9 k9).mono fun e w' h => ⟨h.1, k9.trans h.2⟩ | exact (HLen.out w9 k9).mono fun e w' h => ⟨h.1, k9.trans h.2⟩ | exact (HTop.out w9 k9).mono fun e w' h => ⟨h.1, k9.trans h.2⟩); clear hK K)))
                  refine wpQuiet_nil ?_
                  intro w9 k9
                  have HS13 := hid (HS12.out.step k9)
                  clear k9
                  go_wp2_with fail
                  go_roundw
                  case rel =>
                    refine ⟨k + 1, L2, es ++ [⟨some g2, N2, intsC L2, was⟩], by omega, by go_num, by have := HN2.out; omega, ⟨by rw [List.length_append, Hes.out.1]; rfl, ?_, Hes.out.2.2.app (by simp only; omega) L2 rfl⟩, ?_⟩
                    · rw [held_app]; have := Hes.out.2.1; simp only; omega
                    · rw [HN2.out]
                      have h := HS13.out.sub [0, 1, 2, 3]
                      simp only [Kw.red] at h
                      exact h
                  case measure => simp [intOf]; omega
                · have e1 : topOf L2 = 0 := by
                    have : L2 = [] := List.eq_nil_of_length_eq_zero (by have := HN2.out; omega)
                    rw [this]; rfl
                  rw [e1] at htop
                  have HTop := hid htop
                  have b2 : decide ((0 : Int) < (N2 : Int)) = false := by simp; omega
                  have b2' : decide (0 < N2) = false := by simpa using h0
                  have b5 : ((N2 : Int) == 0) = true := by rw [beq_iff_eq]; omega
                  clear how h0 htop e1
                  repeat (first | go_big_quiet_skip | ((first | refine wpKeep_load rfl ?_ | refine wpKeep_other rfl ?_); (first | go_big_quiet_step (fail) | quiet_step (fail)); refine wpQuiet_nil ?_; refine Shut.mk ?_) | (refine wpQuiet_step (fun K hK => ?_); go_simp; first | (refine hK _ ?_; clear hK K) | (apply Exists.intro; refine ⟨fun w9 k9 => ?_, hK _ ?_⟩; (first | exact (HSame.out w9 k9).mono fun e w' h => ⟨h.1, k9.trans h.2⟩ | exact (HLen.out w9 k9).mono fun e w' h => ⟨h.1, k9.trans h.2⟩ | exact (HTop.out w9 k9).mono fun e w' h => ⟨h.1, k9.trans h.2⟩); clear hK K)))
                  refine wpQuiet_nil ?_
                  intro w9 k9
                  have HS13 := hid (HS12.out.step k9)
                  clear k9
                  go_wp2_with fail
                  go_roundw
                  case rel =>
                    refine ⟨k + 1, L2, es ++ [⟨some g2, N2, intsC L2, was⟩], by omega, by go_num, by have := HN2.out; omega, ⟨by rw [List.length_append, Hes.out.1]; rfl, ?_, Hes.out.2.2.app (by simp only; omega) L2 rfl⟩, ?_⟩
                    · rw [held_app]; have := Hes.out.2.1; simp only; omega
                    · rw [HN2.out]
                      have h := HS13.out.sub [0, 1, 2, 3]
                      simp only [Kw.red] at h
                      exact h
                  case measure => simp [intOf]; omega
      · have a1 : decide (k < l'.length) = false := by simpa using hlt
        obtain rfl : k = l'.length := by omega
        obtain ⟨wa, wcap, rfl, -⟩ := (hS.own 3).shape
        obtain ⟨F1, g1, _, _, bk⟩ := hS.sel [2]
        have hap := apart_any (show Sts [bookC (s + 1) es] F1 wr from g1) (by have := Hes.out.1; omega) Hes.out.2.2
        have HA := hid hap
        clear hap g1
        have HSx := hid hS
        clear hS
        go_wp2_with fail
        refine HA.out.mono ?_; rintro e w2 ⟨rfl, hS⟩
        have hS := bk hS
        simp only [Kw.red] at hS
        have k2 := (glob_keeps Hg.out hS).1
        have HC := hid (ceilruns_any hG (glob_new Hg.out k2))
        have K2 := hid k2
        clear hS bk k2
        go_wp2_with fail
        refine HC.out.mono ?_; rintro e w3 ⟨rfl, k3⟩
        have K3 := hid (K2.out.trans k3)
        clear k3
        go_wp2_with fail
        go_ret
        exact ⟨rfl, K3.out⟩
end
end Go.Proofs.YtdjgijndcjbpiaaGreatDoor
