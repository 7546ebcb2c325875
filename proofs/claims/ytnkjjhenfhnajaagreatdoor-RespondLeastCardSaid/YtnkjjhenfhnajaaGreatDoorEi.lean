/-
  RespondLeast, walked.
-/
import Derived.Test.YtnkjjhenfhnajaaGreatDoorEh
import Derived.Test.YtnkjjhenfhnajaaGreatDoorG29
import Derived.Test.YtnkjjhenfhnajaaGreatDoorBm
namespace Go.Proofs.YtnkjjhenfhnajaaGreatDoor
open Go.RowKit Go.Kw Go.Kreg Go.Tm Go.Ad
set_option linter.unusedSimpArgs false
set_option linter.unusedVariables false

theorem demand_in {m : TM} {i : Nat} {x : Task} (hx : m.ts[i]? = some x) {l : Load} (hl : loadM m i = (some l, 0)) {k : Int} (h1 : 1 ≤ k) (h2 : k ≤ 1048576) : demandI m i k = (l.demand k, 0) := by
  unfold demandI
  rw [if_neg, hl]
  rintro (e | e | e)
  · rw [in_some hx] at e; cases e
  · omega
  · omega
theorem heavy_not {m : TM} (hm : m.Ok) (h : heavyM m.ts = false) {i : Nat} {x : Task} (hx : m.ts[i]? = some x) : gapT x ≤ 20000 := by
  have hmem := List.mem_of_getElem? hx
  rw [← gapR_eq hm hmem]
  have := List.any_eq_false.1 h x hmem
  simpa using this
theorem gapI_in {ts : List Task} {i : Nat} {x : Task} (hx : ts[i]? = some x) : gapI ts i = gapT x := by unfold gapI; rw [in_some hx]
section
variable {W w : World} {F : Nat → Prop}
set_option maxRecDepth 100000 in
set_option maxHeartbeats 8000000 in
theorem least_law (hG : Glob W) (hg : (glC W).holds F w) {W0 : Int} {uv tv : Value} {us : List Int} {ts : List Task} (hu : SlIm w uv us) (ht : SlTk w tv ts) (hnm : ∀ x ∈ ts, x.name.size ≤ 9223372036854775807) (a : Int) (ha : big a) (b : Int) (hb : big b) :
    Calls Tryz.prog 7 #[.agg #[.int .i64 W0, uv, tv], .int .i64 a, .int .i64 b] w fun e w' => e = .returned (.bool true) ∧ Keeps (fun _ => False) w w' := by
  have HR := hid (fun (w9 : World) (k9 : Keeps (fun _ => False) w w9) => runs12_any hG (glob_new hg k9))
  have hk0 := (Keeps.refl (fun _ => False) w).alloc (.cells #[.int .i64 W0, uv, tv] TSet)
  have HT := hid (made (W0 := W0) hG hg hu ht hnm hk0)
  have hok := setM_ok W0 us ts
  have hlen := setM_len W0 us ts
  obtain ⟨m, hm⟩ : ∃ m, setM W0 us ts = m := ⟨_, rfl⟩
  rw [hm] at hok hlen HT
  have Hg := hid hg
  have Hok := hid hok
  obtain ⟨ua, uc, rfl, -⟩ := id hu
  obtain ⟨la, lc, rfl, -⟩ := id ht
  clear hg hu ht hnm hk0 hm hok
  go_enter Tryz.func7, Tryz.ntmps7
  go_wp2_with fail
  refine HT.out.mono ?_; rintro e w1 ⟨p, q, rfl, hS⟩
  have K1 := hid (glob_keeps Hg.out hS).1
  obtain ⟨y, hy⟩ := tab_at 1 hS
  obtain ⟨z, hz⟩ := ref_at 2 hS
  have Hy := hid hy
  have Hz := hid hz
  have HL := hid (tlen_any hy)
  have HV := hid (heavy_any hz)
  clear hS hy hz HT
  go_wp2_with fail
  by_cases h0 : m.ts.length = 0
  · have b0 : ((m.ts.length : Int) == 0) = true := by rw [h0]; rfl
    clear h0
    go_wp2_with fail
    refine HL.out.mono ?_; rintro e w2 ⟨rfl, rfl⟩
    go_wp2_with fail
    refine (HR.out w1 K1.out).mono ?_; rintro e w2 ⟨rfl, k⟩
    have K2 := hid (K1.out.trans k)
    clear k K1
    go_wp2_with fail
    go_ret
    exact ⟨rfl, K2.out⟩
  have b0 : ((m.ts.length : Int) == 0) = false := by rw [beq_eq_false_iff_ne]; omega
  have hlow : 0 < m.ts.length := by omega
  go_wp2_with fail
  refine HL.out.mono ?_; rintro e w2 ⟨rfl, rfl⟩
  go_wp2_with fail
  refine HV.out.mono ?_; rintro e w2 ⟨rfl, rfl⟩
  cases hv : heavyM m.ts with
  | true =>
    clear hv
    go_wp2_with fail
    refine (HR.out w1 K1.out).mono ?_; rintro e w2 ⟨rfl, k⟩
    have K2 := hid (K1.out.trans k)
    clear k K1
    go_wp2_with fail
    go_ret
    exact ⟨rfl, K2.out⟩
  | false =>
    obtain ⟨i, x, hwi, hx⟩ := within_at a hlow
    have hwa := fun w => within_any w a 0 ((m.ts.length : Int) - 1) (by omega) (by omega) (by omega) ha.1 ha.2
    rw [hwi] at hwa
    have hgt := heavy_not Hok.out hv hx
    have hfa := least_facts Hok.out (in_some hx)
    have hgi := gapI_in hx
    have HL2 := hid (tlen_any Hy.out)
    have Hx := hid hx
    have Hgi := hid hgi
    clear hv hwi h0 hgi hx
    go_wp2_with fail
    refine HL2.out.mono ?_; rintro e w2 ⟨rfl, rfl⟩
    go_wp2_with fail
    refine (hwa _).mono ?_; rintro e w2 ⟨rfl, rfl⟩
    clear hwa HL HL2
    go_wp2_with fail
    rcases hfa with ⟨l, hl, hlo, ⟨hwo, hds, hs1, hs2, hs3, hsk⟩ | ⟨hwo, hsk⟩⟩ | ⟨hwo, hl⟩
    · have hgap := hlo.gap
      have hpos : decide (0 < l.gap) = true := by have := hlo.has; simp; omega
      have hgl : l.gap ≤ 20000 := by rw [hgap, Hgi.out]; exact hgt
      have hd1 := demand_in Hx.out hl (k := l.search) hs1 (by omega)
      rw [hds] at hd1
      have hwb := within_bd b 1 l.search hs1
      obtain ⟨k, hk⟩ : ∃ k, within b 1 l.search = k := ⟨_, rfl⟩
      rw [hk] at hwb
      have hd2 := demand_in Hx.out hl (k := k) hwb.1 (by omega)
      have hfk := hsk k hwb.1 hwb.2
      have hwt := fun w => within_any w b 1 l.search (by omega) hs1 (by omega) hb.1 hb.2
      rw [hk] at hwt
      have hown := hlo.own
      have c0 := term_nn m i
      have c1 := term_le Hok.out i
      have c2 := cost_nn m.ts i
      have c3 := cost_le m.ts i
      generalize l.search = S at *
      generalize l.demand k = D at *
      have Hgap := hid hgap
      have Hwo := hid hwo
      have Hd1 := hid hd1
      have Hd2 := hid hd2
      have Hwt := hid hwt
      obtain ⟨T, hT⟩ : ∃ T, term m i = T := ⟨_, rfl⟩
      obtain ⟨C, hC⟩ : ∃ C, cost m.ts i = C := ⟨_, rfl⟩
      rw [hT] at c0 c1 hown
      rw [hC] at c2 c3 hown
      have HT := hid hT
      have HC := hid hC
      generalize hGG : l.gap = G at *
      have a1 : decide (S < 1) = false := decide_eq_false (by omega)
      have a2 : decide (G < S) = false := decide_eq_false (by omega)
      have a3 : decide (S < C + T) = false := decide_eq_false (by omega)
      have a4 : (S != S) = false := by simp
      have a5 : (k == S) = true ∨ (k == S) = false ∧ decide (k < D) = true := by
        rcases hfk.1 with e | e
        · left; simpa using e
        · by_cases h : k = S
          · left; simpa using h
          · right; exact ⟨by simpa using h, by simpa using e⟩
      have a6 : decide (D ≤ S) = true := by simpa using hfk.2
      clear hl hlo hds hgt hgap hwo hd1 hd2 hwt hT hC hGG hk hfk hsk hlow
      have KA := hid (Keeps.refl (fun _ => False) w1)
      have hc := gapI_any (Hy.out.keeps KA.out) (i : Int)
      rw [← Hgap.out, hpos] at hc
      refine hc.mono ?_; rintro e w2 ⟨rfl, k⟩
      have K2 := hid (KA.out.trans k)
      clear hc k KA
      go_wp2_with fail
      have hc := worst_any Hok.out (Hy.out.keeps K2.out) (i : Int)
      rw [Hwo.out] at hc
      refine hc.mono ?_; rintro e w3 ⟨rfl, k⟩
      have K3 := hid (K2.out.trans k)
      clear hc k K2
      go_wp2_with fail
      have hc := demandI_any Hok.out (Hy.out.keeps K3.out) (i : Int) S
      rw [Hd1.out] at hc
      refine hc.mono ?_; rintro e w4 ⟨rfl, k⟩
      have K4 := hid (K3.out.trans k)
      clear hc k K3
      go_wp2_with fail
      have hc := cost_any (Hy.out.keeps K4.out) (i : Int)
      rw [HC.out] at hc
      refine hc.mono ?_; rintro e w5 ⟨rfl, k⟩
      have K5 := hid (K4.out.trans k)
      clear hc k K4
      go_wp2_with fail
      have hc := term_any (Hy.out.keeps K5.out) (i : Int)
      rw [HT.out] at hc
      refine hc.mono ?_; rintro e w6 ⟨rfl, k⟩
      have K6 := hid (K5.out.trans k)
      clear hc k K5
      go_wp2_with fail
      refine (Hwt.out _).mono ?_; rintro e w7 ⟨rfl, rfl⟩
      go_wp2_with fail
      have hc := demandI_any Hok.out (Hy.out.keeps K6.out) (i : Int) k
      rw [Hd2.out] at hc
      refine hc.mono ?_; rintro e w7 ⟨rfl, kk⟩
      have K7 := hid (K6.out.trans kk)
      clear hc kk K6
      rcases a5 with a5 | ⟨a5, a7⟩
      · go_wp2_with fail
        refine (HR.out _ (K1.out.trans K7.out)).mono ?_; rintro e w8 ⟨rfl, k⟩
        have K8 := hid (K7.out.trans k)
        clear k K7
        go_wp2_with fail
        go_ret
        exact ⟨rfl, K1.out.trans K8.out⟩
      · go_wp2_with fail
        refine (HR.out _ (K1.out.trans K7.out)).mono ?_; rintro e w8 ⟨rfl, k⟩
        have K8 := hid (K7.out.trans k)
        clear k K7
        go_wp2_with fail
        go_ret
        exact ⟨rfl, K1.out.trans K8.out⟩
    · have hgap := hlo.gap
      have hpos : decide (0 < l.gap) = true := by have := hlo.has; simp; omega
      have hgl : l.gap ≤ 20000 := by rw [hgap, Hgi.out]; exact hgt
      have hhas := hlo.has
      have hwb := within_bd b 1 l.gap hhas
      obtain ⟨k, hk⟩ : ∃ k, within b 1 l.gap = k := ⟨_, rfl⟩
      rw [hk] at hwb
      have hd2 := demand_in Hx.out hl (k := k) hwb.1 (by omega)
      have hfk := hsk k hwb.1 hwb.2
      have hwt := fun w => within_any w b 1 l.gap (by omega) hhas (by omega) hb.1 hb.2
      rw [hk] at hwt
      generalize l.demand k = D at *
      have Hgap := hid hgap
      have Hwo := hid hwo
      have Hd2 := hid hd2
      have Hwt := hid hwt
      generalize hGG : l.gap = G at *
      have a1 : decide (k < D) = true := by simpa using hfk
      clear hl hlo hgt hgap hwo hd2 hwt hGG hk hfk hsk hlow
      have KA := hid (Keeps.refl (fun _ => False) w1)
      have hc := gapI_any (Hy.out.keeps KA.out) (i : Int)
      rw [← Hgap.out, hpos] at hc
      refine hc.mono ?_; rintro e w2 ⟨rfl, k⟩
      have K2 := hid (KA.out.trans k)
      clear hc k KA
      go_wp2_with fail
      have hc := worst_any Hok.out (Hy.out.keeps K2.out) (i : Int)
      rw [Hwo.out] at hc
      refine hc.mono ?_; rintro e w3 ⟨rfl, k⟩
      have K3 := hid (K2.out.trans k)
      clear hc k K2
      go_wp2_with fail
      refine (Hwt.out _).mono ?_; rintro e w7 ⟨rfl, rfl⟩
      go_wp2_with fail
      have hc := demandI_any Hok.out (Hy.out.keeps K3.out) (i : Int) k
      rw [Hd2.out] at hc
      refine hc.mono ?_; rintro e w4 ⟨rfl, k⟩
      have K4 := hid (K3.out.trans k)
      clear hc k K3
      go_wp2_with fail
      refine (HR.out _ (K1.out.trans K4.out)).mono ?_; rintro e w5 ⟨rfl, k⟩
      have K5 := hid (K4.out.trans k)
      clear k K4
      go_wp2_with fail
      go_ret
      exact ⟨rfl, K1.out.trans K5.out⟩
    · have Hwo := hid hwo
      clear hl hgt hwo hlow
      obtain ⟨GG, hGG⟩ : ∃ GG, gapI m.ts i = GG := ⟨_, rfl⟩
      obtain ⟨BB, hBB⟩ : ∃ BB, decide (0 < GG) = BB := ⟨_, rfl⟩
      have HGG := hid hGG
      have HBB := hid hBB
      clear hGG hBB
      have KA := hid (Keeps.refl (fun _ => False) w1)
      have hc := gapI_any (Hy.out.keeps KA.out) (i : Int)
      rw [HGG.out, HBB.out] at hc
      refine hc.mono ?_; rintro e w2 ⟨rfl, k⟩
      have K2 := hid (KA.out.trans k)
      clear hc k KA
      go_wp2_with fail
      have hc := worst_any Hok.out (Hy.out.keeps K2.out) (i : Int)
      rw [Hwo.out] at hc
      refine hc.mono ?_; rintro e w3 ⟨rfl, k⟩
      have K3 := hid (K2.out.trans k)
      clear hc k K2
      go_wp2_with fail
      refine (HR.out _ (K1.out.trans K3.out)).mono ?_; rintro e w4 ⟨rfl, k⟩
      have K4 := hid (K3.out.trans k)
      clear k K3
      go_wp2_with fail
      go_ret
      exact ⟨rfl, K1.out.trans K4.out⟩
end
end Go.Proofs.YtnkjjhenfhnajaaGreatDoor
