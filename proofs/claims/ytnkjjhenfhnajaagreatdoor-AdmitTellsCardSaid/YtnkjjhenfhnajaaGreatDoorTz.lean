/-
  Package tasks, walked: New, Check, Add.
-/
import Derived.Test.YtnkjjhenfhnajaaGreatDoorG12
import Derived.Test.YtnkjjhenfhnajaaGreatDoorG02
namespace Go.Proofs.YtnkjjhenfhnajaaGreatDoor
open Go.RowKit Go.Kw Go.Kreg Go.Tm

theorem all_drop {us : List Int} {k : Nat} {n : Int} (hx : us[k]? = some n) (hn : 1 ≤ n ∧ n ≤ 255) : (us.drop k).all (fun n => decide (1 ≤ n) && decide (n ≤ 255)) = (us.drop (k + 1)).all (fun n => decide (1 ≤ n) && decide (n ≤ 255)) := by
  have hlt := (List.getElem?_eq_some_iff.1 hx).1
  rw [List.drop_eq_getElem_cons hlt, (List.getElem?_eq_some_iff.1 hx).2, List.all_cons]
  simp [hn]

section
variable {w : World} {v : Value}
set_option maxRecDepth 100000 in
set_option maxHeartbeats 1000000 in
theorem new_any {us : List Int} (hv : SlIn w v us) (words : Int) : Calls Tryz.prog 12 #[.int .i64 words, v] w fun e w' =>
    (begins words us ≠ 0 ∧ e = .returned (.tuple #[.pointer none, .int .i64 (begins words us)]) ∧ Keeps (fun _ => False) w w') ∨
    (begins words us = 0 ∧ ∃ p, e = .returned (.tuple #[.pointer (some ⟨p, 0, none⟩), .int .i64 0]) ∧ St (fun _ => False) w [tabC p ⟨words, us, []⟩] w') := by
  have hv' := hv
  obtain ⟨ao, c, rfl, hl, hlc, hcm, hc, h0⟩ := hv
  by_cases hw : words < 0 ∨ 65536 < words
  · have hb : begins words us = 1 := by unfold begins; rw [if_pos hw]
    rw [hb]
    clear hb hv' hc h0
    by_cases h1 : words < 0
    · have b1 : decide (words < 0) = true := by simpa using h1
      clear h1 hw
      go_enter Tryz.func12, Tryz.ntmps12
      go_wp2_with fail
      go_ret2
      exact .inl ⟨by decide, rfl, Keeps.refl _ _⟩
    · have b1 : decide (words < 0) = false := by simpa using h1
      have b2 : decide (65536 < words) = true := by simp; omega
      clear h1 hw
      go_enter Tryz.func12, Tryz.ntmps12
      go_wp2_with fail
      go_ret2
      exact .inl ⟨by decide, rfl, Keeps.refl _ _⟩
  · have b1 : decide (words < 0) = false := by simp; omega
    have b2 : decide (65536 < words) = false := by simp; omega
    by_cases hlen : 16 < us.length
    · have hb : begins words us = 4 := by unfold begins; rw [if_neg hw, if_pos hlen]
      rw [hb]
      have b3 : decide ((16 : Int) < (us.length : Int)) = true := by simp; omega
      clear hb hv' hc h0 hw hlen
      go_enter Tryz.func12, Tryz.ntmps12
      go_wp2_with fail
      go_ret2
      exact .inl ⟨by decide, rfl, Keeps.refl _ _⟩
    · have b3 : decide ((16 : Int) < (us.length : Int)) = false := by simp; omega
      have hb : begins words us = if (us.drop 0).all (fun n => decide (1 ≤ n) && decide (n ≤ 255)) then 0 else 1 := by unfold begins; rw [if_neg hw, if_neg hlen]; rfl
      have hcl := cloneI_any hv' (by omega)
      have Hcl := hid hcl
      have Hb := hid hb
      have Hc := hid hc
      clear hb hv' hc h0 hw hcl
      generalize hB : begins words us = B at *
      have HB := hid hB
      clear hB
      go_enter Tryz.func12, Tryz.ntmps12
      go_wp2_with fail
      go_loopw [21] (fun y wr => ∃ k : Nat, k ≤ us.length ∧ y = .int .i64 k ∧ Hid (B = if (us.drop k).all (fun n => decide (1 ≤ n) && decide (n ≤ 255)) then 0 else 1) ∧ wr = w) (fun y _ => us.length - (intOf y).toNat)
      case atStart => exact ⟨0, Nat.zero_le _, rfl, Hb, rfl⟩
      case round =>
        clear Hb
        obtain ⟨k, hk, rfl, Hq, rfl⟩ := hrel
        by_cases hlt : k < us.length
        · have b4 : decide (k < us.length) = true := by simpa using hlt
          have hx := List.getElem?_eq_getElem hlt
          obtain ⟨b, o, rfl, d0⟩ := Hc.out k _ hx
          have hq := Hq.out
          have hd := List.drop_eq_getElem_cons hlt
          have had := fun hn => all_drop (us := us) (k := k) hx hn
          generalize us[k] = n at *
          have i0 : (0 : Int) ≤ (k : Int) := by omega
          have i1 : (k : Int) < (us.length : Int) := by omega
          by_cases hn1 : n < 1
          · have c1 : decide (n < 1) = true := by simpa using hn1
            have hB1 : B = 1 := by rw [hq, hd, List.all_cons]; rw [if_neg]; simp; omega
            clear hq hd had hn1 hx
            subst hB1
            go_wp2_with fail
            go_ret2
            exact .inl ⟨by decide, rfl, Keeps.refl _ _⟩
          · have c1 : decide (n < 1) = false := by simpa using hn1
            by_cases hn2 : 255 < n
            · have c2 : decide (255 < n) = true := by simpa using hn2
              have hB1 : B = 1 := by rw [hq, hd, List.all_cons]; rw [if_neg]; simp; omega
              clear hq hd had hn1 hn2 hx
              subst hB1
              go_wp2_with fail
              go_ret2
              exact .inl ⟨by decide, rfl, Keeps.refl _ _⟩
            · have c2 : decide (255 < n) = false := by simpa using hn2
              rw [had ⟨by omega, by omega⟩] at hq
              have Hq2 := hid hq
              clear hq hd had hn1 hn2 hx Hq
              go_wp2_with fail
              go_roundw
              case rel => exact ⟨k + 1, by omega, by go_num, Hq2, by trivial⟩
              case measure => simp [intOf]; omega
        · have b4 : decide (k < us.length) = false := by simpa using hlt
          have hq := Hq.out
          rw [List.drop_eq_nil_of_le (by omega)] at hq
          simp only [List.all_nil, if_true] at hq
          subst hq
          go_wp2_with fail
          refine Hcl.out.mono ?_; rintro e w2 ⟨uv, rfl, hS⟩
          obtain ⟨ua, uc, rfl, _⟩ := (hS.own 0).shape
          have hS2 := hS.new TTb [.int .i64 words, .slice ua us.length uc, .slice none 0 0, .slice none 0 0]
          have hS3 := hS2.add (Keeps.refl (fun _ => False) _) (G := fun _ => False) (c := .row TR 9 (.slice none 0 0) 0 []) ⟨⟨rfl, .inl ⟨rfl, rfl⟩⟩, fun b => by simp [Value.ownBlock]⟩ (fun _ h => h.elim)
          have hS4 := hS3.add (Keeps.refl (fun _ => False) _) (G := fun _ => False) (c := .row TN 2 (.slice none 0 0) 0 []) ⟨⟨rfl, .inl ⟨rfl, rfl⟩⟩, fun b => by simp [Value.ownBlock]⟩ (fun _ h => h.elim)
          have hS5 := hS4.add (Keeps.refl (fun _ => False) _) (G := fun _ => False) (c := .stars []) (fun _ => id) (fun _ h => h.elim)
          have hS6 := hS5.add (Keeps.refl (fun _ => False) _) (G := fun _ => False) (c := .pr (TabOk ⟨words, us, []⟩ ⟨.slice ua us.length uc, .slice none 0 0, .slice none 0 0, [], []⟩)) ⟨tabx_new.2 HB.out, fun _ => id⟩ (fun _ h => h.elim)
          have hS7 := (hS6.fold [1, 0, 2, 3, 4, 5] (tabC w2.heap.size ⟨words, us, []⟩) (fun F h => ⟨⟨.slice ua us.length uc, .slice none 0 0, .slice none 0 0, [], []⟩, h⟩)).sub [1]
          have HS7 := hid hS7
          clear hS hS2 hS3 hS4 hS5 hS6 hS7
          go_wp2_with fail
          go_ret2
          first | exact .inr ⟨rfl, _, rfl, HS7.out⟩ | exact ⟨_, rfl, HS7.out⟩
end

theorem glob_keeps {W w w' : World} {F : Nat → Prop} {cs : List Ch} (h : (glC W).holds F w) (hS : St F w (glC W :: cs) w') : Keeps (fun _ => False) w w' ∧ ∃ F', (glC W).holds F' w' := by
  have hk := hS.keeps
  obtain ⟨F', h', _⟩ := hS.at 0 rfl
  exact ⟨⟨hk.os, hk.tape, hk.output, hk.size, fun k hk' _ => by
    by_cases hlt : k < NG
    · exact (h'.1 k hlt).trans (h.1 k hlt).symm
    · exact hk.block k hk' fun hF => hlt ((h.2.2 k).1 hF)⟩, F', h'⟩
theorem glob_fresh {W w w' : World} {F : Nat → Prop} {cs : List Ch} (h : (glC W).holds F w) (hS : St F w (glC W :: cs) w') : St (fun _ => False) w cs w' := by
  have hk := (glob_keeps h hS).1
  obtain ⟨F', ⟨F1, F2, g1, g2, g3, g4⟩, hM⟩ := hS
  refine ⟨F2, g2, hk, fun b hb => ?_⟩
  rcases hM.2 b ((g4 b).2 (.inr hb)) with hf | hf
  · exact absurd hb (g3 b ((g1.2.2 b).2 ((h.2.2 b).1 hf)))
  · exact .inr hf
theorem glob_new {W w w' : World} {F : Nat → Prop} (h : (glC W).holds F w) (hk : Keeps (fun _ => False) w w') : (glC W).holds F w' := (glC W).keep F _ w w' h hk fun _ _ => id
theorem prog_fresh {W w : World} {F : Nat → Prop} (hG : Glob W) (h : (glC W).holds F w) (s : ByteArray) : Calls Tryz.prog 73 #[.string s] w fun e w' => ∃ lv, e = .returned (.tuple #[lv, .int .i64 (Cm.program s.data.toList).2]) ∧ Keeps (fun _ => False) w w' ∧ ((Cm.program s.data.toList).2 = 0 → St (fun _ => False) w [.row TOp 4 lv (Cm.program s.data.toList).1.length (opsC (Cm.program s.data.toList).1)] w') :=
  (prog_any hG (Sts.one h) s _ rfl).mono fun e w' ⟨lv, he, hor⟩ => ⟨lv, he, by
    rcases hor with ⟨h0, hS⟩ | ⟨h0, hS⟩
    · exact ⟨(glob_keeps h hS).1, fun h => absurd h h0⟩
    · exact ⟨(glob_keeps h hS).1, fun _ => glob_fresh h hS⟩⟩

theorem bad_cases {level frame : Int} (hbad : bad level frame) : decide (level < 1) = true ∨ (decide (level < 1) = false ∧ decide (32 < level) = true) ∨ (decide (level < 1) = false ∧ decide (32 < level) = false ∧ decide (frame < 0) = true) ∨
    (decide (level < 1) = false ∧ decide (32 < level) = false ∧ decide (frame < 0) = false ∧ decide (4096 < frame) = true) := by
  simp only [decide_eq_true_eq, decide_eq_false_iff_not]
  unfold bad at hbad
  omega
theorem not_bad {level frame : Int} (hbad : ¬ bad level frame) : decide (level < 1) = false ∧ decide (32 < level) = false ∧ decide (frame < 0) = false ∧ decide (4096 < frame) = false := by
  simp only [decide_eq_false_iff_not]
  unfold bad at hbad
  omega

section
variable {W w : World} {F : Nat → Prop} {p : Nat} {m : TM} {y : TabX}
set_option maxRecDepth 100000 in
set_option maxHeartbeats 4000000 in
theorem tcheck_any (hG : Glob W) (hg : (glC W).holds F w) (h : TabAt w p m y) (x : Task) {nd : Value} (hv : SlNd w nd x.needs) (hb : -9223372036854775808 ≤ x.frame ∧ x.frame ≤ 9223372036854775807) :
    Calls Tryz.prog 17 #[.pointer (some ⟨p, 0, none⟩), taskV x nd] w fun e w' => e = .returned (.int .i64 (m.check x)) ∧ Keeps (fun _ => False) w w' := by
  have hv' := hv
  obtain ⟨na, nc, rfl, _⟩ := hv
  have k0 := (Keeps.refl (fun _ => False) w).alloc (.cells #[.string x.name, .int .i64 x.level, .int .i64 x.frame, .slice na x.needs.length nc, .string x.code, .int .i64 x.period, .int .i64 x.first, .int .i64 x.gap] TTk)
  have hB := Blk.new w TTk [.string x.name, .int .i64 x.level, .int .i64 x.frame, .slice na x.needs.length nc, .string x.code, .int .i64 x.period, .int .i64 x.first, .int .i64 x.gap]
  have hp := prog_fresh hG (glob_new hg k0) x.code
  have hti := fun w => times_any w x na x.needs.length nc
  have H := hid h
  have HV := hid hv'
  have HK0 := hid k0
  have HB := hid hB
  have HP := hid hp
  have HT := hid hti
  obtain ⟨R, hR⟩ : ∃ R, m.check x = R := ⟨_, rfl⟩
  rw [hR]
  unfold TM.check prog at hR
  have HR := hid hR
  unfold taskV
  clear h hv' k0 hB hp hti hR
  go_enter Tryz.func17, Tryz.ntmps17
  go_wp2_with fail
  refine HP.out.mono ?_; rintro e w1 ⟨lv, rfl, k1, _⟩
  have HK1 := hid (HK0.out.trans k1)
  have HB1 := hid (k1.blk HB.out id)
  generalize (Cm.program x.code.data.toList).2 = E at *
  clear k1 HK0 HB HP
  obtain ⟨c0, c1, c2, c3, c4, c5, c6, c7, cz⟩ := cells8 HB1.out
  have hr := HR.out
  by_cases hE : E ≠ 0
  · rw [if_pos hE] at hr
    have bE : (E != 0) = true := by simpa using hE
    subst hr
    clear hE
    go_wp2_with fail
    go_ret
    exact ⟨rfl, HK1.out⟩
  · rw [if_neg hE] at hr
    have bE : (E != 0) = false := by simpa using hE
    have HR1 := hid hr
    clear hE hr HR
    go_wp2_with fail
    refine (legal_any x.name _).mono ?_; rintro e w2 ⟨rfl, k2⟩
    have HK2 := hid (HK1.out.trans k2)
    have HB2 := hid (k2.blk HB1.out id)
    generalize Cm.legal x.name.data.toList = lg at *
    clear k2 HK1 HB1 c0 c1 c2 c3 c4 c5 c6 c7 cz
    obtain ⟨c0, c1, c2, c3, c4, c5, c6, c7, cz⟩ := cells8 HB2.out
    have hr := HR1.out
    cases lg with
    | false =>
      rw [if_pos rfl] at hr
      subst hr
      go_wp2_with fail
      go_ret
      exact ⟨rfl, HK2.out⟩
    | true =>
      rw [if_neg (by simp)] at hr
      have HR2 := hid hr
      clear hr HR1
      have H2 := hid (H.out.keeps HK2.out)
      go_wp2_with fail
      refine wp_region_tree [true, true, true, true, true, false, false, false, false, false, false] 5 (.one 5 (.one 6 (.two 7 (.two 8 (.one 9 .done) 9 (.one 8 .done)) 8 (.one 7 (.one 9 .done))))) (fun _ => False) (by kernel_rfl) (by decide +kernel) ?_
      simp only [front, back, List.drop_succ_cons, List.drop_zero]
      repeat ((first | refine wpFront_load rfl ?_ | refine wpFront_other rfl ?_); (first | go_big_quiet_step (fail) | quiet_step (fail)); refine wpQuiet_nil ?_)
      refine wpFront_nil ?_
      simp only [wpTr]
      refine at'_of rfl ?_
      go_wp2_with fail
      refine (tget_any (H2.out.keeps (Keeps.refl _ _).drew) x.name).mono ?_; rintro e w3 ⟨rfl, k3⟩
      have K3 := (Keeps.refl (fun _ => False) w2).drew.trans k3
      go_wp2_with fail
      repeat' (first | refine segQ_normal K3 ?_ | refine And.intro ?_ ?_ | (refine at'_of rfl ?_; go_wp2_with fail))
      all_goals
        have HK3 := hid (HK2.out.trans K3)
        have HB3 := hid (K3.blk HB2.out id)
        have hr := HR2.out
        clear k3 K3 HK2 HB2 H2 c0 c1 c2 c3 c4 c5 c6 c7 cz
        generalize find m.ts x.name = fo at *
        obtain ⟨c0, c1, c2, c3, c4, c5, c6, c7, cz⟩ := cells8 HB3.out
        go_wp2_with fail
        refine NoPanic.normal ?_
        cases hfo : fo.isSome with
        | true =>
          rw [if_pos hfo] at hr
          subst hr
          clear hfo
          go_wp2_with fail
          go_ret
          exact ⟨rfl, HK3.out⟩
        | false =>
          rw [if_neg (by simp [hfo])] at hr
          have HR3 := hid hr
          clear hr HR2 hfo
          have hr := HR3.out
          by_cases hbad : bad x.level x.frame
          · rw [if_pos (.inl hbad)] at hr
            subst hr
            have fin := bad_cases hbad
            clear hbad
            rcases fin with h1 | ⟨h1, h2⟩ | ⟨h1, h2, h3⟩ | ⟨h1, h2, h3, h4⟩
            all_goals
              go_wp2_with fail
              go_ret
              exact ⟨rfl, HK3.out⟩
          · obtain ⟨h1, h2, h3, h4⟩ := not_bad hbad
            go_wp2_with fail
            refine (HT.out _).mono ?_; rintro e w4 ⟨rfl, k4⟩
            have HK4 := hid (HK3.out.trans k4)
            have HB4 := hid (k4.blk HB3.out id)
            generalize timesOk x = tk at *
            clear k4 HK3 HB3 HR3 HT c0 c1 c2 c3 c4 c5 c6 c7 cz
            obtain ⟨c0, c1, c2, c3, c4, c5, c6, c7, cz⟩ := cells8 HB4.out
            cases tk with
            | false =>
              rw [if_pos (.inr rfl)] at hr
              subst hr
              go_wp2_with fail
              go_ret
              exact ⟨rfl, HK4.out⟩
            | true =>
              rw [if_neg (by simp [hbad])] at hr
              have HR4 := hid hr
              have hnd := needs_any (H.out.keeps HK4.out) (HV.out.new HK4.out)
              clear hr hbad h1 h2 h3 h4
              go_wp2_with fail
              refine hnd.mono ?_; rintro e w5 ⟨rfl, k5⟩
              have HK5 := hid (HK4.out.trans k5)
              have HB5 := hid (k5.blk HB4.out id)
              have hr := HR4.out
              generalize needsErr m.units x.needs = ne at *
              clear k5 HK4 HB4 HR4 hnd c0 c1 c2 c3 c4 c5 c6 c7 cz
              obtain ⟨c0, c1, c2, c3, c4, c5, c6, c7, cz⟩ := cells8 HB5.out
              by_cases hne : ne ≠ 0
              · rw [if_pos hne] at hr
                have bne : (ne != 0) = true := by simpa using hne
                subst hr
                clear hne
                go_wp2_with fail
                go_ret
                exact ⟨rfl, HK5.out⟩
              · rw [if_neg hne] at hr
                have bne : (ne != 0) = false := by simpa using hne
                have H5 := hid (H.out.keeps HK5.out)
                have hsl := stackLen_any H5.out.cells.2.2.1 H5.out.rows
                have hbd := withOne_bd H5.out.tok.ok.fit x.level x.frame
                have hwd := H5.out.cells.1
                have hwi := with_any (H5.out.keeps (Keeps.refl _ _).drew) x.level x.frame hb
                clear hne
                by_cases hmany : 64 ≤ m.ts.length
                · rw [if_pos hmany] at hr
                  have bm : decide ((64 : Int) ≤ (m.ts.length : Int)) = true := by simp; omega
                  subst hr
                  go_wp2_with fail
                  refine hsl.mono ?_; rintro e w6 ⟨rfl, rfl⟩
                  clear hsl hwi hmany
                  go_wp2_with fail
                  go_ret
                  exact ⟨rfl, HK5.out⟩
                · rw [if_neg hmany] at hr
                  have bm : decide ((64 : Int) ≤ (m.ts.length : Int)) = false := by simp; omega
                  clear hmany
                  have HR5 := hid hr
                  clear hr
                  go_wp2_with fail
                  refine hsl.mono ?_; rintro e w6 ⟨rfl, rfl⟩
                  clear hsl
                  generalize withOne m.ts x.level x.frame = wo at *
                  go_wp2_with fail
                  refine wp_region_mix [true, true, true, true, true, false, true, true, true, true, false, false] 1 (fun _ => False) (by kernel_rfl) (by decide +kernel) ?_
                  simp only [front, back, List.take_succ_cons, List.take_zero, List.drop_succ_cons, List.drop_zero]
                  repeat ((first | refine wpFront_load rfl ?_ | refine wpFront_other rfl ?_); (first | go_big_quiet_step (fail) | quiet_step (fail)); refine wpQuiet_nil ?_)
                  refine wpFront_nil ?_
                  simp only [wpSegs]
                  go_wp2_with fail
                  refine hwi.mono ?_; rintro e w7 ⟨rfl, k7⟩
                  have K7 := (Keeps.refl (fun _ => False) w5).drew.trans k7
                  have HK7 := hid (HK5.out.trans K7)
                  go_wp2_with fail
                  refine segQ_normal K7 ?_
                  have hr := HR5.out
                  clear hwi k7 K7 HK5 HR5 c0 c1 c2 c3 c4 c5 c6 c7 cz hwd HB5
                  by_cases hst : m.words < wo
                  · rw [if_pos hst] at hr
                    have bst : decide (m.words < wo) = true := by simpa using hst
                    subst hr
                    go_wp2_with fail
                    refine NoPanic.normal ?_
                    go_wp2_with fail
                    go_ret
                    exact ⟨rfl, HK7.out⟩
                  · rw [if_neg hst] at hr
                    have bst : decide (m.words < wo) = false := by simpa using hst
                    subst hr
                    go_wp2_with fail
                    refine NoPanic.normal ?_
                    go_wp2_with fail
                    go_ret
                    exact ⟨rfl, HK7.out⟩
end
end Go.Proofs.YtnkjjhenfhnajaaGreatDoor
