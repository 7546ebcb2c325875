/-
  keelkeep.Bounds and Make, walked.
-/
import Derived.Test.YtnkjjhenfhnajaaGreatDoorUt
import Derived.Test.YtnkjjhenfhnajaaGreatDoorG26
namespace Go.Proofs.YtnkjjhenfhnajaaGreatDoor
open Go.RowKit Go.Kw Go.Kreg Go.Tm
set_option linter.unusedSimpArgs false
set_option linter.unusedVariables false

abbrev TSet : Nat := 54
abbrev zSet : List Value := [.int .i64 0, .slice none 0 0, .slice none 0 0]
theorem sizeSet : (Tryz.prog.info? TSet).map (·.size) = some 3 := by kernel_rfl
/-- A slice value that reads as these numbers, of any length. -/
def SlIm (w : World) (v : Value) (l : List Int) : Prop :=
  ∃ ao c, v = .slice ao l.length c ∧ l.length ≤ 9223372036854775807 ∧ l.length ≤ c ∧ c ≤ maxLen ∧ ∀ (j : Nat) x, l[j]? = some x → ∃ b o, ao = some ⟨b, o, none⟩ ∧ w.cell? ⟨b, o + j, none⟩ = some (.int .i64 x)
theorem SlIm.new {w w' : World} {v : Value} {l : List Int} (h : SlIm w v l) (hk : Keeps (fun _ => False) w w') : SlIm w' v l := by
  obtain ⟨ao, c, h1, h2, h3, h4, h5⟩ := h
  refine ⟨ao, c, h1, h2, h3, h4, fun j x hj => ?_⟩
  obtain ⟨b, o, e, hc⟩ := h5 j x hj
  exact ⟨b, o, e, cellIn hk hc⟩
set_option maxRecDepth 100000 in
theorem clampW_any (w : World) (n : Int) : Calls Tryz.prog 109 #[.int .i64 n, .int .i64 0, .int .i64 65536] w fun e w' => e = .returned (.int .i64 (clampW n)) ∧ w = w' := by
  by_cases h0 : n < 0
  · have b0 : decide (n < 0) = true := by simpa using h0
    rw [show clampW n = 0 by unfold clampW; rw [if_pos h0]]
    clear h0
    go_enter Tryz.func109, Tryz.ntmps109
    go_wp2_with fail
    go_ret
    exact ⟨rfl, rfl⟩
  · have b0 : decide (n < 0) = false := by simpa using h0
    by_cases h1 : 65536 < n
    · have b1 : decide (65536 < n) = true := by simpa using h1
      rw [show clampW n = 65536 by unfold clampW; rw [if_neg h0, if_pos h1]]
      clear h0 h1
      go_enter Tryz.func109, Tryz.ntmps109
      go_wp2_with fail
      go_ret
      exact ⟨rfl, rfl⟩
    · have b1 : decide (65536 < n) = false := by simpa using h1
      rw [show clampW n = n by unfold clampW; rw [if_neg h0, if_neg h1]]
      clear h0 h1
      go_enter Tryz.func109, Tryz.ntmps109
      go_wp2_with fail
      go_ret
      exact ⟨rfl, rfl⟩
/-- Tasks kept beside: their needs read as they came in. -/
structure KeptB (w : World) (ts : List Task) (nds : List Value) : Prop where
  len : nds.length = ts.length
  each : ∀ (k : Nat) x, ts[k]? = some x → ∃ na nc, nds[k]? = some (.slice na x.needs.length nc) ∧ SlNd w (.slice na x.needs.length nc) x.needs ∧ big x.level ∧ big x.frame ∧ big x.period ∧ big x.first ∧ big x.gap
theorem KeptB.nil (w : World) : KeptB w [] [] := ⟨rfl, fun k x h => by simp at h⟩
theorem KeptB.add {w : World} {ts : List Task} {nds : List Value} (h : KeptB w ts nds) {x : Task} {na : Option Addr} {nc : Nat} (hn : SlNd w (.slice na x.needs.length nc) x.needs) (hb : big x.level ∧ big x.frame ∧ big x.period ∧ big x.first ∧ big x.gap) : KeptB w (ts ++ [x]) (nds ++ [.slice na x.needs.length nc]) := by
  refine ⟨by simp [h.len], fun k y hk => ?_⟩
  by_cases hlt : k < ts.length
  · rw [List.getElem?_append_left hlt] at hk
    obtain ⟨a, c, h1, h2⟩ := h.each k y hk
    exact ⟨a, c, by rw [List.getElem?_append_left (by rw [h.len]; exact hlt)]; exact h1, h2⟩
  · rw [List.getElem?_append_right (by omega)] at hk
    have hk0 : k = ts.length := by
      have := (List.getElem?_eq_some_iff.1 hk).1
      simp at this; omega
    subst hk0
    simp at hk; subst hk
    exact ⟨na, nc, by rw [List.getElem?_append_right (by rw [h.len]; exact Nat.le_refl _), h.len]; simp, hn, hb⟩
theorem tasksVB_app : ∀ {l : List Task} {nds : List Value} (x : Task) (nd : Value), nds.length = l.length → tasksV (l ++ [x]) (nds ++ [nd]) = tasksV l nds ++ [.string x.name, .int .i64 x.level, .int .i64 x.frame, nd, .string x.code, .int .i64 x.period, .int .i64 x.first, .int .i64 x.gap]
  | [], [], x, nd, _ => by simp [tasksV]
  | y :: l, md :: nds, x, nd, h => by
    simp only [List.cons_append, tasksV]
    rw [tasksVB_app x nd (by simpa using h)]
    simp
theorem taskB_one (x : Task) (na : Option Addr) (nc : Nat) : ∀ u ∈ [.string x.name, .int .i64 x.level, .int .i64 x.frame, .slice na x.needs.length nc, .string x.code, .int .i64 x.period, .int .i64 x.first, .int .i64 x.gap], Value.oneCell' u = true := by
  intro u hu; simp only [List.mem_cons, List.not_mem_nil, or_false] at hu; rcases hu with rfl | rfl | rfl | rfl | rfl | rfl | rfl | rfl <;> rfl
theorem SlTk.of_own {w w' : World} {v : Value} {ts : List Task} {nds : List Value} (ho : Own w' TTk 8 v ts.length (tasksV ts nds)) (hk : KeptB w ts nds) (hw : Keeps (fun _ => False) w w') (hl : ts.length ≤ 1000000) : SlTk w' v ts := by
  rcases id ho.2 with ⟨rfl, h0⟩ | ⟨g, cap, cur, rfl, hb, hh, hn, hm, hs, ht⟩
  · have : ts = [] := List.length_eq_zero_iff.1 h0
    subst this
    exact ⟨none, 0, rfl, by simp, by simp, by simp [maxLen], fun j x hj => by simp at hj⟩
  · refine ⟨_, _, rfl, by omega, hn, hm, fun j x hj => ?_⟩
    obtain ⟨na, nc, h1, h2, h3⟩ := hk.each j x hj
    have ha := tasksV_at hj h1
    refine ⟨g, 0, _, rfl, ?_, h2.new hw, h3⟩
    have key : ∀ (i : Nat) u, i < 8 → [.string x.name, .int .i64 x.level, .int .i64 x.frame, .slice na x.needs.length nc, .string x.code, .int .i64 x.period, .int .i64 x.first, .int .i64 x.gap][i]? = some u → w'.cell? ⟨g, 0 + j * 8 + i, none⟩ = some u := fun i u hi hu => by
      rw [Nat.zero_add]
      exact ho.cells' (g := g) rfl ((ha i hi).trans hu)
    exact ⟨key 0 _ (by omega) rfl, key 1 _ (by omega) rfl, key 2 _ (by omega) rfl, key 3 _ (by omega) rfl, key 4 _ (by omega) rfl, key 5 _ (by omega) rfl, key 6 _ (by omega) rfl, key 7 _ (by omega) rfl⟩
section
variable {w : World}
set_option maxRecDepth 100000 in
set_option maxHeartbeats 8000000 in
theorem bounds_any {v0 : World} {W0 : Int} {uv tv : Value} {us : List Int} {ts : List Task} (hu : SlIm w uv us) (ht0 : SlTk v0 tv ts) (hk0 : Keeps (fun _ => False) v0 w) :
    Calls Tryz.prog 95 #[.agg #[.int .i64 W0, uv, tv], .int .i64 10] w fun e w' => ∃ uv' tv' nds, e = .returned (.agg #[.int .i64 (clampW W0), uv', tv']) ∧ St (fun _ => False) w [.row TI' 1 uv' (setU us).length (intsC (setU us)), .row TTk 8 tv' (setT ts).length (tasksV (setT ts) nds)] w' ∧ KeptB v0 (setT ts) nds := by
  have ht := ht0.new hk0
  obtain ⟨ua, uc, rfl, hu1, hu2, hu3, hu4⟩ := id hu
  obtain ⟨la, lc, rfl, hl1, hl2, hl3, -⟩ := id ht
  have HU := hid hu4
  have HT := hid ht
  have HT0 := hid ht0
  have HK0 := hid hk0
  have hS := (((St.start w).new TSet [.int .i64 W0, .slice ua us.length uc, .slice la ts.length lc]).new TSet zSet).new TSet zSet
  simp only [World.size_alloc] at hS
  simp only [Kw.red] at hS
  have HS := hid hS
  have HC := hid (fun w => clampW_any w W0)
  have HCI := hid (fun w n => clamp_any w n)
  obtain ⟨cw, hcw⟩ : ∃ cw, clampW W0 = cw := ⟨_, rfl⟩
  rw [hcw] at HC ⊢
  clear hu ht hu4 hS hcw ht0 hk0
  go_enter Tryz.func95, Tryz.ntmps95
  go_wp2_with fail
  refine (HC.out _).mono ?_; rintro e w1 ⟨rfl, rfl⟩
  generalize hsb : w.heap.size = sb at *
  generalize hwa : ((w.alloc (.cells #[.int .i64 W0, .slice ua us.length uc, .slice la ts.length lc] TSet)).alloc (.cells zSet.toArray TSet)).alloc (.cells zSet.toArray TSet) = wa at *
  have c2 := (HS.out.blk 2).cell 0
  have z2 := (HS.out.blk 2).fz
  simp only [List.getElem?_cons_zero] at c2
  have HS1 := hid (HS.out.set 2 0 (.int .i64 cw))
  have hS1 := HS1.out
  simp only [Kw.red] at hS1
  simp only [List.set_cons_zero] at hS1
  have hS2 := hS1.add (Keeps.refl (fun _ => False) _) (G := fun _ => False) (c := .row TI' 1 (.slice none 0 0) ((us.take 0).map clampI).length (intsC ((us.take 0).map clampI))) ⟨⟨rfl, .inl ⟨rfl, rfl⟩⟩, fun b => by simp [Value.ownBlock]⟩ (fun b hb => hb.elim)
  simp only [Kw.red] at hS2
  have HS2 := hid hS2
  clear hS1 hS2 HS1 HS
  go_wp2_with fail
  go_loopw [6] (fun y wr => ∃ (k : Nat) (yv : Value), k ≤ us.length ∧ k ≤ 16 ∧ y = .int .i64 k ∧ St (fun _ => False) w [.pt sb TSet [.int .i64 W0, .slice ua us.length uc, .slice la ts.length lc], .pt (sb + 1) TSet zSet, .pt (sb + 1 + 1) TSet [.int .i64 cw, yv, .slice none 0 0], .row TI' 1 yv ((us.take k).map clampI).length (intsC ((us.take k).map clampI))] wr) (fun y _ => us.length - (intOf y).toNat)
  case atStart => exact ⟨0, _, Nat.zero_le _, Nat.zero_le _, rfl, HS2.out⟩
  case round =>
    clear HS2 c2 z2
    obtain ⟨k, yv, hk, hk16, rfl, hS⟩ := hrel
    obtain ⟨ia, ic, rfl, -⟩ := (hS.own 3).shape
    have s1 := (hS.blk 0).cell 1
    have s2 := (hS.blk 0).cell 2
    have x1 := (hS.blk 2).cell 1
    have x2 := (hS.blk 2).cell 2
    have xz := (hS.blk 2).fz
    simp only [List.getElem?_cons_zero, List.getElem?_cons_succ] at s1 s2 x1 x2
    by_cases hlt : k < us.length ∧ k < 16
    · obtain ⟨hlt, h16⟩ := hlt
      have a1 : decide (k < us.length) = true := by simpa using hlt
      have a2 : decide ((k : Int) < 16) = true := by simp; omega
      have hx := List.getElem?_eq_getElem hlt
      obtain ⟨b, o, rfl, d0⟩ := HU.out k _ hx
      have d0 := cellIn hS.keeps d0
      have i0 : (0 : Int) ≤ (k : Int) := by omega
      have i1 : (k : Int) < (us.length : Int) := by omega
      have htk : (us.take (k + 1)).map clampI = (us.take k).map clampI ++ [clampI us[k]] := by rw [List.take_succ_eq_append_getElem hlt, List.map_append]; rfl
      have hcl := fun w => HCI.out w us[k]
      generalize us[k] = u at *
      have hlen := hid (show ((us.take k).map clampI).length ≤ 16 by rw [List.length_map, List.length_take]; omega)
      have Htk := hid htk
      generalize (us.take k).map clampI = L at *
      generalize clampI u = cu at *
      have HS3 := hid hS
      have Hcl := hid hcl
      clear hS hx htk hcl
      go_wp2_with fail
      refine wp_region_mix [true, true, true, true, true, true, true, false, false, false, false, false] 2 (fun _ => False) (by kernel_rfl) (by decide +kernel) ?_
      simp only [front, back, List.take_succ_cons, List.take_zero, List.drop_succ_cons, List.drop_zero]
      repeat ((first | refine wpFront_load rfl ?_ | refine wpFront_other rfl ?_); (first | go_big_quiet_step (fail) | quiet_step (fail)); refine wpQuiet_nil ?_)
      refine wpFront_nil ?_
      simp only [wpSegs]
      go_wp2_with fail
      refine (Hcl.out _).mono ?_; rintro e w2 ⟨rfl, rfl⟩
      go_wp2_with fail
      refine segQ_normal (Keeps.refl _ _).drew ?_
      go_wp2_with fail
      refine segQ_normal (((Keeps.refl _ _).drew).alloc _) ?_
      have hSb := HS3.out.drew.new TI' (intsC [cu])
      simp only [Kw.red] at hSb
      refine wpList_appS 3 4 _ _ 22 TI' (.int .i64 0) 1 8 infoI Tryz.underlying22 rfl (by decide) rfl rfl hSb rfl rfl rfl rfl rfl (intsC_one [cu]) (by omega) (by unfold maxLen; have := hlen.out; omega) (by have := hlen.out; omega) ?_
      intro gb gc w7 hSc hat
      have x1 := (hSc.blk 2).cell 1
      have xz := (hSc.blk 2).fz
      simp only [List.getElem?_cons_zero, List.getElem?_cons_succ] at x1
      have HSc := hid (hSc.sub [0, 1, 2, 3])
      clear hSc hSb HS3 s1 s2 x2
      go_wp2_with fail
      refine NoPanic.normal ?_
      go_wp2_with fail
      go_roundw
      case rel =>
        refine ⟨k + 1, .slice (some ⟨gb, 0, none⟩) (L.length + 1) gc, by omega, by omega, by go_num, ?_⟩
        have h4 := HSc.out.set 2 1 (.slice (some ⟨gb, 0, none⟩) (L.length + 1) gc)
        simp only [Kw.red] at h4
        rw [Htk.out, List.length_append, List.length_singleton, show intsC (L ++ [cu]) = intsC L ++ intsC [cu] by simp [intsC]]
        exact h4
      case measure => simp [intOf]; omega
    · have hkk : us.take k = us.take 16 := by
        by_cases h16 : k = 16
        · rw [h16]
        · rw [List.take_of_length_le (show us.length ≤ k by omega), List.take_of_length_le (show us.length ≤ 16 by omega)]
      rw [hkk] at hS
      have hS2 := hS.add (Keeps.refl (fun _ => False) _) (G := fun _ => False) (c := .row TTk 8 (.slice none 0 0) 0 (tasksV [] [])) ⟨⟨rfl, .inl ⟨rfl, rfl⟩⟩, fun b => by simp [Value.ownBlock]⟩ (fun b hb => hb.elim)
      have HS4 := hid (show St (fun _ => False) w [.pt sb TSet [.int .i64 W0, .slice ua us.length uc, .slice la ts.length lc], .pt (sb + 1) TSet zSet, .pt (sb + 1 + 1) TSet [.int .i64 cw, .slice ia ((us.take 16).map clampI).length ic, .slice none 0 0], .row TI' 1 (.slice ia ((us.take 16).map clampI).length ic) (setU us).length (intsC (setU us)), .row TTk 8 (.slice none 0 0) 0 (tasksV [] [])] wr from hS2)
      generalize Value.slice ia ((us.take 16).map clampI).length ic = uv' at *
      have HKB := hid (KeptB.nil v0)
      clear hS hS2 hkk x1 x2
      have hcase : (decide (k < us.length) = false) ∨ (decide (k < us.length) = true ∧ decide ((k : Int) < 16) = false) := by
        by_cases h : k < us.length
        · exact .inr ⟨by simpa using h, by simp; omega⟩
        · exact .inl (by simpa using h)
      rcases hcase with b1 | ⟨b1, b2⟩
      all_goals
        go_wp2_with fail
        go_loopw [7] (fun y wr => ∃ (k : Nat) (fl : List Task) (nds : List Value) (yv : Value), k ≤ ts.length ∧ k ≤ 10 ∧ fl = (ts.take k).filter fitT ∧ y = .int .i64 k ∧ KeptB v0 fl nds ∧ St (fun _ => False) w [.pt sb TSet [.int .i64 W0, .slice ua us.length uc, .slice la ts.length lc], .pt (sb + 1) TSet zSet, .pt (sb + 1 + 1) TSet [.int .i64 cw, uv', yv], .row TI' 1 uv' (setU us).length (intsC (setU us)), .row TTk 8 yv fl.length (tasksV fl nds)] wr) (fun y _ => ts.length - (intOf y).toNat)
        case atStart => exact ⟨0, [], [], _, Nat.zero_le _, Nat.zero_le _, rfl, rfl, HKB.out, HS4.out⟩
        case round =>
          clear HS4 b1
          obtain ⟨k2, fl, nds, yv, hk2, hk10, hfl, rfl, hkb, hS⟩ := hrel
          obtain ⟨ta, tc, rfl, -⟩ := (hS.own 4).shape
          have s2 := (hS.blk 0).cell 2
          have x2 := (hS.blk 2).cell 2
          have xz := (hS.blk 2).fz
          simp only [List.getElem?_cons_zero, List.getElem?_cons_succ] at s2 x2
          have hfl10 : fl.length ≤ 10 := by
            rw [hfl]; refine Nat.le_trans (List.length_filter_le _ _) ?_; rw [List.length_take]; omega
          by_cases hlt2 : k2 < ts.length ∧ k2 < 10
          · obtain ⟨hlt2, h10⟩ := hlt2
            have a1 : decide (k2 < ts.length) = true := by simpa using hlt2
            have a2 : decide ((k2 : Int) < 10) = true := by simp; omega
            have hx := List.getElem?_eq_getElem hlt2
            obtain ⟨b, o, na, nc, rfl, ⟨d0, d1, d2, d3, d4, d5, d6, d7⟩, -, hlv⟩ := HT.out.one hx
            obtain ⟨b', o', na', nc', e1, ⟨-, -, -, g3, -⟩, hnd, -⟩ := HT0.out.one hx
            cases e1
            have hnn : Value.slice na ts[k2].needs.length nc = .slice na' ts[k2].needs.length nc' := by
              have := cellIn HK0.out g3
              rw [d3] at this; exact Option.some.inj this
            cases hnn
            clear g3
            have kk := hS.keeps
            have d0 := cellIn kk d0
            have d1 := cellIn kk d1
            have d2 := cellIn kk d2
            have d3 := cellIn kk d3
            have d4 := cellIn kk d4
            have d5 := cellIn kk d5
            have d6 := cellIn kk d6
            have d7 := cellIn kk d7
            have hnx := setT_take hx
            rw [← hfl] at hnx
            generalize ts[k2] = x at *
            have i0 : (0 : Int) ≤ (k2 : Int) := by omega
            have i1 : (k2 : Int) < (ts.length : Int) := by omega
            have Hnx := hid hnx
            have Hkb := hid hkb
            have Hnd := hid hnd
            have HS5 := hid hS
            have Hlv := hid hlv
            clear hS hx hnx hfl hkb hnd hlv kk
            by_cases hfit : fitT x = true
            · rw [if_pos hfit] at Hnx
              unfold fitT at hfit
              simp only [Bool.and_eq_true, decide_eq_true_eq] at hfit
              have f1 : decide ((x.code.size : Int) ≤ 4096) = true := by simp; omega
              have f2 : decide ((x.needs.length : Int) ≤ 20) = true := by simp; omega
              clear hfit
              go_wp2_with fail
              refine wp_region_mix [true, true, true, true, true, true, true, false, false, false, false] 1 (fun _ => False) (by kernel_rfl) (by decide +kernel) ?_
              simp only [front, back, List.take_succ_cons, List.take_zero, List.drop_succ_cons, List.drop_zero]
              repeat ((first | refine wpFront_load rfl ?_ | refine wpFront_other rfl ?_); (first | go_big_quiet_step (fail) | quiet_step (fail)); refine wpQuiet_nil ?_)
              refine wpFront_nil ?_
              simp only [wpSegs]
              go_wp2_with fail
              refine segQ_normal (((Keeps.refl _ _).alloc _).drew) ?_
              have hSb := (HS5.out.new TTk [.string x.name, .int .i64 x.level, .int .i64 x.frame, .slice na x.needs.length nc, .string x.code, .int .i64 x.period, .int .i64 x.first, .int .i64 x.gap]).drew
              simp only [Kw.red] at hSb
              refine wpList_appS 4 5 _ _ TTks TTk (.agg ztask.toArray) 8 96 infoTk Tryz.underlying23 rfl (by decide) rfl rfl hSb rfl rfl rfl rfl rfl (taskB_one x na nc) (by omega) (by unfold maxLen; omega) (by omega) ?_
              intro gb gc w7 hSc hat
              have x2 := (hSc.blk 2).cell 2
              have xz := (hSc.blk 2).fz
              simp only [List.getElem?_cons_zero, List.getElem?_cons_succ] at x2
              have HSc := hid (hSc.sub [0, 1, 2, 3, 4])
              clear hSc hSb HS5 s2 d0 d1 d2 d3 d4 d5 d6 d7
              go_wp2_with fail
              refine NoPanic.normal ?_
              go_wp2_with fail
              go_roundw
              case rel =>
                refine ⟨k2 + 1, fl ++ [x], nds ++ [.slice na x.needs.length nc], .slice (some ⟨gb, 0, none⟩) (fl.length + 1) gc, by omega, by omega, Hnx.out.symm, by go_num, Hkb.out.add Hnd.out Hlv.out, ?_⟩
                have h4 := HSc.out.set 2 2 (.slice (some ⟨gb, 0, none⟩) (fl.length + 1) gc)
                simp only [Kw.red] at h4
                rw [tasksVB_app x _ Hkb.out.len, show (fl ++ [x]).length = fl.length + 1 by simp]
                exact h4
              case measure => simp [intOf]; omega
            · have hst : (ts.take (k2 + 1)).filter fitT = fl := by rw [Hnx.out, if_neg hfit, List.append_nil]
              have Hst := hid hst
              have hcs : decide ((x.code.size : Int) ≤ 4096) = false ∨ (decide ((x.code.size : Int) ≤ 4096) = true ∧ decide ((x.needs.length : Int) ≤ 20) = false) := by
                unfold fitT at hfit
                simp only [Bool.and_eq_true, decide_eq_true_eq] at hfit
                by_cases h : x.code.size ≤ 4096
                · exact .inr ⟨by simp; omega, by simp; omega⟩
                · exact .inl (by simp; omega)
              clear hst hfit Hnx
              rcases hcs with f1 | ⟨f1, f2⟩
              all_goals
                go_wp2_with fail
                go_roundw
                case rel => exact ⟨k2 + 1, fl, nds, _, by omega, by omega, Hst.out.symm, by go_num, Hkb.out, HS5.out⟩
                case measure => simp [intOf]; omega
          · have hkk : (ts.take k2).filter fitT = setT ts := by
              unfold setT
              by_cases h16 : k2 = 10
              · rw [h16]
              · rw [List.take_of_length_le (show ts.length ≤ k2 by omega), List.take_of_length_le (show ts.length ≤ 10 by omega)]
            have hff : fl = setT ts := hfl.trans hkk
            have x0 := (hS.blk 2).cell 0
            have x1 := (hS.blk 2).cell 1
            simp only [List.getElem?_cons_zero, List.getElem?_cons_succ] at x0 x1
            have HS5 := hid hS
            have Hkb := hid hkb
            have Hff := hid hff
            have hcs : decide (k2 < ts.length) = false ∨ (decide (k2 < ts.length) = true ∧ decide ((k2 : Int) < 10) = false) := by
              by_cases h : k2 < ts.length
              · exact .inr ⟨by simpa using h, by simp; omega⟩
              · exact .inl (by simpa using h)
            have hone : ∀ u ∈ [Value.int .i64 cw, uv', .slice ta fl.length tc], u.oneCell' = true := by
              obtain ⟨q1, q2, q3, -⟩ := (hS.own 3).shape
              intro u hu
              simp only [List.mem_cons, List.not_mem_nil, or_false] at hu
              rcases hu with rfl | rfl | rfl
              · rfl
              · rw [q3]; rfl
              · rfl
            clear hS hkb hfl hkk hff
            rcases hcs with f1 | ⟨f1, f2⟩
            all_goals
              go_wp2_with (refine wpList_storeS 1 TSet _ _ rfl rfl [.int .i64 cw, uv', .slice ta fl.length tc] HS5.out rfl rfl rfl sizeSet rfl hone ?_; intro w9 hS9; have g0 := (hS9.blk 1).cell 0; have g1 := (hS9.blk 1).cell 1; have g2 := (hS9.blk 1).cell 2; simp only [List.getElem?_cons_zero, List.getElem?_cons_succ] at g0 g1 g2)
              refine bodyPost_ret (v := .agg #[.int .i64 cw, uv', .slice ta fl.length tc]) (by simp [results, Tryz.results95, go_sem, g0, g1, g2]) rfl ?_
              refine ⟨uv', _, nds, rfl, ?_, ?_⟩
              · rw [← Hff.out]; exact hS9.sub [3, 4]
              · rw [← Hff.out]; exact Hkb.out
end
theorem cellsB {w : World} {ts : List Task} {nds : List Value} {g cap : Nat} (ho : Own w TTk 8 (.slice (some ⟨g, 0, none⟩) ts.length cap) ts.length (tasksV ts nds)) {k : Nat} {x : Task} {nd : Value} (hx : ts[k]? = some x) (hn : nds[k]? = some nd) : TkAt w g (k * 8) nd x := by
  have ha := tasksV_at hx hn
  have key : ∀ (j : Nat) u, j < 8 → [.string x.name, .int .i64 x.level, .int .i64 x.frame, nd, .string x.code, .int .i64 x.period, .int .i64 x.first, .int .i64 x.gap][j]? = some u → w.cell? ⟨g, k * 8 + j, none⟩ = some u := fun j u hj hu => ho.cells' (g := g) rfl ((ha j hj).trans hu)
  exact ⟨key 0 _ (by omega) rfl, key 1 _ (by omega) rfl, key 2 _ (by omega) rfl, key 3 _ (by omega) rfl, key 4 _ (by omega) rfl, key 5 _ (by omega) rfl, key 6 _ (by omega) rfl, key 7 _ (by omega) rfl⟩
section
variable {W w : World} {F : Nat → Prop}
set_option maxRecDepth 100000 in
set_option maxHeartbeats 8000000 in
theorem make_any (hG : Glob W) (hg : (glC W).holds F w) {W0 : Int} {uv tv : Value} {us : List Int} {ts : List Task} (hu : SlIm w uv us) (ht : SlTk w tv ts) (hnm : ∀ x ∈ ts, x.name.size ≤ 9223372036854775807) :
    Calls Tryz.prog 25 #[.agg #[.int .i64 W0, uv, tv], .int .i64 10] w fun e w' => ∃ p q, e = .returned (.tuple #[.pointer (some ⟨p, 0, none⟩), .pointer (some ⟨q, 0, none⟩), .bool true]) ∧ St F w [glC W, tabC p (setM W0 us ts), refC q (setM W0 us ts)] w' := by
  have hk0 := (Keeps.refl (fun _ => False) w).alloc (.cells #[.int .i64 W0, uv, tv] TSet)
  have HB := hid (bounds_any (W0 := W0) (hu.new hk0) ht hk0)
  have hS := (St.of (Sts.one hg)).new TSet [.int .i64 W0, uv, tv]
  simp only [Kw.red] at hS
  have HS := hid hS
  have hl10 : (setT ts).length ≤ 10 := by
    unfold setT; refine Nat.le_trans (List.length_filter_le _ _) ?_; rw [List.length_take]; omega
  have hn' : ∀ x ∈ setT ts, x.name.size ≤ 9223372036854775807 := fun x hx => hnm x (List.mem_of_mem_take (List.mem_filter.1 hx).1)
  have hul : (setU us).length ≤ 16 := by unfold setU; rw [List.length_map, List.length_take]; omega
  have hbg := set_begins W0 us
  obtain ⟨ua, uc, rfl, -⟩ := id hu
  obtain ⟨la, lc, rfl, -⟩ := id ht
  have HT := hid ht
  have Hg := hid hg
  unfold setM
  generalize setT ts = l' at *
  generalize setU us = Un at *
  generalize clampW W0 = cw at *
  obtain ⟨M, hM⟩ : ∃ M, addsM l' ⟨cw, Un, []⟩ = M := ⟨_, rfl⟩
  rw [hM]
  have HM := hid hM
  have HN2 := hid hn'
  have HB0 := hid hbg
  clear hu ht hg hS hk0 hnm hn' hM hbg
  go_enter Tryz.func25, Tryz.ntmps25
  go_wp2_with fail
  refine HB.out.mono ?_; rintro e w1 ⟨uv', tv', nds, rfl, hS1, hkb⟩
  have hS2 := HS.out.adds hS1
  simp only [Kw.red] at hS2
  obtain ⟨xa, xc, rfl, -⟩ := (hS2.own 2).shape
  obtain ⟨ya, yc, rfl, -⟩ := (hS2.own 3).shape
  have HS2 := hid hS2
  have Hkb := hid hkb
  clear hS1 hS2 hkb HB HS
  have hone : ∀ u ∈ [Value.int .i64 cw, .slice xa Un.length xc, .slice ya l'.length yc], u.oneCell' = true := by
    intro u hu
    simp only [List.mem_cons, List.not_mem_nil, or_false] at hu
    rcases hu with rfl | rfl | rfl <;> rfl
  go_wp2_with (refine wpList_storeS 1 TSet _ _ rfl rfl [.int .i64 cw, .slice xa Un.length xc, .slice ya l'.length yc] HS2.out rfl rfl rfl sizeSet rfl hone ?_; intro w3 hS3; have c0 := (hS3.blk 1).cell 0; have c1 := (hS3.blk 1).cell 1; have c2 := (hS3.blk 1).cell 2; simp only [List.getElem?_cons_zero, List.getElem?_cons_succ] at c0 c1 c2)
  have hnw := new_any (SlIn.own (hS3.own 2) (by omega)) cw
  have HN := hid hnw
  have HS3 := hid hS3
  clear hS3 hnw HS2
  refine HN.out.mono ?_; rintro e w4 hor
  obtain ⟨p, rfl, hS4⟩ := new_ok HB0.out HS3.out hor
  simp only [Kw.red] at hS4
  have c0 := (hS4.blk 1).cell 0
  have c1 := (hS4.blk 1).cell 1
  have c2 := (hS4.blk 1).cell 2
  simp only [List.getElem?_cons_zero, List.getElem?_cons_succ] at c0 c1 c2
  have HS4 := hid hS4
  clear hS4 hor HN HS3
  go_wp2_with fail
  obtain ⟨y0, hy0⟩ := tab_at 4 HS4.out
  have hok0 := hy0.tok.ok
  have hS5 := HS4.out.new TRf [.int .i64 cw, .slice xa Un.length xc, .slice none 0 0]
  simp only [Kw.red] at hS5
  have hS6 := hS5.add (Keeps.refl (fun _ => False) _) (G := fun _ => False) (c := .row TTk 8 (.slice none 0 0) 0 (tasksV [] [])) ⟨⟨rfl, .inl ⟨rfl, rfl⟩⟩, fun b => by simp [Value.ownBlock]⟩ (fun b hb => hb.elim)
  have hS7 := hS6.add (Keeps.refl (fun _ => False) _) (G := fun _ => False) (c := .stars (needsCh [] [])) (fun b => id) (fun b hb => hb.elim)
  have hS8 := hS7.add (Keeps.refl (fun _ => False) _) (G := fun _ => False) (c := .pr (RefOk ⟨cw, Un, []⟩ ⟨.slice xa Un.length xc, .slice none 0 0, []⟩)) ⟨⟨hok0, rfl⟩, fun b => id⟩ (fun b hb => hb.elim)
  simp only [Kw.red] at hS8
  have hS9 := (hS8.fold [5, 2, 6, 7, 8] (refC w4.heap.size ⟨cw, Un, []⟩) (fun F h => ⟨⟨.slice xa Un.length xc, .slice none 0 0, []⟩, h⟩)).sub [0, 4, 5, 1, 3]
  simp only [Kw.red] at hS9
  generalize w.heap.size = sb at *
  generalize w4.heap.size = q at *
  obtain ⟨m0, hm0⟩ : ∃ m0 : TM, m0 = ⟨cw, Un, []⟩ := ⟨_, rfl⟩
  rw [← hm0] at hS9 HM
  have HS9 := hid hS9
  clear hS5 hS6 hS7 hS8 hS9 hm0 hok0 hy0 HS4 HB0 c0 c1 c2
  go_loopw [10] (fun x wr => ∃ (k : Nat), k ≤ l'.length ∧ x = .int .i64 k ∧ St F w [glC W, tabC p (addsM (l'.take k) m0), refC q (addsM (l'.take k) m0), .pt sb TSet [.int .i64 cw, .slice xa Un.length xc, .slice ya l'.length yc], .row TTk 8 (.slice ya l'.length yc) l'.length (tasksV l' nds)] wr) (fun x _ => l'.length - (intOf x).toNat)
  case atStart => exact ⟨0, Nat.zero_le _, rfl, HS9.out⟩
  case round =>
    clear HS9
    obtain ⟨k2, hk2, rfl, hS⟩ := hrel
    have c2 := (hS.blk 3).cell 2
    simp only [List.getElem?_cons_zero, List.getElem?_cons_succ] at c2
    by_cases hlt2 : k2 < l'.length
    · have hx := List.getElem?_eq_getElem hlt2
      have hkp := (glob_keeps Hg.out hS).1
      obtain ⟨na, nc, hn1, hn2, hbl, hbf, hbr⟩ := Hkb.out.each k2 _ hx
      obtain ⟨gt, ct, e1, -⟩ := (hS.own 4).form (by omega)
      cases e1
      obtain ⟨d0, d1, d2, d3, d4, d5, d6, d7⟩ := cellsB (hS.own 4) hx hn1
      have hnd := hn2.new hkp
      have hnmx := HN2.out _ (List.getElem_mem hlt2)
      have hstep := adds_take hx m0
      generalize l'[k2] = x at *
      generalize addsM (l'.take k2) m0 = m at *
      have a1 : decide (k2 < l'.length) = true := by simpa using hlt2
      have i0 : (0 : Int) ≤ (k2 : Int) := by omega
      have i1 : (k2 : Int) < (l'.length : Int) := by omega
      obtain ⟨⟨n3, e3, m3⟩, hadd⟩ : ∃ r, m.add x = r := ⟨_, rfl⟩
      have hst2 : (m.add x).2.2 = m3 := by rw [hadd]
      rw [hst2] at hstep
      have HSr := hid hS
      have Hx := hid hx
      have Hn1 := hid hn1
      have Hn2 := hid hn2
      have Hstep := hid hstep
      have HA := hid (add_st hG HSr.out x hnd hbf hadd)
      have HAdd := hid hadd
      unfold taskV at HA
      clear hS hx hkp hn1 hn2 hnd hstep hadd hst2
      go_wp2_with fail
      refine HA.out.mono ?_; rintro r w5 ⟨rfl, hS5⟩
      have hkp3 := (glob_keeps Hg.out hS5).1
      have c2 := (hS5.blk 3).cell 2
      simp only [List.getElem?_cons_zero, List.getElem?_cons_succ] at c2
      obtain ⟨d0, d1, d2, d3, d4, d5, d6, d7⟩ := cellsB (hS5.own 4) Hx.out Hn1.out
      have HB2 := hid (addR_st hS5 x (Hn2.out.new hkp3) hnmx hbf HAdd.out)
      unfold taskV at HB2
      clear HSr HA hS5 hkp3
      have q1 : (n3 != n3) = false := by simp
      have q2 : (e3 != e3) = false := by simp
      go_wp2_with fail
      refine HB2.out.mono ?_; rintro r w6 ⟨rfl, hS6⟩
      have HS6 := hid hS6
      clear hS6 HB2 d0 d1 d2 d3 d4 d5 d6 d7 c2
      go_wp2_with fail
      go_roundw
      case rel => exact ⟨k2 + 1, by omega, by go_num, by rw [Hstep.out]; exact HS6.out⟩
      case measure => simp [intOf]; omega
    · have a1 : decide (k2 < l'.length) = false := by simpa using hlt2
      rw [List.take_of_length_le (show l'.length ≤ k2 by omega), HM.out] at hS
      have HS := hid hS
      clear hS
      go_wp2_with fail
      go_ret3
      exact ⟨p, q, rfl, HS.out.sub [0, 1, 2]⟩
end
end Go.Proofs.YtnkjjhenfhnajaaGreatDoor
