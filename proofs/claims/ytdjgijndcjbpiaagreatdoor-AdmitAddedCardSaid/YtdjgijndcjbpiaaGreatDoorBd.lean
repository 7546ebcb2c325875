/-
  admit.lower, walked for any closure; Term, Longest, Greatest.
-/
import Derived.Test.YtdjgijndcjbpiaaGreatDoorBc
namespace Go.Proofs.YtdjgijndcjbpiaaGreatDoor
open Go.RowKit Go.Kw Go.Kreg Go.Tm Go.Ad
set_option linter.unusedSimpArgs false
set_option linter.unusedVariables false

theorem lowsTo_snoc {lev : Int} {ts : List Task} {k : Nat} {t : Task} (ht : ts[k]? = some t) : lowsTo lev ts (k + 1) = if t.level < lev then lowsTo lev ts k ++ (secsOf t).map (Prod.mk k) else lowsTo lev ts k := by
  conv => lhs; unfold lowsTo lowOne
  rw [ht]
  simp only
  split
  · rfl
  · rw [List.append_nil]
theorem map_take_snoc {q : List Sec} {i k : Nat} {s : Sec} (h : q[i]? = some s) : (q.take (i + 1)).map (Prod.mk k) = (q.take i).map (Prod.mk k) ++ [(k, s)] := by
  obtain ⟨hi, rfl⟩ := List.getElem?_eq_some_iff.1 h
  rw [List.take_succ_eq_append_getElem hi, List.map_append]; rfl
theorem sections_any {w : World} {p : Nat} {m : TM} {x : TabX} (h : TabAt w p m x) (id : Int) : Calls Tryz.prog 56 #[.pointer (some ⟨p, 0, none⟩), .int .i64 id] w fun e w' => ∃ v, e = .returned v ∧ St (fun _ => False) w [.vec TSe 5 v (secsI m.ts id).length (secsC (secsI m.ts id))] w' := by
  rcases id_cases m.ts id with ho | ⟨i, t, rfl, ht⟩
  · rw [secs_no ho]
    refine (sections_out h id ho).mono ?_
    rintro e w' ⟨rfl, k⟩
    refine ⟨_, rfl, ?_⟩
    exact ((St.start w).step k).add (Keeps.refl (fun _ => False) _) (G := fun _ => False) (c := .vec TSe 5 (.slice none 0 0) 0 (secsC [])) ⟨⟨rfl, .inl ⟨rfl, rfl⟩⟩, fun b => by simp [Value.ownBlock]⟩ (fun _ h => h.elim)
  · rw [secs_eq ht]
    exact sections_in h ht
theorem enter_term (args : Array Value) (w : World) : (callFunc 140 args).run Tryz.prog w = .ok (.enter 140 args) w := by
  have h1 : (Tryz.f140.name == "runtime.NumGoroutine") = false := by kernel_rfl
  have h2 : Tryz.f140.body.isNone = false := by kernel_rfl
  simp only [beq_eq_false_iff_ne, ne_eq] at h1
  have h3 : ¬ Tryz.f140.body = none := fun e => by rw [e] at h2; simp at h2
  simp [callFunc, go_sem, Tryz.func140, h1, h3]
theorem enter_long (args : Array Value) (w : World) : (callFunc 141 args).run Tryz.prog w = .ok (.enter 141 args) w := by
  have h1 : (Tryz.f141.name == "runtime.NumGoroutine") = false := by kernel_rfl
  have h2 : Tryz.f141.body.isNone = false := by kernel_rfl
  simp only [beq_eq_false_iff_ne, ne_eq] at h1
  have h3 : ¬ Tryz.f141.body = none := fun e => by rw [e] at h2; simp at h2
  simp [callFunc, go_sem, Tryz.func141, h1, h3]
set_option maxRecDepth 100000 in
set_option maxHeartbeats 8000000 in
theorem lower1_any {w0 w : World} {p : Nat} {m : TM} {x : TabX} {a1 : Value} (T : TabAt w0 p m x) (id : Int) (c : List (Nat × Sec) → Ch) (K : Nat) (hcf : ∀ args w, (callFunc K args).run Tryz.prog w = .ok (.enter K args) w)
    (hstep : ∀ lev, levAt m.ts id = some lev → ∀ (l : List (Nat × Sec)) (j : Nat) (t : Task) (s : Sec) (w : World) (F : Nat → Prop), m.ts[j]? = some t → s ∈ secsOf t → (c l).holds F w → TabAt w p m x → Calls Tryz.prog K #[.int .i64 j, secV s, .int .i64 lev, a1] w fun e w' => e = .returned (.tuple #[]) ∧ St F w [c (l ++ [(j, s)])] w')
    (HS : St (fun _ => False) w0 [c []] w) : Calls Tryz.prog 137 #[.pointer (some ⟨p, 0, none⟩), .int .i64 id, .func (.func K) #[] #[a1]] w fun e w' => e = .returned (.tuple #[]) ∧ St (fun _ => False) w0 [c (lowsId m.ts id)] w' := by
  have T1 := hid (T.keeps HS.keeps)
  have HT := hid T
  have HS0 := hid HS
  have hfew := T.few
  unfold lowsId
  rcases id_cases m.ts id with ho | ⟨i, t, rfl, ht⟩
  · have e : levAt m.ts id = none := by
      have := out_none ho
      unfold taskI at this
      unfold levAt
      split
      · rfl
      · rename_i h0
        rw [if_neg h0] at this
        rw [this]; rfl
    rw [e]
    have HG := hid (get_out T1.out id ho)
    clear hstep e ho T HS
    go_enter Tryz.func137, Tryz.ntmps137
    go_wp2_with fail
    refine HG.out.mono ?_; rintro e w2 ⟨rfl, k2⟩
    have HS2 := hid ((HS0.out.step k2).new TTk ztask)
    clear k2 HG
    go_wp2_with fail
    refine bodyPost_ret (v := .tuple #[]) (by simp [results, Tryz.results137]) rfl ?_
    refine ⟨rfl, ?_⟩
    exact HS2.out.sub [0]
  · have e : levAt m.ts i = some t.level := by
      unfold levAt
      rw [if_neg (by omega), Int.toNat_natCast, ht]; rfl
    rw [e]
    have hst := hstep t.level e
    have hlevs := fun (t : Task) (h : t ∈ m.ts) => T.tok.ok.fit t h
    have HG := hid (get_in T1.out ht)
    have Hst := hid hst
    have Hfit := hid hlevs
    simp only
    unfold lows
    unfold taskV at HG
    generalize t.level = lev at *
    clear hstep e hst ht hlevs T HS
    go_enter Tryz.func137, Tryz.ntmps137
    go_wp2_with fail
    refine HG.out.mono ?_; rintro e w2 ⟨gn, rfl, hS⟩
    obtain ⟨xl, hxl⟩ : ∃ xl : List Value, xl = [.string t.name, .int .i64 lev, .int .i64 t.frame, .slice (some ⟨gn, 0, none⟩) t.needs.length t.needs.length, .string t.code, .int .i64 t.period, .int .i64 t.first, .int .i64 t.gap] := ⟨_, rfl⟩
    have hS2 := (HS0.out.step hS.keeps).new TTk xl
    simp only [Kw.red] at hS2
    have hl1 : xl[1]? = some (.int .i64 lev) := by rw [hxl]; rfl
    have HL1 := hid hl1
    have hln := tlen_any (HT.out.keeps hS2.keeps)
    have HS2 := hid hS2
    have HLn := hid hln
    rw [hxl] at HLn
    clear hS hS2 HG HS0 hl1 hln
    go_wp2_with fail
    refine HLn.out.mono ?_; rintro e w3 ⟨rfl, rfl⟩
    rw [← hxl]
    clear hxl HLn
    generalize w2.heap.size = xb at *
    generalize w2.alloc (.cells xl.toArray TTk) = w3 at *
    go_wp2_with fail
    go_loopw [25] (fun y wr => ∃ k : Nat, k ≤ m.ts.length ∧ y = .int .i64 k ∧ St (fun _ => False) w0 [c (lowsTo lev m.ts k), .pt xb TTk xl] wr) (fun y _ => m.ts.length - (intOf y).toNat)
    case atStart => exact ⟨0, Nat.zero_le _, rfl, HS2.out⟩
    case round =>
      clear HS2
      obtain ⟨k, hk, rfl, hS⟩ := hrel
      by_cases hlt : k < m.ts.length
      · have a1 : decide (k < m.ts.length) = true := by simpa using hlt
        have hy := List.getElem?_eq_getElem hlt
        have hfy := Hfit.out _ (List.getElem_mem hlt)
        have hcons := lowsTo_snoc (lev := lev) hy
        have TK := hid (HT.out.keeps hS.keeps)
        have HG2 := hid (get_in TK.out hy)
        generalize m.ts[k] = y at *
        have HSr := hid hS
        have Hcons := hid hcons
        have Hy := hid hy
        unfold taskV at HG2
        clear hS hcons hy TK
        go_wp2_with fail
        refine HG2.out.mono ?_; rintro e w4 ⟨gy, rfl, hS4⟩
        have hS5 := (HSr.out.step hS4.keeps).new TTk [.string y.name, .int .i64 y.level, .int .i64 y.frame, .slice (some ⟨gy, 0, none⟩) y.needs.length y.needs.length, .string y.code, .int .i64 y.period, .int .i64 y.first, .int .i64 y.gap]
        simp only [Kw.red] at hS5
        have d1 := (hS5.blk 1).at HL1.out
        have HS5 := hid (hS5.sub [0, 1])
        clear hS4 hS5 HG2 HSr
        by_cases hge : lev ≤ y.level
        · have b1 : decide (lev ≤ y.level) = true := by simpa using hge
          rw [if_neg (by omega)] at Hcons
          clear hge
          go_wp2_with fail
          go_roundw
          case rel => exact ⟨k + 1, by omega, by go_num, by rw [Hcons.out]; exact HS5.out⟩
          case measure => simp [intOf]; omega
        · have b1 : decide (lev ≤ y.level) = false := by simpa using hge
          rw [if_pos (by omega)] at Hcons
          have HSc := hid (sections_in (HT.out.keeps HS5.out.keeps) Hy.out)
          have hql : (secsOf y).length ≤ 4096 := Nat.le_trans (secs_ok hfy).few (Cm.prog_le _)
          obtain ⟨q, hq⟩ : ∃ q, secsOf y = q := ⟨_, rfl⟩
          have hmem : ∀ s ∈ q, s ∈ secsOf y := by rw [hq]; exact fun _ h => h
          have Hmem := hid hmem
          rw [hq] at Hcons HSc hql
          clear hge hfy hmem hq
          go_wp2_with fail
          refine HSc.out.mono ?_; rintro e w6 ⟨sv, rfl, hS⟩
          obtain ⟨sa, sc, rfl, hsc⟩ := (hS.vec 0).shape
          have hS6 := HS5.out.adds hS
          simp only [Kw.red] at hS6
          have HS6 := hid hS6
          clear hS hS6 HS5 HSc d1
          go_wp2_with fail
          go_loopw [43] (fun z wx => ∃ i : Nat, i ≤ q.length ∧ z = .int .i64 i ∧ St (fun _ => False) w0 [c (lowsTo lev m.ts k ++ (q.take i).map (Prod.mk k)), .pt xb TTk xl, .vec TSe 5 (.slice sa q.length sc) q.length (secsC q)] wx) (fun z _ => q.length - (intOf z).toNat)
          case atStart => exact ⟨0, Nat.zero_le _, rfl, by have h := HS6.out; simpa using h⟩
          case round =>
            clear HS6
            obtain ⟨i, hi, rfl, hS⟩ := hrel
            by_cases hil : i < q.length
            · have b2 : decide (i < q.length) = true := by simpa using hil
              have hs := List.getElem?_eq_getElem hil
              have hsm := Hmem.out _ (List.getElem_mem hil)
              obtain ⟨gs, cs, e1, -, -⟩ := (hS.vec 2).form (by omega)
              cases e1
              obtain ⟨e0, e1, e2, e3, e4⟩ := secsC_at hs
              have s0 := (hS.vec 2).cells' (g := gs) rfl e0
              have s1 := (hS.vec 2).cells' (g := gs) rfl e1
              have s2 := (hS.vec 2).cells' (g := gs) rfl e2
              have s3 := (hS.vec 2).cells' (g := gs) rfl e3
              have s4 := (hS.vec 2).cells' (g := gs) rfl e4
              have htk := map_take_snoc (k := k) hs
              generalize q[i] = s at *
              have i0 : (0 : Int) ≤ (i : Int) := by omega
              have i1 : (i : Int) < (q.length : Int) := by omega
              have d1 := (hS.blk 1).at HL1.out
              have hS7 := hS.new TSe [.int .i64 s.res, .int .i64 s.units, .int .i64 s.held, .int .i64 s.frm, .int .i64 s.upto]
              simp only [Kw.red] at hS7
              obtain ⟨F1, h1, _, _, bk⟩ := hS7.sel [0]
              have HC := hid (Hst.out _ k y s _ F1 Hy.out hsm (Sts.of_one h1) (HT.out.keeps hS7.keeps))
              have Htk := hid htk
              unfold secV at HC
              clear hS hS7 h1 htk hs e0 e1 e2 e3 e4 hsm
              go_wp2_with fail
              refine HC.out.mono ?_; rintro e w7 ⟨rfl, hS8⟩
              have hS8 := bk hS8
              simp only [Kw.red] at hS8
              have HS8 := hid hS8
              clear hS8 HC bk s0 s1 s2 s3 s4 d1
              go_wp2_with fail
              go_roundw
              case rel => exact ⟨i + 1, by omega, by go_num, by rw [Htk.out, ← List.append_assoc]; exact HS8.out.sub [0, 1, 2]⟩
              case measure => simp [intOf]; omega
            · have b2 : decide (i < q.length) = false := by simpa using hil
              rw [List.take_of_length_le (show q.length ≤ i by omega)] at hS
              have HS8 := hid hS
              clear hS
              go_wp2_with fail
              go_roundw
              case rel => exact ⟨k + 1, by omega, by go_num, by rw [Hcons.out]; exact HS8.out.sub [0, 1]⟩
              case measure => simp [intOf]; omega
      · have a1 : decide (k < m.ts.length) = false := by simpa using hlt
        have hkk : k = m.ts.length := by omega
        subst hkk
        have HS8 := hid hS
        clear hS
        go_wp2_with fail
        go_end0
        exact ⟨rfl, HS8.out.sub [0]⟩
set_option maxRecDepth 100000 in
set_option maxHeartbeats 8000000 in
theorem lower2_any {w0 w : World} {p : Nat} {m : TM} {x : TabX} {a1 a2 : Value} (T : TabAt w0 p m x) (id : Int) (c : List (Nat × Sec) → Ch) (K : Nat) (hcf : ∀ args w, (callFunc K args).run Tryz.prog w = .ok (.enter K args) w)
    (hstep : ∀ lev, levAt m.ts id = some lev → ∀ (l : List (Nat × Sec)) (j : Nat) (t : Task) (s : Sec) (w : World) (F : Nat → Prop), m.ts[j]? = some t → s ∈ secsOf t → (c l).holds F w → TabAt w p m x → Calls Tryz.prog K #[.int .i64 j, secV s, .int .i64 lev, a1, a2] w fun e w' => e = .returned (.tuple #[]) ∧ St F w [c (l ++ [(j, s)])] w')
    (HS : St (fun _ => False) w0 [c []] w) : Calls Tryz.prog 137 #[.pointer (some ⟨p, 0, none⟩), .int .i64 id, .func (.func K) #[] #[a1, a2]] w fun e w' => e = .returned (.tuple #[]) ∧ St (fun _ => False) w0 [c (lowsId m.ts id)] w' := by
  have T1 := hid (T.keeps HS.keeps)
  have HT := hid T
  have HS0 := hid HS
  have hfew := T.few
  unfold lowsId
  rcases id_cases m.ts id with ho | ⟨i, t, rfl, ht⟩
  · have e : levAt m.ts id = none := by
      have := out_none ho
      unfold taskI at this
      unfold levAt
      split
      · rfl
      · rename_i h0
        rw [if_neg h0] at this
        rw [this]; rfl
    rw [e]
    have HG := hid (get_out T1.out id ho)
    clear hstep e ho T HS
    go_enter Tryz.func137, Tryz.ntmps137
    go_wp2_with fail
    refine HG.out.mono ?_; rintro e w2 ⟨rfl, k2⟩
    have HS2 := hid ((HS0.out.step k2).new TTk ztask)
    clear k2 HG
    go_wp2_with fail
    refine bodyPost_ret (v := .tuple #[]) (by simp [results, Tryz.results137]) rfl ?_
    refine ⟨rfl, ?_⟩
    exact HS2.out.sub [0]
  · have e : levAt m.ts i = some t.level := by
      unfold levAt
      rw [if_neg (by omega), Int.toNat_natCast, ht]; rfl
    rw [e]
    have hst := hstep t.level e
    have hlevs := fun (t : Task) (h : t ∈ m.ts) => T.tok.ok.fit t h
    have HG := hid (get_in T1.out ht)
    have Hst := hid hst
    have Hfit := hid hlevs
    simp only
    unfold lows
    unfold taskV at HG
    generalize t.level = lev at *
    clear hstep e hst ht hlevs T HS
    go_enter Tryz.func137, Tryz.ntmps137
    go_wp2_with fail
    refine HG.out.mono ?_; rintro e w2 ⟨gn, rfl, hS⟩
    obtain ⟨xl, hxl⟩ : ∃ xl : List Value, xl = [.string t.name, .int .i64 lev, .int .i64 t.frame, .slice (some ⟨gn, 0, none⟩) t.needs.length t.needs.length, .string t.code, .int .i64 t.period, .int .i64 t.first, .int .i64 t.gap] := ⟨_, rfl⟩
    have hS2 := (HS0.out.step hS.keeps).new TTk xl
    simp only [Kw.red] at hS2
    have hl1 : xl[1]? = some (.int .i64 lev) := by rw [hxl]; rfl
    have HL1 := hid hl1
    have hln := tlen_any (HT.out.keeps hS2.keeps)
    have HS2 := hid hS2
    have HLn := hid hln
    rw [hxl] at HLn
    clear hS hS2 HG HS0 hl1 hln
    go_wp2_with fail
    refine HLn.out.mono ?_; rintro e w3 ⟨rfl, rfl⟩
    rw [← hxl]
    clear hxl HLn
    generalize w2.heap.size = xb at *
    generalize w2.alloc (.cells xl.toArray TTk) = w3 at *
    go_wp2_with fail
    go_loopw [25] (fun y wr => ∃ k : Nat, k ≤ m.ts.length ∧ y = .int .i64 k ∧ St (fun _ => False) w0 [c (lowsTo lev m.ts k), .pt xb TTk xl] wr) (fun y _ => m.ts.length - (intOf y).toNat)
    case atStart => exact ⟨0, Nat.zero_le _, rfl, HS2.out⟩
    case round =>
      clear HS2
      obtain ⟨k, hk, rfl, hS⟩ := hrel
      by_cases hlt : k < m.ts.length
      · have a1 : decide (k < m.ts.length) = true := by simpa using hlt
        have hy := List.getElem?_eq_getElem hlt
        have hfy := Hfit.out _ (List.getElem_mem hlt)
        have hcons := lowsTo_snoc (lev := lev) hy
        have TK := hid (HT.out.keeps hS.keeps)
        have HG2 := hid (get_in TK.out hy)
        generalize m.ts[k] = y at *
        have HSr := hid hS
        have Hcons := hid hcons
        have Hy := hid hy
        unfold taskV at HG2
        clear hS hcons hy TK
        go_wp2_with fail
        refine HG2.out.mono ?_; rintro e w4 ⟨gy, rfl, hS4⟩
        have hS5 := (HSr.out.step hS4.keeps).new TTk [.string y.name, .int .i64 y.level, .int .i64 y.frame, .slice (some ⟨gy, 0, none⟩) y.needs.length y.needs.length, .string y.code, .int .i64 y.period, .int .i64 y.first, .int .i64 y.gap]
        simp only [Kw.red] at hS5
        have d1 := (hS5.blk 1).at HL1.out
        have HS5 := hid (hS5.sub [0, 1])
        clear hS4 hS5 HG2 HSr
        by_cases hge : lev ≤ y.level
        · have b1 : decide (lev ≤ y.level) = true := by simpa using hge
          rw [if_neg (by omega)] at Hcons
          clear hge
          go_wp2_with fail
          go_roundw
          case rel => exact ⟨k + 1, by omega, by go_num, by rw [Hcons.out]; exact HS5.out⟩
          case measure => simp [intOf]; omega
        · have b1 : decide (lev ≤ y.level) = false := by simpa using hge
          rw [if_pos (by omega)] at Hcons
          have HSc := hid (sections_in (HT.out.keeps HS5.out.keeps) Hy.out)
          have hql : (secsOf y).length ≤ 4096 := Nat.le_trans (secs_ok hfy).few (Cm.prog_le _)
          obtain ⟨q, hq⟩ : ∃ q, secsOf y = q := ⟨_, rfl⟩
          have hmem : ∀ s ∈ q, s ∈ secsOf y := by rw [hq]; exact fun _ h => h
          have Hmem := hid hmem
          rw [hq] at Hcons HSc hql
          clear hge hfy hmem hq
          go_wp2_with fail
          refine HSc.out.mono ?_; rintro e w6 ⟨sv, rfl, hS⟩
          obtain ⟨sa, sc, rfl, hsc⟩ := (hS.vec 0).shape
          have hS6 := HS5.out.adds hS
          simp only [Kw.red] at hS6
          have HS6 := hid hS6
          clear hS hS6 HS5 HSc d1
          go_wp2_with fail
          go_loopw [43] (fun z wx => ∃ i : Nat, i ≤ q.length ∧ z = .int .i64 i ∧ St (fun _ => False) w0 [c (lowsTo lev m.ts k ++ (q.take i).map (Prod.mk k)), .pt xb TTk xl, .vec TSe 5 (.slice sa q.length sc) q.length (secsC q)] wx) (fun z _ => q.length - (intOf z).toNat)
          case atStart => exact ⟨0, Nat.zero_le _, rfl, by have h := HS6.out; simpa using h⟩
          case round =>
            clear HS6
            obtain ⟨i, hi, rfl, hS⟩ := hrel
            by_cases hil : i < q.length
            · have b2 : decide (i < q.length) = true := by simpa using hil
              have hs := List.getElem?_eq_getElem hil
              have hsm := Hmem.out _ (List.getElem_mem hil)
              obtain ⟨gs, cs, e1, -, -⟩ := (hS.vec 2).form (by omega)
              cases e1
              obtain ⟨e0, e1, e2, e3, e4⟩ := secsC_at hs
              have s0 := (hS.vec 2).cells' (g := gs) rfl e0
              have s1 := (hS.vec 2).cells' (g := gs) rfl e1
              have s2 := (hS.vec 2).cells' (g := gs) rfl e2
              have s3 := (hS.vec 2).cells' (g := gs) rfl e3
              have s4 := (hS.vec 2).cells' (g := gs) rfl e4
              have htk := map_take_snoc (k := k) hs
              generalize q[i] = s at *
              have i0 : (0 : Int) ≤ (i : Int) := by omega
              have i1 : (i : Int) < (q.length : Int) := by omega
              have d1 := (hS.blk 1).at HL1.out
              have hS7 := hS.new TSe [.int .i64 s.res, .int .i64 s.units, .int .i64 s.held, .int .i64 s.frm, .int .i64 s.upto]
              simp only [Kw.red] at hS7
              obtain ⟨F1, h1, _, _, bk⟩ := hS7.sel [0]
              have HC := hid (Hst.out _ k y s _ F1 Hy.out hsm (Sts.of_one h1) (HT.out.keeps hS7.keeps))
              have Htk := hid htk
              unfold secV at HC
              clear hS hS7 h1 htk hs e0 e1 e2 e3 e4 hsm
              go_wp2_with fail
              refine HC.out.mono ?_; rintro e w7 ⟨rfl, hS8⟩
              have hS8 := bk hS8
              simp only [Kw.red] at hS8
              have HS8 := hid hS8
              clear hS8 HC bk s0 s1 s2 s3 s4 d1
              go_wp2_with fail
              go_roundw
              case rel => exact ⟨i + 1, by omega, by go_num, by rw [Htk.out, ← List.append_assoc]; exact HS8.out.sub [0, 1, 2]⟩
              case measure => simp [intOf]; omega
            · have b2 : decide (i < q.length) = false := by simpa using hil
              rw [List.take_of_length_le (show q.length ≤ i by omega)] at hS
              have HS8 := hid hS
              clear hS
              go_wp2_with fail
              go_roundw
              case rel => exact ⟨k + 1, by omega, by go_num, by rw [Hcons.out]; exact HS8.out.sub [0, 1]⟩
              case measure => simp [intOf]; omega
      · have a1 : decide (k < m.ts.length) = false := by simpa using hlt
        have hkk : k = m.ts.length := by omega
        subst hkk
        have HS8 := hid hS
        clear hS
        go_wp2_with fail
        go_end0
        exact ⟨rfl, HS8.out.sub [0]⟩
set_option maxRecDepth 100000 in
set_option maxHeartbeats 8000000 in
theorem lower4_any {w0 w : World} {p : Nat} {m : TM} {x : TabX} {a1 a2 a3 a4 : Value} (T : TabAt w0 p m x) (id : Int) (c : List (Nat × Sec) → Ch) (K : Nat) (hcf : ∀ args w, (callFunc K args).run Tryz.prog w = .ok (.enter K args) w)
    (hstep : ∀ lev, levAt m.ts id = some lev → ∀ (l : List (Nat × Sec)) (j : Nat) (t : Task) (s : Sec) (w : World) (F : Nat → Prop), m.ts[j]? = some t → s ∈ secsOf t → (c l).holds F w → TabAt w p m x → Calls Tryz.prog K #[.int .i64 j, secV s, .int .i64 lev, a1, a2, a3, a4] w fun e w' => e = .returned (.tuple #[]) ∧ St F w [c (l ++ [(j, s)])] w')
    (HS : St (fun _ => False) w0 [c []] w) : Calls Tryz.prog 137 #[.pointer (some ⟨p, 0, none⟩), .int .i64 id, .func (.func K) #[] #[a1, a2, a3, a4]] w fun e w' => e = .returned (.tuple #[]) ∧ St (fun _ => False) w0 [c (lowsId m.ts id)] w' := by
  have T1 := hid (T.keeps HS.keeps)
  have HT := hid T
  have HS0 := hid HS
  have hfew := T.few
  unfold lowsId
  rcases id_cases m.ts id with ho | ⟨i, t, rfl, ht⟩
  · have e : levAt m.ts id = none := by
      have := out_none ho
      unfold taskI at this
      unfold levAt
      split
      · rfl
      · rename_i h0
        rw [if_neg h0] at this
        rw [this]; rfl
    rw [e]
    have HG := hid (get_out T1.out id ho)
    clear hstep e ho T HS
    go_enter Tryz.func137, Tryz.ntmps137
    go_wp2_with fail
    refine HG.out.mono ?_; rintro e w2 ⟨rfl, k2⟩
    have HS2 := hid ((HS0.out.step k2).new TTk ztask)
    clear k2 HG
    go_wp2_with fail
    refine bodyPost_ret (v := .tuple #[]) (by simp [results, Tryz.results137]) rfl ?_
    refine ⟨rfl, ?_⟩
    exact HS2.out.sub [0]
  · have e : levAt m.ts i = some t.level := by
      unfold levAt
      rw [if_neg (by omega), Int.toNat_natCast, ht]; rfl
    rw [e]
    have hst := hstep t.level e
    have hlevs := fun (t : Task) (h : t ∈ m.ts) => T.tok.ok.fit t h
    have HG := hid (get_in T1.out ht)
    have Hst := hid hst
    have Hfit := hid hlevs
    simp only
    unfold lows
    unfold taskV at HG
    generalize t.level = lev at *
    clear hstep e hst ht hlevs T HS
    go_enter Tryz.func137, Tryz.ntmps137
    go_wp2_with fail
    refine HG.out.mono ?_; rintro e w2 ⟨gn, rfl, hS⟩
    obtain ⟨xl, hxl⟩ : ∃ xl : List Value, xl = [.string t.name, .int .i64 lev, .int .i64 t.frame, .slice (some ⟨gn, 0, none⟩) t.needs.length t.needs.length, .string t.code, .int .i64 t.period, .int .i64 t.first, .int .i64 t.gap] := ⟨_, rfl⟩
    have hS2 := (HS0.out.step hS.keeps).new TTk xl
    simp only [Kw.red] at hS2
    have hl1 : xl[1]? = some (.int .i64 lev) := by rw [hxl]; rfl
    have HL1 := hid hl1
    have hln := tlen_any (HT.out.keeps hS2.keeps)
    have HS2 := hid hS2
    have HLn := hid hln
    rw [hxl] at HLn
    clear hS hS2 HG HS0 hl1 hln
    go_wp2_with fail
    refine HLn.out.mono ?_; rintro e w3 ⟨rfl, rfl⟩
    rw [← hxl]
    clear hxl HLn
    generalize w2.heap.size = xb at *
    generalize w2.alloc (.cells xl.toArray TTk) = w3 at *
    go_wp2_with fail
    go_loopw [25] (fun y wr => ∃ k : Nat, k ≤ m.ts.length ∧ y = .int .i64 k ∧ St (fun _ => False) w0 [c (lowsTo lev m.ts k), .pt xb TTk xl] wr) (fun y _ => m.ts.length - (intOf y).toNat)
    case atStart => exact ⟨0, Nat.zero_le _, rfl, HS2.out⟩
    case round =>
      clear HS2
      obtain ⟨k, hk, rfl, hS⟩ := hrel
      by_cases hlt : k < m.ts.length
      · have a1 : decide (k < m.ts.length) = true := by simpa using hlt
        have hy := List.getElem?_eq_getElem hlt
        have hfy := Hfit.out _ (List.getElem_mem hlt)
        have hcons := lowsTo_snoc (lev := lev) hy
        have TK := hid (HT.out.keeps hS.keeps)
        have HG2 := hid (get_in TK.out hy)
        generalize m.ts[k] = y at *
        have HSr := hid hS
        have Hcons := hid hcons
        have Hy := hid hy
        unfold taskV at HG2
        clear hS hcons hy TK
        go_wp2_with fail
        refine HG2.out.mono ?_; rintro e w4 ⟨gy, rfl, hS4⟩
        have hS5 := (HSr.out.step hS4.keeps).new TTk [.string y.name, .int .i64 y.level, .int .i64 y.frame, .slice (some ⟨gy, 0, none⟩) y.needs.length y.needs.length, .string y.code, .int .i64 y.period, .int .i64 y.first, .int .i64 y.gap]
        simp only [Kw.red] at hS5
        have d1 := (hS5.blk 1).at HL1.out
        have HS5 := hid (hS5.sub [0, 1])
        clear hS4 hS5 HG2 HSr
        by_cases hge : lev ≤ y.level
        · have b1 : decide (lev ≤ y.level) = true := by simpa using hge
          rw [if_neg (by omega)] at Hcons
          clear hge
          go_wp2_with fail
          go_roundw
          case rel => exact ⟨k + 1, by omega, by go_num, by rw [Hcons.out]; exact HS5.out⟩
          case measure => simp [intOf]; omega
        · have b1 : decide (lev ≤ y.level) = false := by simpa using hge
          rw [if_pos (by omega)] at Hcons
          have HSc := hid (sections_in (HT.out.keeps HS5.out.keeps) Hy.out)
          have hql : (secsOf y).length ≤ 4096 := Nat.le_trans (secs_ok hfy).few (Cm.prog_le _)
          obtain ⟨q, hq⟩ : ∃ q, secsOf y = q := ⟨_, rfl⟩
          have hmem : ∀ s ∈ q, s ∈ secsOf y := by rw [hq]; exact fun _ h => h
          have Hmem := hid hmem
          rw [hq] at Hcons HSc hql
          clear hge hfy hmem hq
          go_wp2_with fail
          refine HSc.out.mono ?_; rintro e w6 ⟨sv, rfl, hS⟩
          obtain ⟨sa, sc, rfl, hsc⟩ := (hS.vec 0).shape
          have hS6 := HS5.out.adds hS
          simp only [Kw.red] at hS6
          have HS6 := hid hS6
          clear hS hS6 HS5 HSc d1
          go_wp2_with fail
          go_loopw [43] (fun z wx => ∃ i : Nat, i ≤ q.length ∧ z = .int .i64 i ∧ St (fun _ => False) w0 [c (lowsTo lev m.ts k ++ (q.take i).map (Prod.mk k)), .pt xb TTk xl, .vec TSe 5 (.slice sa q.length sc) q.length (secsC q)] wx) (fun z _ => q.length - (intOf z).toNat)
          case atStart => exact ⟨0, Nat.zero_le _, rfl, by have h := HS6.out; simpa using h⟩
          case round =>
            clear HS6
            obtain ⟨i, hi, rfl, hS⟩ := hrel
            by_cases hil : i < q.length
            · have b2 : decide (i < q.length) = true := by simpa using hil
              have hs := List.getElem?_eq_getElem hil
              have hsm := Hmem.out _ (List.getElem_mem hil)
              obtain ⟨gs, cs, e1, -, -⟩ := (hS.vec 2).form (by omega)
              cases e1
              obtain ⟨e0, e1, e2, e3, e4⟩ := secsC_at hs
              have s0 := (hS.vec 2).cells' (g := gs) rfl e0
              have s1 := (hS.vec 2).cells' (g := gs) rfl e1
              have s2 := (hS.vec 2).cells' (g := gs) rfl e2
              have s3 := (hS.vec 2).cells' (g := gs) rfl e3
              have s4 := (hS.vec 2).cells' (g := gs) rfl e4
              have htk := map_take_snoc (k := k) hs
              generalize q[i] = s at *
              have i0 : (0 : Int) ≤ (i : Int) := by omega
              have i1 : (i : Int) < (q.length : Int) := by omega
              have d1 := (hS.blk 1).at HL1.out
              have hS7 := hS.new TSe [.int .i64 s.res, .int .i64 s.units, .int .i64 s.held, .int .i64 s.frm, .int .i64 s.upto]
              simp only [Kw.red] at hS7
              obtain ⟨F1, h1, _, _, bk⟩ := hS7.sel [0]
              have HC := hid (Hst.out _ k y s _ F1 Hy.out hsm (Sts.of_one h1) (HT.out.keeps hS7.keeps))
              have Htk := hid htk
              unfold secV at HC
              clear hS hS7 h1 htk hs e0 e1 e2 e3 e4 hsm
              go_wp2_with fail
              refine HC.out.mono ?_; rintro e w7 ⟨rfl, hS8⟩
              have hS8 := bk hS8
              simp only [Kw.red] at hS8
              have HS8 := hid hS8
              clear hS8 HC bk s0 s1 s2 s3 s4 d1
              go_wp2_with fail
              go_roundw
              case rel => exact ⟨i + 1, by omega, by go_num, by rw [Htk.out, ← List.append_assoc]; exact HS8.out.sub [0, 1, 2]⟩
              case measure => simp [intOf]; omega
            · have b2 : decide (i < q.length) = false := by simpa using hil
              rw [List.take_of_length_le (show q.length ≤ i by omega)] at hS
              have HS8 := hid hS
              clear hS
              go_wp2_with fail
              go_roundw
              case rel => exact ⟨k + 1, by omega, by go_num, by rw [Hcons.out]; exact HS8.out.sub [0, 1]⟩
              case measure => simp [intOf]; omega
      · have a1 : decide (k < m.ts.length) = false := by simpa using hlt
        have hkk : k = m.ts.length := by omega
        subst hkk
        have HS8 := hid hS
        clear hS
        go_wp2_with fail
        go_end0
        exact ⟨rfl, HS8.out.sub [0]⟩

/-- A number and the table, as closures hold them. -/
def termC (p tb nb : Nat) (m : TM) (lev : Int) (l : List (Nat × Sec)) : Ch := .stars [.pt tb 26 [.pointer (some ⟨p, 0, none⟩)], .pt nb TI' [.int .i64 (gmax (termP m lev) lenP l)]]
def longC (nb : Nat) (l : List (Nat × Sec)) : Ch := .pt nb TI' [.int .i64 (gmax (fun _ => true) lenP l)]
theorem lenP_bd {m : TM} (hm : m.Ok) {j : Nat} {t : Task} {s : Sec} (ht : m.ts[j]? = some t) (hs : s ∈ secsOf t) : (s.frm : Int) < s.upto ∧ (s.upto : Int) ≤ 4096 := by
  have h := sec_mem (hm.fit t (List.mem_of_getElem? ht)) hs
  have h1 := h.2.1.lt
  have h2 := h.2.2
  have h3 := Cm.prog_le t.code.data.toList
  have h4 : (prog t).1.length ≤ 4096 := h3
  omega
section
variable {w : World} {F : Nat → Prop} {p : Nat} {m : TM} {x : TabX}
set_option maxRecDepth 100000 in
set_option maxHeartbeats 2000000 in
theorem longStep_any {nb : Nat} {l : List (Nat × Sec)} {j : Nat} {t : Task} {s : Sec} {lev : Int} (ht : m.ts[j]? = some t) (hs : s ∈ secsOf t) (h : (longC nb l).holds F w) (T : TabAt w p m x) :
    Calls Tryz.prog 141 #[.int .i64 j, secV s, .int .i64 lev, .pointer (some ⟨nb, 0, none⟩)] w fun e w' => e = .returned (.tuple #[]) ∧ St F w [longC nb (l ++ [(j, s)])] w' := by
  obtain ⟨hb1, hb2⟩ := lenP_bd T.tok.ok ht hs
  unfold longC at h ⊢
  rw [gmax_app]
  simp only [if_true]
  rw [show lenP (j, s) = (s.upto : Int) - s.frm from rfl]
  generalize gmax (fun _ => true) lenP l = N at *
  have hS := (St.of (Sts.one h)).new TSe [.int .i64 s.res, .int .i64 s.units, .int .i64 s.held, .int .i64 s.frm, .int .i64 s.upto]
  simp only [Kw.red] at hS
  have c0 := (hS.blk 0).cell 0
  have cz := (hS.blk 0).fz
  simp only [List.getElem?_cons_zero] at c0
  have hnb : nb < w.heap.size := (St.of (Sts.one h)).blk 0 |>.lt
  have c0' := ((St.of (Sts.one h)).blk 0).cell 0
  have cz' := ((St.of (Sts.one h)).blk 0).fz
  simp only [List.getElem?_cons_zero] at c0'
  have hS3 := ((St.of (Sts.one h)).set 0 0 (.int .i64 (max N ((s.upto : Int) - s.frm)))).new TSe [.int .i64 s.res, .int .i64 s.units, .int .i64 s.held, .int .i64 s.frm, .int .i64 s.upto]
  simp only [Kw.red] at hS3
  have HS := hid (hS3.sub [0])
  unfold secV
  clear h hS hS3 T
  go_enter Tryz.func141, Tryz.ntmps141
  go_wp2_with fail
  go_end0
  exact ⟨rfl, HS.out⟩
set_option maxRecDepth 100000 in
set_option maxHeartbeats 2000000 in
theorem termStep_any {tb nb : Nat} {l : List (Nat × Sec)} {j : Nat} {t : Task} {s : Sec} {lev : Int} (ht : m.ts[j]? = some t) (hs : s ∈ secsOf t) (h : (termC p tb nb m lev l).holds F w) (T : TabAt w p m x) :
    Calls Tryz.prog 140 #[.int .i64 j, secV s, .int .i64 lev, .pointer (some ⟨tb, 0, none⟩), .pointer (some ⟨nb, 0, none⟩)] w fun e w' => e = .returned (.tuple #[]) ∧ St F w [termC p tb nb m lev (l ++ [(j, s)])] w' := by
  obtain ⟨hb1, hb2⟩ := lenP_bd T.tok.ok ht hs
  have hS0 := St.of (cs := [.pt tb 26 [.pointer (some ⟨p, 0, none⟩)], .pt nb TI' [.int .i64 (gmax (termP m lev) lenP l)]]) h
  unfold termC
  rw [gmax_app]
  have hP : termP m lev (j, s) = decide (lev ≤ m.ceilAt s.res 0) := rfl
  rw [hP, show lenP (j, s) = (s.upto : Int) - s.frm from rfl]
  generalize gmax (termP m lev) lenP l = N at *
  have hS := hS0.new TSe [.int .i64 s.res, .int .i64 s.units, .int .i64 s.held, .int .i64 s.frm, .int .i64 s.upto]
  simp only [Kw.red] at hS
  have hM := max_any (T.keeps ((Keeps.refl (fun _ => False) w).alloc (.cells #[.int .i64 s.res, .int .i64 s.units, .int .i64 s.held, .int .i64 s.frm, .int .i64 s.upto] TSe))) s.res
  generalize m.ceilAt s.res 0 = CE at *
  have HM := hid hM
  have HS := hid hS
  have t0 := (hS.blk 0).cell 0
  have t0' := (hS0.blk 0).cell 0
  simp only [List.getElem?_cons_zero] at t0 t0'
  unfold secV
  clear h hS hM T hP
  by_cases hc : lev ≤ CE
  · have b0 : decide (lev ≤ CE) = true := by simpa using hc
    rw [b0]
    simp only [if_true]
    clear hc
    go_enter Tryz.func140, Tryz.ntmps140
    go_wp2_with fail
    refine HM.out.mono ?_; rintro e w1 ⟨rfl, k1⟩
    have HS1 := hid (HS.out.step k1)
    have c0 := (HS1.out.blk 1).cell 0
    have cz := (HS1.out.blk 1).fz
    have s3 := (HS1.out.blk 2).cell 3
    have s4 := (HS1.out.blk 2).cell 4
    simp only [List.getElem?_cons_zero, List.getElem?_cons_succ] at c0 s3 s4
    clear HM HS k1
    go_wp2_with fail
    go_end0
    refine ⟨rfl, ?_⟩
    have h2 := HS1.out.set 1 0 (.int .i64 (max N ((s.upto : Int) - s.frm)))
    simp only [Kw.red] at h2
    exact (h2.fold [0, 1] (.stars [.pt tb 26 [.pointer (some ⟨p, 0, none⟩)], .pt nb TI' [.int .i64 (max N ((s.upto : Int) - s.frm))]]) (fun F h => h)).sub [0]
  · have b0 : decide (lev ≤ CE) = false := by simpa using hc
    rw [b0]
    simp only [Bool.false_eq_true, if_false]
    clear hc
    go_enter Tryz.func140, Tryz.ntmps140
    go_wp2_with fail
    refine HM.out.mono ?_; rintro e w1 ⟨rfl, k1⟩
    have HS1 := hid (HS.out.step k1)
    clear HM HS k1
    go_wp2_with fail
    go_end0
    refine ⟨rfl, ?_⟩
    exact (HS1.out.fold [0, 1] (.stars [.pt tb 26 [.pointer (some ⟨p, 0, none⟩)], .pt nb TI' [.int .i64 N]]) (fun F h => h)).sub [0]
end
section
variable {w : World} {p : Nat} {m : TM} {x : TabX}
theorem term_eq (m : TM) (id : Int) : term m id = gmax (termP m ((levAt m.ts id).getD 0)) lenP (lowsId m.ts id) := by
  unfold term termL lowsId
  cases levAt m.ts id <;> rfl
theorem long_eq (m : TM) (id : Int) : longest m id = gmax (fun _ => true) lenP (lowsId m.ts id) := by
  unfold longest longL lowsId
  cases levAt m.ts id <;> rfl
set_option maxRecDepth 100000 in
set_option maxHeartbeats 2000000 in
theorem term_any (h : TabAt w p m x) (id : Int) : Calls Tryz.prog 63 #[.pointer (some ⟨p, 0, none⟩), .int .i64 id] w fun e w' => e = .returned (.int .i64 (term m id)) ∧ Keeps (fun _ => False) w w' := by
  rw [term_eq]
  have hS := ((St.start w).new 26 [.pointer (some ⟨p, 0, none⟩)]).new TI' [.int .i64 0]
  rw [show (w.alloc (.cells [Value.pointer (some ⟨p, 0, none⟩)].toArray 26)).heap.size = w.heap.size + 1 by simp] at hS
  simp only [Kw.red] at hS
  obtain ⟨lev, hlev⟩ : ∃ lev, (levAt m.ts id).getD 0 = lev := ⟨_, rfl⟩
  rw [hlev]
  have hS2 : St (fun _ => False) w [termC p w.heap.size (w.heap.size + 1) m lev []] _ := (hS.fold [0, 1] (termC p w.heap.size (w.heap.size + 1) m lev []) (fun F h => h)).sub [0]
  have hL := lower2_any h id (termC p w.heap.size (w.heap.size + 1) m lev) 140 enter_term (a1 := .pointer (some ⟨w.heap.size, 0, none⟩)) (a2 := .pointer (some ⟨w.heap.size + 1, 0, none⟩))
    (fun lev' hl l j t s w F ht hs hc hT => by
      obtain rfl : lev' = lev := by rw [← hlev, hl]; rfl
      exact termStep_any ht hs hc hT) hS2
  have HL := hid hL
  clear h hS hS2 hL hlev
  go_enter Tryz.func63, Tryz.ntmps63
  go_wp2_with fail
  refine HL.out.mono ?_; rintro e w1 ⟨rfl, hS⟩
  obtain ⟨F1, hc, -⟩ := hS.at 0 rfl
  have hS1 := St.of (cs := [.pt w.heap.size 26 [.pointer (some ⟨p, 0, none⟩)], .pt (w.heap.size + 1) TI' [.int .i64 (gmax (termP m lev) lenP (lowsId m.ts id))]]) hc
  have c0 := (hS1.blk 1).cell 0
  simp only [List.getElem?_cons_zero] at c0
  have K := hid hS.keeps
  clear hS hS1 hc
  go_wp2_with fail
  go_ret
  exact ⟨rfl, K.out⟩
set_option maxRecDepth 100000 in
set_option maxHeartbeats 2000000 in
theorem longest_any (h : TabAt w p m x) (id : Int) : Calls Tryz.prog 65 #[.pointer (some ⟨p, 0, none⟩), .int .i64 id] w fun e w' => e = .returned (.int .i64 (longest m id)) ∧ Keeps (fun _ => False) w w' := by
  rw [long_eq]
  have hS := (St.start w).new TI' [.int .i64 0]
  simp only [Kw.red] at hS
  have hS2 : St (fun _ => False) w [longC w.heap.size []] _ := hS
  have hL := lower1_any h id (longC w.heap.size) 141 enter_long (a1 := .pointer (some ⟨w.heap.size, 0, none⟩))
    (fun lev' hl l j t s w F ht hs hc hT => longStep_any ht hs hc hT) hS2
  have HL := hid hL
  clear h hS hS2 hL
  go_enter Tryz.func65, Tryz.ntmps65
  go_wp2_with fail
  refine HL.out.mono ?_; rintro e w1 ⟨rfl, hS⟩
  have hS1 : St (fun _ => False) w [.pt w.heap.size TI' [.int .i64 (gmax (fun _ => true) lenP (lowsId m.ts id))]] w1 := hS
  have c0 := (hS1.blk 0).cell 0
  simp only [List.getElem?_cons_zero] at c0
  have K := hid hS.keeps
  clear hS hS1
  go_wp2_with fail
  go_ret
  exact ⟨rfl, K.out⟩
end
section
variable {w : World} {p : Nat} {m : TM} {x : TabX}
theorem greatest_take (m : TM) (k : Nat) : gmax (fun _ => true) (fun j : Nat => term m j) (List.range (k + 1)) = max (gmax (fun _ => true) (fun j : Nat => term m j) (List.range k)) (term m k) := by
  rw [List.range_succ, gmax_app]
  simp
set_option maxRecDepth 100000 in
set_option maxHeartbeats 2000000 in
theorem greatest_any (h : TabAt w p m x) : Calls Tryz.prog 67 #[.pointer (some ⟨p, 0, none⟩)] w fun e w' => e = .returned (.int .i64 (greatest m)) ∧ Keeps (fun _ => False) w w' := by
  have H := hid h
  have HL := hid (tlen_any h)
  have hfew := h.few
  obtain ⟨G, hG⟩ : ∃ G, greatest m = G := ⟨_, rfl⟩
  rw [hG]
  have HG := hid hG
  clear h hG
  go_enter Tryz.func67, Tryz.ntmps67
  go_wp2_with fail
  refine HL.out.mono ?_; rintro e w1 ⟨rfl, rfl⟩
  clear HL
  go_wp2_with fail
  go_loopw [9, 3] (fun y z wr => ∃ k : Nat, k ≤ m.ts.length ∧ y = .int .i64 k ∧ z = .int .i64 (gmax (fun _ => true) (fun j : Nat => term m j) (List.range k)) ∧ Keeps (fun _ => False) w wr) (fun y _ _ => m.ts.length - (intOf y).toNat)
  case atStart => exact ⟨0, Nat.zero_le _, rfl, rfl, Keeps.refl _ _⟩
  case round =>
    obtain ⟨k, hk, rfl, rfl, hK⟩ := hrel
    by_cases hlt : k < m.ts.length
    · have a1 : decide (k < m.ts.length) = true := by simpa using hlt
      have ht := greatest_take m k
      have HT := hid (term_any (H.out.keeps hK) k)
      generalize gmax (fun _ => true) (fun j : Nat => term m j) (List.range k) = N at *
      generalize term m k = TK at *
      have Ht := hid ht
      have KK := hid hK
      clear ht hK
      go_wp2_with fail
      refine HT.out.mono ?_; rintro e w2 ⟨rfl, k2⟩
      have K2 := hid (KK.out.trans k2)
      clear k2 HT
      go_wp2_with fail
      go_roundw
      case rel => exact ⟨k + 1, by omega, by go_num, by rw [Ht.out], K2.out⟩
      case measure => simp [intOf]; omega
    · have a1 : decide (k < m.ts.length) = false := by simpa using hlt
      have hkk : k = m.ts.length := by omega
      subst hkk
      have e : gmax (fun _ => true) (fun j : Nat => term m j) (List.range m.ts.length) = G := HG.out
      rw [e]
      have KK := hid hK
      clear hK e
      go_wp2_with fail
      go_ret
      exact ⟨rfl, KK.out⟩
end
end Go.Proofs.YtdjgijndcjbpiaaGreatDoor
