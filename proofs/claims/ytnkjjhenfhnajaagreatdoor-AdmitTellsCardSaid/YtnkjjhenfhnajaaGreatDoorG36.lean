/-
  Texts Dh Dj Dk Dl in one.
-/
import Derived.Test.YtnkjjhenfhnajaaGreatDoorG33
import Derived.Test.YtnkjjhenfhnajaaGreatDoorG26
import Derived.Test.YtnkjjhenfhnajaaGreatDoorG34
import Derived.Test.YtnkjjhenfhnajaaGreatDoorBf
import Derived.Test.YtnkjjhenfhnajaaGreatDoorG27
/-
  keelref5.inner, Unlock, walked.
-/
namespace Go.Proofs.YtnkjjhenfhnajaaGreatDoor
open Go.RowKit Go.Kw Go.Kreg Go.Tm Go.Um
set_option linter.unusedSimpArgs false
set_option linter.unusedVariables false

theorem tknC_cut {l : List Tkn} {i : Nat} (hi : i < l.length) : (tknC l).take (i * 3) ++ (tknC l).drop ((i + 1) * 3) = tknC (l.eraseIdx i) := by
  have hl : (tknC (l.take i)).length = i * 3 := by rw [tknC_len, List.length_take]; omega
  have e : tknC l = tknC (l.take i) ++ ([.int .i64 l[i].job, .int .i64 l[i].res, .int .i64 l[i].n] ++ tknC (l.drop (i + 1))) := by
    conv => lhs; rw [← List.take_append_drop i l, List.drop_eq_getElem_cons hi]
    rw [tknC_app]; rfl
  have e2 : l.eraseIdx i = l.take i ++ l.drop (i + 1) := List.eraseIdx_eq_take_drop_succ ..
  rw [e, e2, tknC_app]
  congr 1
  · rw [List.take_append_of_le_length (by omega), List.take_of_length_le (by omega)]
  · rw [List.drop_append, List.drop_of_length_le (by omega), hl, show (i + 1) * 3 - i * 3 = 3 by omega]; rfl
theorem tknC_ones (l : List Tkn) : ∀ u ∈ tknC l, u.oneCell' = true := by
  intro u hu
  simp only [tknC, List.mem_flatMap, List.mem_cons, List.not_mem_nil, or_false] at hu
  obtain ⟨r, _, rfl | rfl | rfl⟩ := hu <;> rfl
theorem st_row3 {w w0 : World} {F0 : Nat → Prop} {cs : List Ch} (hS : St F0 w0 cs w) (T : TypeId) (sz : Nat) : St F0 w0 (cs ++ [.row T sz (.slice (some ⟨w.heap.size, 0, none⟩) 0 0) 0 []]) (w.alloc (.cells #[] T)) := by
  have ho := Own.of_blk (T := T) (sz := sz) (n := 0) (cap := 0) (Blk.new w T []) (by simp) (Nat.le_refl _) (by simp [maxLen])
  rw [Nat.zero_mul, List.take_zero] at ho
  exact hS.add ((Keeps.refl (fun _ => False) w).alloc _) (G := fun b => (Value.slice (some ⟨w.heap.size, 0, none⟩) 0 0).ownBlock = some b) (c := .row T sz (.slice (some ⟨w.heap.size, 0, none⟩) 0 0) 0 []) ⟨ho, fun _ => Iff.rfl⟩ fun b hb => by
    simp only [Value.ownBlock, Option.some.injEq] at hb; rw [← hb]; exact Nat.le_refl _
section
variable {w : World} {q : Nat} {m : UM} {uv tv : Value}
set_option maxRecDepth 100000 in
set_option maxHeartbeats 1000000 in
theorem inner_any (h : R5At w q m uv tv) (j : Int) : Calls Tryz.prog 145 #[.pointer (some ⟨q, 0, none⟩), .int .i64 j] w fun e w' => e = .returned (.int .i64 (innerOf m.l j)) ∧ w = w' := by
  have hc := h.c1
  obtain ⟨ta, tc, e, -⟩ := h.tks.shape
  have ho := h.tks
  rw [e] at ho hc
  have hfew := locks_few h.ok
  obtain ⟨R, hR⟩ : ∃ R, innerOf m.l j = R := ⟨_, rfl⟩
  rw [hR]
  unfold innerOf at hR
  have HO := hid ho
  have HF := hid hR
  clear h ho hR e
  go_enter Tryz.func145, Tryz.ntmps145
  go_wp2_with fail
  go_loopw [6, 5] (fun i z wr => ∃ (k : Nat), k ≤ m.l.length ∧ i = .int .i64 k ∧ z = .int .i64 (innerTo m.l j k) ∧ w = wr) (fun i _ _ => m.l.length - (intOf i).toNat)
  case atStart => exact ⟨0, Nat.zero_le _, rfl, rfl, rfl⟩
  case round =>
    obtain ⟨k, hk, rfl, rfl, rfl⟩ := hrel
    by_cases hlt : k < m.l.length
    · have a1 : decide (k < m.l.length) = true := by simpa using hlt
      have hx := List.getElem?_eq_getElem hlt
      have hst : innerTo m.l j (k + 1) = if m.l[k].job = j then (k : Int) else innerTo m.l j k := by
        conv => lhs; unfold innerTo
        rw [hx]
      obtain ⟨x0, x1, x2⟩ := tknC_at hx
      obtain ⟨g, cap, e1, -⟩ := HO.out.form (by omega)
      cases e1
      generalize m.l[k] = x at *
      have d0 := HO.out.cells' (g := g) rfl x0
      have i0 : (0 : Int) ≤ (k : Int) := by omega
      have i1 : (k : Int) < (m.l.length : Int) := by omega
      generalize innerTo m.l j k = S at *
      have Hst := hid hst
      clear x0 x1 x2 hx hst
      by_cases he : x.job = j
      · have b1 : (x.job == j) = true := by simpa using he
        have hs := Hst.out
        rw [if_pos he] at hs
        have Hs := hid hs
        clear he hs Hst
        go_wp2_with fail
        go_roundw
        case rel => exact ⟨k + 1, by omega, by go_num, by rw [Hs.out], by first | rfl | trivial⟩
        case measure => simp [intOf]; omega
      · have b1 : (x.job == j) = false := by simpa using he
        have hs := Hst.out
        rw [if_neg he] at hs
        have Hs := hid hs
        clear he hs Hst
        go_wp2_with fail
        go_roundw
        case rel => exact ⟨k + 1, by omega, by go_num, by rw [Hs.out], by first | rfl | trivial⟩
        case measure => simp [intOf]; omega
    · have a1 : decide (k < m.l.length) = false := by simpa using hlt
      obtain rfl : k = m.l.length := by omega
      rw [HF.out]
      go_wp2_with fail
      go_ret
      exact ⟨rfl, rfl⟩
end
section
variable {w : World} {F : Nat → Prop} {q : Nat} {m : UM}
set_option maxRecDepth 100000 in
set_option maxHeartbeats 8000000 in
theorem runlock_any (h : Sts [r5C q m] F w) (j r : Int) : Calls Tryz.prog 98 #[.pointer (some ⟨q, 0, none⟩), .int .i64 j, .int .i64 r] w fun e w' => e = .returned (.tuple #[.int .i64 (m.unlock j r).1.1, .int .i64 (m.unlock j r).1.2]) ∧ St F w [r5C q (m.unlock j r).2] w' := by
  obtain ⟨uv, tv, hx⟩ := r5_at 0 (St.of h)
  have HS := hid (St.of h)
  have HK := hid (known_any hx r)
  have HI := hid (inner_any hx j)
  have hok := hx.ok
  have hfew := locks_few hok
  by_cases e1 : j < 0
  · have hu : m.unlock j r = ((0, 1), m) := by unfold UM.unlock; rw [if_pos (.inl e1)]
    have b1 : decide (j < 0) = true := by simpa using e1
    rw [hu]
    clear h hx e1 hu
    go_enter Tryz.func98, Tryz.ntmps98
    go_wp2_with fail
    go_ret2
    exact ⟨rfl, HS.out⟩
  have b1 : decide (j < 0) = false := by simpa using e1
  by_cases e2 : m.has r
  case neg =>
    have hu : m.unlock j r = ((0, 1), m) := by unfold UM.unlock; rw [if_pos (.inr e2)]
    rw [decide_eq_false e2] at HK
    rw [hu]
    clear h hx e1 e2 hu
    go_enter Tryz.func98, Tryz.ntmps98
    go_wp2_with fail
    refine HK.out.mono ?_; rintro e w1 ⟨rfl, rfl⟩
    go_wp2_with fail
    go_ret2
    exact ⟨rfl, HS.out⟩
  rw [decide_eq_true e2] at HK
  have hno : ¬ (j < 0 ∨ ¬ m.has r) := fun h => h.elim e1 fun h => h e2
  rcases innerOf_bd m.l j with hi | ⟨k, x, hk, hi, hxk, hxj⟩
  · have hu : m.unlock j r = ((0, 21), m) := by
      unfold UM.unlock
      rw [if_neg hno, hi]
      split
      · rw [if_pos (.inl (by omega))]
      · rfl
    rw [hi] at HI
    rw [hu]
    clear h hx e1 e2 hno hi hu
    go_enter Tryz.func98, Tryz.ntmps98
    go_wp2_with fail
    refine HK.out.mono ?_; rintro e w1 ⟨rfl, rfl⟩
    go_wp2_with fail
    refine HI.out.mono ?_; rintro e w1 ⟨rfl, rfl⟩
    go_wp2_with fail
    go_ret2
    exact ⟨rfl, HS.out⟩
  rw [hi] at HI
  obtain ⟨x0, x1, x2⟩ := tknC_at hxk
  obtain ⟨g, cap, etv, -⟩ := hx.tks.form (by omega)
  have c1 := hx.c1
  have ho := hx.tks
  rw [etv] at c1 ho
  have d1 := ho.cells' (g := g) rfl x1
  have d2 := ho.cells' (g := g) rfl x2
  have b2 : decide ((k : Int) < 0) = false := decide_eq_false (by omega)
  have i0 : (0 : Int) ≤ (k : Int) := by omega
  have i1 : (k : Int) < (m.l.length : Int) := by omega
  by_cases e3 : x.res = r
  case neg =>
    have hu : m.unlock j r = ((0, 21), m) := by
      unfold UM.unlock
      rw [if_neg hno, hi, Int.toNat_natCast, hxk]
      simp only
      rw [if_pos (.inr e3)]
    have b3 : (x.res != r) = true := by simpa using e3
    rw [hu]
    clear h hx e1 e2 e3 hno hi hu x0 x1 x2 ho etv hxk
    go_enter Tryz.func98, Tryz.ntmps98
    go_wp2_with fail
    refine HK.out.mono ?_; rintro e w1 ⟨rfl, rfl⟩
    go_wp2_with fail
    refine HI.out.mono ?_; rintro e w1 ⟨rfl, rfl⟩
    go_wp2_with fail
    go_ret2
    exact ⟨rfl, HS.out⟩
  have hu : m.unlock j r = ((x.n, 0), ⟨m.us, m.l.eraseIdx k, m.cs⟩) := by
    unfold UM.unlock
    rw [if_neg hno, hi, Int.toNat_natCast, hxk]
    simp only
    rw [if_neg (by rintro (h | h); omega; exact h e3)]
  have b3 : (x.res != r) = false := by simpa using e3
  rw [hu]
  have hcut := tknC_cut hk
  have hle : (m.l.eraseIdx k).length = m.l.length - 1 := by rw [List.length_eraseIdx, if_pos hk]
  have hok2 := erase_ok hok k
  obtain ⟨cur, _, _, hnc, hcm, _⟩ := Own.to_blk ho
  have hcm' : (cap : Int) ≤ 9223372036854775807 := by unfold maxLen at hcm; omega
  obtain ⟨v, hS⟩ := (St.of h).opens 0 (fun v => r5Cs q m v) (fun F h => h)
  obtain ⟨v1, v2, v3⟩ := v
  simp only [r5Cs] at hS
  simp only [Kw.red] at hS
  have hv2 : w.cell? ⟨q, 1, none⟩ = some v2 := (hS.blk 1).cell 1
  have e9 : v2 = .slice (some ⟨g, 0, none⟩) m.l.length cap := by rw [c1] at hv2; cases hv2; rfl
  subst e9
  have HS1 := hid hS
  have Hcut := hid hcut
  have Hle := hid hle
  have Hok2 := hid hok2
  have Hlen := hid (tknC_len m.l)
  have t1 : (0 : Int) ≤ (k : Int) + 1 := by omega
  have t2 : (k : Int) + 1 ≤ (m.l.length : Int) := by omega
  have t3 : (m.l.length : Int) ≤ (cap : Int) := by omega
  have t4 : ((k : Int) + 1).toNat = k + 1 := by omega
  have t5 : (k : Int) ≤ (cap : Int) := by omega
  clear h hx e1 e2 e3 hno hi hu x0 x1 x2 ho etv hxk hS hcut hle hok2 hok hv2 HS hcm
  go_enter Tryz.func98, Tryz.ntmps98
  go_wp2_with fail
  refine HK.out.mono ?_; rintro e w1 ⟨rfl, rfl⟩
  go_wp2_with fail
  refine HI.out.mono ?_; rintro e w1 ⟨rfl, rfl⟩
  go_wp2_with fail
  refine wp_region_mix [true, false, true, true, true, true, true, true, false, true, true, true, true, true, true, true, false, false, false, false] 2 (fun _ => False) (by kernel_rfl) (by decide +kernel) ?_
  simp only [front, back, List.take_succ_cons, List.take_zero, List.drop_succ_cons, List.drop_zero]
  repeat ((first | refine wpFront_load rfl ?_ | refine wpFront_other rfl ?_); (first | go_big_quiet_step (fail) | quiet_step (fail)); refine wpQuiet_nil ?_)
  refine wpFront_nil ?_
  simp only [wpSegs]
  generalize hao : (if cap = k + 1 then (some ⟨g, 0, none⟩ : Option Addr) else some ⟨g, (k + 1) * 3, none⟩) = ao
  have Hao := hid hao
  clear hao
  go_wp2_with fail
  have HE := hid (st_row3 (St.start w).drew TTn 3)
  refine segQ_normal HE.out.keeps ?_
  have ho1 := hid ((HS1.out.own 3).keeps HE.out.keeps fun _ _ => id)
  refine wpList_appX 0 _ _ TTns TTn (.agg #[.int .i64 0, .int .i64 0, .int .i64 0]) 3 24 infoTn Tryz.underlying178 rfl (by decide) rfl rfl HE.out rfl rfl (some ⟨g, 0, none⟩) k cap ((tknC m.l).take (k * 3)) rfl (by rw [List.length_take, Hlen.out]; omega) (fun h => by cases h) (fun ad had j u hj => by
    cases had
    rw [Addr.add_lit, Nat.zero_add]
    rw [List.getElem?_take] at hj
    split at hj
    · exact ho1.out.cells' (g := g) rfl hj
    · cases hj) (fun u hu => tknC_ones _ u (List.mem_of_mem_take hu)) (by unfold maxLen; omega) (by omega) ?_
  intro v7 w7 hS7 hat7
  simp only [Kw.red] at hS7
  rw [Nat.zero_add, List.nil_append] at hS7
  have HE7 := hid hS7
  obtain ⟨a7, c7, rfl, -⟩ := (hS7.own 0).shape
  clear hS7 hat7 HE ho1
  go_wp2_with fail
  refine segQ_normal HE7.out.keeps ?_
  have ho2 := hid ((HS1.out.own 3).keeps HE7.out.keeps fun _ _ => id)
  obtain ⟨mm, hmm⟩ : ∃ mm, m.l.length = k + 1 + mm := ⟨m.l.length - k - 1, by omega⟩
  refine wpList_appX 0 _ _ TTns TTn (.agg #[.int .i64 0, .int .i64 0, .int .i64 0]) 3 24 infoTn Tryz.underlying178 rfl (by decide) rfl rfl HE7.out rfl rfl ao (m.l.length - (k + 1)) (cap - (k + 1)) ((tknC m.l).drop ((k + 1) * 3)) rfl (by rw [List.length_drop, Hlen.out]; omega) (fun h => by rw [← Hao.out] at h; split at h <;> cases h) (fun ad had j u hj => by
    have hlt := (List.getElem?_eq_some_iff.1 hj).1
    rw [List.length_drop, Hlen.out] at hlt
    rw [← Hao.out, if_neg (by omega)] at had
    cases had
    rw [Addr.add_lit]
    rw [List.getElem?_drop] at hj
    exact ho2.out.cells' (g := g) rfl hj) (fun u hu => tknC_ones _ u (List.mem_of_mem_drop hu)) (by unfold maxLen; omega) (by omega) ?_
  intro v8 w8 hS8 hat8
  simp only [Kw.red] at hS8
  rw [show k + (m.l.length - (k + 1)) = (m.l.eraseIdx k).length by rw [Hle.out]; omega, Hcut.out] at hS8
  obtain ⟨a8, c8, rfl, -⟩ := (hS8.own 0).shape
  have hSf := HS1.out.adds hS8
  simp only [Kw.red] at hSf
  have HSf := hid hSf
  have c1 : w8.cell? ⟨q, 1, none⟩ = some (.slice (some ⟨g, 0, none⟩) m.l.length cap) := (hSf.blk 1).cell 1
  have cz := (hSf.blk 1).fz 1
  clear hS8 hat8 HE7 ho2 hSf hmm d1 d2
  have h1 := (HSf.out.set 1 1 (.slice a8 (m.l.eraseIdx k).length c8)).sub [1, 2, 6, 4, 5]
  simp only [Kw.red] at h1
  simp only [List.set_cons_zero, List.set_cons_succ] at h1
  have h2 := h1.imp 4 (c := .pr m.Ok) (.pr (UM.mk m.us (m.l.eraseIdx k) m.cs).Ok) (fun F h => ⟨Hok2.out, h.2⟩)
  simp only [Kw.red] at h2
  have h3 := (h2.fold [0, 1, 2, 3, 4] (r5C q (UM.mk m.us (m.l.eraseIdx k) m.cs)) (fun F h => ⟨((v1, (.slice a8 (m.l.eraseIdx k).length c8, v3)) : Value × Value × Value), h⟩)).sub [0]
  have HF := hid h3
  clear h1 h2 h3 HSf HS1
  go_wp2_with fail
  refine NoPanic.normal ?_
  go_wp2_with fail
  go_ret2
  exact ⟨rfl, HF.out⟩
end
end Go.Proofs.YtnkjjhenfhnajaaGreatDoor

/-
  keelref4.Steps, keelref11.Level, Cost, walked.
-/
namespace Go.Proofs.YtnkjjhenfhnajaaGreatDoor
open Go.RowKit Go.Kw Go.Kreg Go.Tm Go.Ad
set_option linter.unusedSimpArgs false
set_option linter.unusedVariables false

def levI (ts : List Task) (id : Int) : Int := match taskI ts id with | some t => t.level | none => 0
section
variable {w : World} {p : Nat} {m : TM} {y : RefX}
theorem out_bools {ts : List Task} {id : Int} (ho : id < 0 ∨ (ts.length : Int) ≤ id) : decide (id < 0) = true ∨ decide (id < 0) = false ∧ decide ((ts.length : Int) ≤ id) = true := by
  by_cases h0 : id < 0
  · exact .inl (decide_eq_true h0)
  · exact .inr ⟨decide_eq_false h0, decide_eq_true (by omega)⟩
set_option maxRecDepth 100000 in
set_option maxHeartbeats 2000000 in
theorem stepsTR_out (h : RefAt w p m y) (id : Int) (ho : id < 0 ∨ (m.ts.length : Int) ≤ id) : Calls Tryz.prog 88 #[.pointer (some ⟨p, 0, none⟩), .int .i64 id] w fun e w' => e = .returned (.slice none 0 0) ∧ w = w' := by
  obtain ⟨c0, c1, c2, cz⟩ := h.cells
  have hlen := h.few
  obtain ⟨ta, tc, etv⟩ := ref_shape h
  rw [etv] at c2
  have hb := out_bools ho
  clear h ho etv
  rcases hb with b0 | ⟨b0, b1⟩
  all_goals
    go_enter Tryz.func88, Tryz.ntmps88
    go_wp2_with fail
    go_ret
    exact ⟨rfl, rfl⟩
set_option maxRecDepth 100000 in
set_option maxHeartbeats 2000000 in
theorem stepsTR_in (h : RefAt w p m y) {n : Nat} {t : Task} (ht : m.ts[n]? = some t) : Calls Tryz.prog 88 #[.pointer (some ⟨p, 0, none⟩), .int .i64 n] w fun e w' => ∃ lv, e = .returned lv ∧ St (fun _ => False) w [.row TOp 4 lv (prog t).1.length (opsC (prog t).1)] w' := by
  obtain ⟨c0, c1, c2, cz⟩ := h.cells
  have hlen := h.few
  obtain ⟨ta, tc, etv⟩ := ref_shape h
  rw [etv] at c2
  have hlt := (List.getElem?_eq_some_iff.1 ht).1
  have b0 : decide ((n : Int) < 0) = false := decide_eq_false (by omega)
  have b2 : decide ((m.ts.length : Int) ≤ (n : Int)) = false := decide_eq_false (by omega)
  have b3 : decide (m.ts.length ≤ n) = false := decide_eq_false (by omega)
  obtain ⟨g, cap, na, nc, e, ⟨d0, d1, d2, d3, d4, d5, d6, d7⟩, hown⟩ := ref_task h ht
  rw [etv] at e
  cases e
  have hcode := (h.tok.ok.fit t (List.mem_of_getElem? ht)).code
  have HP := hid (programR_any w t.code (prog t) rfl)
  have Hc := hid hcode
  have i0 : (0 : Int) ≤ (n : Int) := by omega
  have i1 : (n : Int) < (m.ts.length : Int) := by omega
  clear h ht etv hown hcode
  go_enter Tryz.func88, Tryz.ntmps88
  go_wp2_with fail
  refine HP.out.mono ?_; rintro e w1 ⟨lv, rfl, k1, hS⟩
  have HS := hid (hS Hc.out)
  obtain ⟨la, lc, rfl, -⟩ := (HS.out.own 0).shape
  clear hS k1 HP
  go_wp2_with fail
  go_ret
  exact ⟨_, rfl, HS.out⟩
set_option maxRecDepth 100000 in
set_option maxHeartbeats 2000000 in
theorem levelR_any (h : RefAt w p m y) (id : Int) : Calls Tryz.prog 103 #[.pointer (some ⟨p, 0, none⟩), .int .i64 id] w fun e w' => e = .returned (.int .i64 (levI m.ts id)) ∧ w = w' := by
  obtain ⟨c0, c1, c2, cz⟩ := h.cells
  have hlen := h.few
  obtain ⟨ta, tc, etv⟩ := ref_shape h
  rw [etv] at c2
  rcases id_cases m.ts id with ho | ⟨n, t, rfl, ht⟩
  · have hR : levI m.ts id = 0 := by unfold levI; rw [out_none ho]
    have hb := out_bools ho
    rw [hR]
    clear h ho etv hR
    rcases hb with b0 | ⟨b0, b1⟩
    all_goals
      go_enter Tryz.func103, Tryz.ntmps103
      go_wp2_with fail
      go_ret
      exact ⟨rfl, rfl⟩
  · have hR : levI m.ts n = t.level := by unfold levI; rw [in_some ht]
    have hlt := (List.getElem?_eq_some_iff.1 ht).1
    have b0 : decide ((n : Int) < 0) = false := decide_eq_false (by omega)
    have b2 : decide ((m.ts.length : Int) ≤ (n : Int)) = false := decide_eq_false (by omega)
    have b3 : decide (m.ts.length ≤ n) = false := decide_eq_false (by omega)
    obtain ⟨g, cap, na, nc, e, ⟨d0, d1, d2, d3, d4, d5, d6, d7⟩, hown⟩ := ref_task h ht
    rw [etv] at e
    cases e
    have i0 : (0 : Int) ≤ (n : Int) := by omega
    have i1 : (n : Int) < (m.ts.length : Int) := by omega
    rw [hR]
    clear h ht etv hown hR
    go_enter Tryz.func103, Tryz.ntmps103
    go_wp2_with fail
    go_ret
    exact ⟨rfl, rfl⟩
set_option maxRecDepth 100000 in
set_option maxHeartbeats 2000000 in
theorem costR_any (h : RefAt w p m y) (id : Int) : Calls Tryz.prog 33 #[.pointer (some ⟨p, 0, none⟩), .int .i64 id] w fun e w' => e = .returned (.int .i64 (cost m.ts id)) ∧ Keeps (fun _ => False) w w' := by
  rcases id_cases m.ts id with ho | ⟨n, t, rfl, ht⟩
  · have hR : cost m.ts id = 0 := by
      unfold cost
      split
      · rfl
      · rename_i h0
        rw [List.getElem?_eq_none (by omega)]
    have HP := hid (stepsTR_out h id ho)
    rw [hR]
    clear h ho hR
    go_enter Tryz.func33, Tryz.ntmps33
    go_wp2_with fail
    refine HP.out.mono ?_; rintro e w1 ⟨rfl, rfl⟩
    go_wp2_with fail
    go_ret
    exact ⟨rfl, Keeps.refl _ _⟩
  · have hR : cost m.ts n = (prog t).1.length := by unfold cost; rw [if_neg (by omega), Int.toNat_natCast, ht]
    have HP := hid (stepsTR_in h ht)
    rw [hR]
    clear h ht hR
    go_enter Tryz.func33, Tryz.ntmps33
    go_wp2_with fail
    refine HP.out.mono ?_; rintro e w1 ⟨lv, rfl, hS⟩
    obtain ⟨la, lc, rfl, -⟩ := (hS.own 0).shape
    have K1 := hid hS.keeps
    clear hS HP
    go_wp2_with fail
    go_ret
    exact ⟨rfl, K1.out⟩
end
end Go.Proofs.YtnkjjhenfhnajaaGreatDoor

/-
  keelref11.Sections, walked.
-/
namespace Go.Proofs.YtnkjjhenfhnajaaGreatDoor
open Go.RowKit Go.Kw Go.Kreg Go.Tm Go.Ad Go.Um
set_option linter.unusedSimpArgs false
set_option linter.unusedVariables false

abbrev TS1 : Nat := 67
abbrev TS1s : Nat := 63
theorem infoS1 : (Tryz.prog.info? TS1).map (fun i => (i.zero, i.size, i.bytes)) = some (some (.agg #[.int .i64 0, .int .i64 0, .int .i64 0, .int .i64 0, .int .i64 0]), 5, 40) := by kernel_rfl
theorem st_nilrow1 {F0 : Nat → Prop} {w0 w : World} {cs : List Ch} (hS : St F0 w0 cs w) (T : TypeId) (sz : Nat) : St F0 w0 (cs ++ [.row T sz (.slice none 0 0) 0 []]) w :=
  hS.add (Keeps.refl (fun _ => False) _) (G := fun _ => False) (c := .row T sz (.slice none 0 0) 0 []) ⟨⟨by simp, .inl ⟨rfl, rfl⟩⟩, fun b => by simp [Value.ownBlock]⟩ (fun _ h => h.elim)
theorem st_nilvec {F0 : Nat → Prop} {w0 w : World} {cs : List Ch} (hS : St F0 w0 cs w) (T : TypeId) (sz : Nat) : St F0 w0 (cs ++ [.vec T sz (.slice none 0 0) 0 []]) w :=
  hS.add (Keeps.refl (fun _ => False) _) (G := fun _ => False) (c := .vec T sz (.slice none 0 0) 0 []) ⟨⟨by simp, .inl ⟨rfl, rfl⟩⟩, fun b => by simp [Value.ownBlock]⟩ (fun _ h => h.elim)
theorem vec_src {w : World} {T : TypeId} {sz n pc : Nat} {pa : Option Addr} {xs : List Value} (h : Vec w T sz (.slice pa n pc) n xs) : ∀ ad, pa = some ad → ∀ (j : Nat) u, xs[j]? = some u → w.cell? (ad.add j) = some u := by
  intro ad had j u hj
  have hlt := (List.getElem?_eq_some_iff.1 hj).1
  have hpos : 0 < n := by
    rcases Nat.eq_zero_or_pos n with h0 | h0
    · rw [h.1, h0, Nat.zero_mul] at hlt; omega
    · exact h0
  obtain ⟨g, cap, e, -⟩ := h.form hpos
  cases e
  cases had
  rw [Addr.add_lit, Nat.zero_add]
  exact h.cells' (g := g) rfl hj
theorem vec_none {w : World} {T : TypeId} {sz n pc : Nat} {pa : Option Addr} {xs : List Value} (h : Vec w T sz (.slice pa n pc) n xs) (hp : pa = none) : n = 0 ∧ pc = 0 := by
  subst hp
  rcases h.2 with ⟨e, h0⟩ | ⟨g, cap, cur, e, _⟩
  · cases e; exact ⟨rfl, rfl⟩
  · cases e
/-- The document's run of its own, in memory. -/
def runCs (ub : Nat) (us cs : List Int) (l : List Cm.Op) (lv : Value) (o : OW) (pv ov : Value) : List Ch :=
  [r5C ub (umOf us cs o), .row TOp 4 lv l.length (opsC l), .vec TI' 1 pv o.opn.length (intsC (opnI o.opn)), .row TS1 5 ov o.out.length (secsC o.out)]
section
variable {w : World} {p : Nat} {m : TM} {y : RefX}
set_option maxRecDepth 100000 in
set_option maxHeartbeats 2000000 in
theorem sectionsR_out (h : RefAt w p m y) (id : Int) (ho : id < 0 ∨ (m.ts.length : Int) ≤ id) : Calls Tryz.prog 28 #[.pointer (some ⟨p, 0, none⟩), .int .i64 id] w fun e w' => e = .returned (.slice none 0 0) ∧ Keeps (fun _ => False) w w' := by
  obtain ⟨c0, c1, c2, cz⟩ := h.cells
  obtain ⟨ra, rc, euv⟩ := ref_ushape h
  rw [euv] at c1
  have hbu := begins_units h.tok.ok.begins
  have hsl : SlIn w (.slice ra m.units.length rc) m.units := by rw [← euv]; exact SlIn.own h.units (by omega)
  have HN := hid (rnew_any hsl hbu.1 hbu.2)
  have HT := hid (fun (w9 : World) (k9 : Keeps (fun _ => False) w w9) => stepsTR_out (h.keeps k9) id ho)
  clear h euv hsl hbu ho c0 c2
  go_enter Tryz.func28, Tryz.ntmps28
  go_wp2_with fail
  refine HN.out.mono ?_; rintro e w1 ⟨ub, rfl, hS⟩
  have K1 := hid hS.keeps
  clear hS HN
  go_wp2_with fail
  refine (HT.out w1 K1.out).mono ?_; rintro e w2 ⟨rfl, rfl⟩
  go_wp2_with fail
  go_loopw [9, 7] (fun y z wr => y = .int .i64 0 ∧ z = .slice none 0 0 ∧ w1 = wr) (fun _ _ _ => 0)
  case atStart => exact ⟨rfl, rfl, rfl⟩
  case round =>
    obtain ⟨rfl, rfl, rfl⟩ := hrel
    go_wp2_with fail
    go_ret
    exact ⟨rfl, K1.out⟩
set_option maxRecDepth 100000 in
set_option maxHeartbeats 8000000 in
theorem sectionsR_in (h : RefAt w p m y) {n : Nat} {t : Task} (ht : m.ts[n]? = some t) : Calls Tryz.prog 28 #[.pointer (some ⟨p, 0, none⟩), .int .i64 n] w fun e w' => ∃ v, e = .returned v ∧ St (fun _ => False) w [.row TS1 5 v (secsOf t).length (secsC (secsOf t))] w' := by
  obtain ⟨c0, c1, c2, cz⟩ := h.cells
  obtain ⟨ra, rc, euv⟩ := ref_ushape h
  rw [euv] at c1
  have hok := h.tok.ok
  have hmem := List.mem_of_getElem? ht
  have hbu := begins_units hok.begins
  have hsl : SlIn w (.slice ra m.units.length rc) m.units := by rw [← euv]; exact SlIn.own h.units (by omega)
  have HN := hid (rnew_any hsl hbu.1 hbu.2)
  have HT := hid (fun (w9 : World) (k9 : Keeps (fun _ => False) w w9) => stepsTR_in (h.keeps k9) ht)
  have hfit := hok.fit t hmem
  have hndb : ∀ r, needOf t.needs r ≤ 255 := fun r => (need_255 hok hmem r).2
  have hnda : ∀ r, 0 ≤ needOf t.needs r := fun r => (need_255 hok hmem r).1
  have hndu : ∀ r, needOf t.needs r = 0 ∨ (0 ≤ r ∧ r < m.units.length ∧ 1 ≤ needOf t.needs r ∧ needOf t.needs r ≤ m.units.getD r.toNat 0) := fun r => needs_of (hok.needs t hmem) r
  obtain ⟨Q, lo, hPe, h9, hno9, hst⟩ := Cm.program_sound hfit.code
  have hle : (prog t).1.length ≤ 4096 := Cm.prog_le _
  have ePQ : (prog t).1 = Q ++ [lo] := hPe
  have hPs : ∀ y ∈ (prog t).1, Cm.StepOk y := by rw [ePQ]; exact hst
  have hkind : ∀ (k : Nat) x, (prog t).1[k]? = some x → (x.kind = 9 ↔ k + 1 = (prog t).1.length) := by
    intro k x hx
    rw [ePQ] at hx ⊢
    rw [List.length_append, List.length_singleton]
    by_cases hk : k < Q.length
    · rw [List.getElem?_append_left hk] at hx
      have := hno9 x (List.mem_of_getElem? hx)
      exact ⟨fun e => absurd e this, fun e => by omega⟩
    · have hl := (List.getElem?_eq_some_iff.1 hx).1
      rw [List.length_append, List.length_singleton] at hl
      obtain rfl : k = Q.length := by omega
      rw [List.getElem?_append_right (Nat.le_refl _), Nat.sub_self] at hx
      simp only [List.getElem?_cons_zero, Option.some.injEq] at hx
      subst hx
      exact ⟨fun _ => rfl, fun _ => h9⟩
  have hpos : 0 < (prog t).1.length := by rw [ePQ, List.length_append, List.length_singleton]; omega
  have hneed : ∀ (w9 : World) (r : Int), Keeps (fun _ => False) w w9 → Calls Tryz.prog 89 #[.pointer (some ⟨p, 0, none⟩), .int .i64 n, .int .i64 r] w9 fun e w' => e = .returned (.int .i64 (needOf t.needs r)) ∧ w9 = w' := fun w9 r k => by
    have := needR_any (h.keeps k) n r
    rw [show Tm.need m.ts n r = needOf t.needs r by unfold Tm.need; rw [if_neg (by omega), Int.toNat_natCast, ht]] at this
    exact this
  have hall : secsOf t = sections (needOf t.needs) (prog t).1 := rfl
  rw [hall]
  have hok0 : (UM.mk m.units [] (List.replicate m.units.length 0)).Ok := start_ok hbu.1 hbu.2
  have hustart : UM.start m.units = umOf m.units (List.replicate m.units.length 0) (runK (needOf t.needs) (prog t).1 0) := rfl
  rw [hustart] at HN
  have hinv := fun (k : Nat) (hk : k ≤ (prog t).1.length) => runK_inv (nd := needOf t.needs) hPs hk
  have hokk := fun (k : Nat) (hk : k < (prog t).1.length) => runK_ok (us := m.units) (cs := List.replicate m.units.length 0) hPs hok0 hndu (k := k) (by omega) (fun j x hj hx e => by have := (hkind j x hx).1 e; omega)
  have hfinal := runK_all (nd := needOf t.needs) (l := (prog t).1)
  have hstep := fun (k : Nat) (x : Cm.Op) (hx : (prog t).1[k]? = some x) => runK_step (nd := needOf t.needs) hx
  generalize hPP : (prog t).1 = P at *
  generalize needOf t.needs = nd at *
  generalize sections nd P = FS at *
  have hul := hbu.1
  generalize List.replicate m.units.length (0 : Int) = cs at *
  generalize m.units = us at *
  have HNd := hid hneed
  have HPs := hid hPs
  have Hk := hid hkind
  have Hndb := hid hndb
  have Hnda := hid hnda
  have Hndu := hid hndu
  have Hinv := hid hinv
  have Hokk := hid hokk
  have Hfin := hid hfinal
  have Hstep := hid hstep
  clear h ht hok hmem hbu hsl hfit hPe h9 hno9 hst ePQ hPs hkind hneed hall hok0 hustart hinv hokk hfinal hstep hPP hndb hnda hndu euv c0 c2
  go_enter Tryz.func28, Tryz.ntmps28
  go_wp2_with fail
  refine HN.out.mono ?_; rintro e w1 ⟨ub, rfl, hA⟩
  have HA := hid hA
  clear hA HN
  go_wp2_with fail
  refine (HT.out w1 HA.out.keeps).mono ?_; rintro e w2 ⟨lv, rfl, hB⟩
  obtain ⟨la, lc, rfl, -⟩ := (hB.own 0).shape
  have hS := st_nilrow1 (st_nilvec (HA.out.adds hB) TI' 1) TS1 5
  simp only [Kw.red] at hS
  have HS := hid (show St (fun _ => False) w (runCs ub us cs P (.slice la P.length lc) (runK nd P 0) (.slice none 0 0) (.slice none 0 0)) w2 from hS)
  clear hS hB HA HT
  go_wp2_with fail
  go_loopw [9, 7, 8] (fun i ov pv wr => ∃ k : Nat, k ≤ P.length ∧ i = .int .i64 k ∧ Hid ((k < P.length ∧ St (fun _ => False) w (runCs ub us cs P (.slice la P.length lc) (runK nd P k) pv ov) wr) ∨ (k = P.length ∧ St (fun _ => False) w [.row TS1 5 ov FS.length (secsC FS)] wr))) (fun i _ _ _ => P.length - (intOf i).toNat)
  case atStart => exact ⟨0, Nat.zero_le _, rfl, hid (.inl ⟨hpos, HS.out⟩)⟩
  case round =>
    obtain ⟨k, hk, rfl, HR⟩ := hrel
    clear HS
    rcases HR.out with ⟨hlt, hR⟩ | ⟨hkl, hR⟩
    · have b0 : decide (k < P.length) = true := by simpa using hlt
      have hx := List.getElem?_eq_getElem hlt
      have hstp := Hstep.out k _ hx
      have hkd := Hk.out k _ hx
      have hso := HPs.out _ (List.getElem_mem hlt)
      have hI := Hinv.out k (by omega)
      have hO := Hokk.out k hlt
      generalize P[k] = x at *
      generalize runK nd P k = o at *
      unfold runCs at hR
      obtain ⟨pa, pc, rfl, hpc⟩ := (hR.vec 2).shape
      obtain ⟨oa, oc, rfl, -⟩ := (hR.own 3).shape
      obtain ⟨sg, scap, esg, -⟩ := (hR.own 1).form (by omega)
      cases esg
      obtain ⟨x0, x1, x2, x3⟩ := opsC_at hx
      have d0 := (hR.own 1).cells' (g := sg) rfl x0
      have d1 := (hR.own 1).cells' (g := sg) rfl x1
      have d2 := (hR.own 1).cells' (g := sg) rfl x2
      have d3 := (hR.own 1).cells' (g := sg) rfl x3
      have hS1 := hR.new TOp [.int .i64 x.kind, .int .i64 x.res, .int .i64 x.n, .int .i64 x.v]
      simp only [Kw.red] at hS1
      have HS1 := hid hS1
      have hfew := hI.few
      have hol := hI.opn_le
      have i0 : (0 : Int) ≤ (k : Int) := by omega
      have i1 : (k : Int) < (P.length : Int) := by omega
      have HI := hid hI
      have HO := hid hO
      have Hso := hid hso
      have Hstp := hid hstp
      have Hkd := hid hkd
      clear hx hstp hkd hso hI hO hR HR x0 x1 x2 x3 hS1
      go_upto_region 9 with fail
      generalize wr.heap.size = xb at *
      generalize (wr.alloc (.cells #[.int .i64 x.kind, .int .i64 x.res, .int .i64 x.n, .int .i64 x.v] TOp)) = w3 at *
      have q0 : w3.cell? ⟨xb, 0, none⟩ = some (.int .i64 x.kind) := (HS1.out.blk 4).cell 0
      have q1 : w3.cell? ⟨xb, 1, none⟩ = some (.int .i64 x.res) := (HS1.out.blk 4).cell 1
      have q2 : w3.cell? ⟨xb, 2, none⟩ = some (.int .i64 x.n) := (HS1.out.blk 4).cell 2
      have K3 := hid HS1.out.keeps
      clear d0 d1 d2 d3
      by_cases h1 : x.kind = 1
      · have b1 : (x.kind == 1) = true := by simpa using h1
        have hk1 : k + 1 < P.length := by
          by_cases e : k + 1 = P.length
          · have := Hkd.out.2 e; omega
          · omega
        obtain ⟨hlk, hheld⟩ := lock_iff HI.out HO.out Hndu.out Hso.out h1
        have Hlk := hid hlk
        have Hheld := hid hheld
        have Hh1 := hid h1
        clear hlk hheld h1
        go_upto_region 11 with fail
        refine wp_region_mix [true, true, true, true, true, true, true, true, true, false, false, false] 1 (fun _ => False) (by kernel_rfl) (by decide +kernel) ?_
        simp only [front, back, List.take_succ_cons, List.take_zero, List.drop_succ_cons, List.drop_zero]
        repeat ((first | refine wpFront_load rfl ?_ | refine wpFront_other rfl ?_); (first | go_big_quiet_step (fail) | quiet_step (fail)); refine wpQuiet_nil ?_)
        refine wpFront_nil ?_
        simp only [wpSegs]
        go_wp2_with fail
        refine (HNd.out _ x.res K3.out.drew).mono ?_; rintro e w4 ⟨rfl, rfl⟩
        go_wp2_with fail
        refine segQ_normal (Keeps.refl _ _).drew ?_
        have HS2 := hid HS1.out.drew
        obtain ⟨F1, g1, _, _, bk⟩ := HS2.out.sel [0]
        have g1' : Sts [r5C ub (umOf us cs o)] F1 w3.drew := g1
        have hL := rlock_any g1' 0 x.res x.n (nd x.res) (by unfold big; have := Hnda.out x.res; have := Hndb.out x.res; omega)
        by_cases hfit : o.heldOf x.res + x.n ≤ nd x.res
        · have he := Hlk.out.2 hfit
          rw [he, show (umOf us cs o).lock 0 x.res x.n (nd x.res) = umOf us cs (o.lock k x) by unfold UM.lock; rw [if_pos he]; unfold umOf; rw [toks_lock HI.out x]] at hL
          have HL := hid hL
          have hho : (umOf us cs (o.lock k x)).held 0 x.res = o.heldOf x.res + x.n := by
            have e1 : (umOf us cs (o.lock k x)).held 0 x.res = sumOf (ofBoth 0 x.res) (toks (o.lock k x)) := rfl
            rw [e1, toks_lock HI.out x, sumOf_app, ← Hheld.out]
            have e2 : sumOf (ofBoth 0 x.res) [(⟨0, x.res, x.n⟩ : Tkn)] = x.n := by simp [sumOf, ofBoth]
            rw [e2]; rfl
          have hnew : runK nd P (k + 1) = o.lock k x := by rw [Hstp.out]; unfold stepS; rw [if_pos Hh1.out, if_pos hfit]
          have Hnew := hid hnew
          have Hho := hid hho
          obtain ⟨HD, hHD⟩ : ∃ HD, o.heldOf x.res + x.n = HD := ⟨_, rfl⟩
          rw [hHD] at Hho
          have HHD := hid hHD
          clear hHD
          clear hL he g1 g1' hfit hho hnew HS1 q0 q1 q2 K3
          go_wp2_with fail
          refine HL.out.mono ?_; rintro e w5 ⟨rfl, hS⟩
          have hS := bk hS
          simp only [Kw.red] at hS
          have HS5 := hid hS
          clear hS bk HL HS2
          go_wp2_with fail
          refine NoPanic.normal ?_
          have HSa := hid (st_row0 HS5.out)
          have hva := hid (HSa.out.vec 2)
          go_upto_region 13 with (first | (at_builtin; refine wpList_appX 5 _ _ TIw TI' (.int .i64 0) 1 8 infoI Tryz.underlying22 rfl (by decide) rfl rfl HSa.out rfl rfl pa o.opn.length pc (intsC (opnI o.opn)) rfl (by rw [intsC_len, opnI_len, Nat.mul_one]) (vec_none hva.out) (vec_src hva.out) (intsC_one _) (by unfold maxLen; omega) (by omega) ?_; intro v5 w6 hS6 hat6; simp only [Kw.red] at hS6; rw [Nat.zero_add, List.nil_append] at hS6; obtain ⟨va, vc, rfl, hvc⟩ := (hS6.own 5).shape; have HS6 := hid hS6; clear hS6 hat6) | (at_builtin; refine wpList_appS 5 6 _ _ TIw TI' (.int .i64 0) 1 8 infoI Tryz.underlying22 rfl (by decide) rfl rfl (HS6.out.new TI' [.int .i64 o.out.length]) rfl rfl rfl rfl rfl (intsC_one [(o.out.length : Int)]) (by omega) (by unfold maxLen; omega) (by omega) ?_; intro g7 c7 w7 hS7 hat7; simp only [Kw.red] at hS7; have HS7 := hid hS7; clear hS7 hat7))
          have q0 : w7.cell? ⟨xb, 0, none⟩ = some (.int .i64 x.kind) := (HS7.out.blk 4).cell 0
          have q1 : w7.cell? ⟨xb, 1, none⟩ = some (.int .i64 x.res) := (HS7.out.blk 4).cell 1
          have q2 : w7.cell? ⟨xb, 2, none⟩ = some (.int .i64 x.n) := (HS7.out.blk 4).cell 2
          obtain ⟨uv5, tv5, hr5⟩ := r5_at 0 HS7.out.drew
          have hH := rheld_any hr5 0 x.res
          rw [Hho.out] at hH
          have HH := hid hH
          clear hr5 hH HS5 HSa hva HS6
          refine wp_region_mix [true, true, true, true, true, true, true, true, false, true, false, false, false, false] 3 (fun _ => False) (by kernel_rfl) (by decide +kernel) ?_
          simp only [front, back, List.take_succ_cons, List.take_zero, List.drop_succ_cons, List.drop_zero]
          repeat ((first | refine wpFront_load rfl ?_ | refine wpFront_other rfl ?_); (first | go_big_quiet_step (fail) | quiet_step (fail)); refine wpQuiet_nil ?_)
          refine wpFront_nil ?_
          simp only [wpSegs]
          go_wp2_with fail
          refine HH.out.mono ?_; rintro e w8 ⟨rfl, rfl⟩
          clear HH
          go_wp2_with fail
          refine segQ_normal (Keeps.refl _ _).drew ?_
          go_wp2_with fail
          refine segQ_normal (Keeps.refl _ _).drew ?_
          go_wp2_with fail
          refine segQ_normal ((Keeps.refl _ _).drew.alloc _) ?_
          have hS8 := HS7.out.drew.new TS1 [.int .i64 x.res, .int .i64 x.n, .int .i64 HD, .int .i64 k, .int .i64 0]
          simp only [Kw.red] at hS8
          have HS8 := hid hS8
          clear hS8 q0 q1 q2
          refine wpList_appS 3 7 _ _ TS1s TS1 (.agg #[.int .i64 0, .int .i64 0, .int .i64 0, .int .i64 0, .int .i64 0]) 5 40 infoS1 Tryz.underlying63 rfl (by decide) rfl rfl HS8.out rfl rfl rfl rfl rfl (secC_one ⟨x.res, x.n, HD, k, 0⟩) (by omega) (by unfold maxLen; omega) (by omega) ?_
          intro g9 c9 w9 hS9 hat9
          simp only [Kw.red] at hS9
          have h10 := hS9.imp 5 (c := .row TI' 1 (.slice (some ⟨g7, 0, none⟩) (o.opn.length + 1) c7) (o.opn.length + 1) (intsC (opnI o.opn) ++ [.int .i64 o.out.length])) (.vec TI' 1 (.slice (some ⟨g7, 0, none⟩) (o.opn.length + 1) c7) (o.opn.length + 1) (intsC (opnI o.opn) ++ [.int .i64 o.out.length])) (fun F h => ⟨Vec.of_own h.1, h.2⟩)
          simp only [Kw.red] at h10
          have h11 := h10.sub [0, 1, 5, 3]
          simp only [Kw.red] at h11
          have HF := hid (show St (fun _ => False) w (runCs ub us cs P (.slice (some ⟨sg, 0, none⟩) P.length lc) (o.lock k x) (.slice (some ⟨g7, 0, none⟩) (o.opn.length + 1) c7) (.slice (some ⟨g9, 0, none⟩) (o.out.length + 1) c9)) w9 from by
            have e1 : intsC (opnI (o.lock k x).opn) = intsC (opnI o.opn) ++ [.int .i64 o.out.length] := by
              rw [show (o.lock k x).opn = o.out.length :: o.opn from rfl, opnI_cons]
              simp [intsC]
            have e2 : secsC (o.lock k x).out = secsC o.out ++ [.int .i64 x.res, .int .i64 x.n, .int .i64 HD, .int .i64 k, .int .i64 0] := by
              rw [show (o.lock k x).out = o.out ++ [⟨x.res, x.n, o.heldOf x.res + x.n, k, 0⟩] from rfl, secsC_app, HHD.out]
              rfl
            have e3 : (o.lock k x).out.length = o.out.length + 1 := by rw [show (o.lock k x).out = o.out ++ [⟨x.res, x.n, o.heldOf x.res + x.n, k, 0⟩] from rfl]; simp
            unfold runCs
            rw [e1, e2, e3]
            exact h11)
          clear hS9 h10 h11 hat9 HS7 HS8
          go_wp2_with fail
          refine NoPanic.normal ?_
          go_wp2_with fail
          go_roundw
          case rel => exact ⟨k + 1, by omega, by go_num, hid (.inl ⟨hk1, by rw [Hnew.out]; exact HF.out⟩)⟩
          case measure => simp [intOf]; omega
        · have he : (umOf us cs o).lockErr 0 x.res x.n (nd x.res) ≠ 0 := fun e => hfit (Hlk.out.1 e)
          rw [show (umOf us cs o).lock 0 x.res x.n (nd x.res) = umOf us cs o by unfold UM.lock; rw [if_neg he]] at hL
          have HL := hid hL
          obtain ⟨E, hE⟩ : ∃ E, (umOf us cs o).lockErr 0 x.res x.n (nd x.res) = E := ⟨_, rfl⟩
          rw [hE] at HL he
          have b2 : (E == 0) = false := by simpa using he
          have hnew : runK nd P (k + 1) = o := by rw [Hstp.out]; unfold stepS; rw [if_pos Hh1.out, if_neg hfit]
          have Hnew := hid hnew
          clear hL he hE g1 g1' hfit hnew HS1 q0 q1 q2 K3
          go_wp2_with fail
          refine HL.out.mono ?_; rintro e w5 ⟨rfl, hS⟩
          have hS := bk hS
          simp only [Kw.red] at hS
          have HS5 := hid (hS.sub [0, 1, 2, 3])
          clear hS bk HL HS2
          go_wp2_with fail
          refine NoPanic.normal ?_
          go_wp2_with fail
          go_roundw
          case rel => exact ⟨k + 1, by omega, by go_num, hid (.inl ⟨hk1, by rw [Hnew.out]; exact HS5.out⟩)⟩
          case measure => simp [intOf]; omega
      have b1 : (x.kind == 1) = false := by simpa using h1
      by_cases h2 : x.kind = 2
      · have b2 : (x.kind == 2) = true := by simpa using h2
        have hk1 : k + 1 < P.length := by
          by_cases e : k + 1 = P.length
          · have := Hkd.out.2 e; omega
          · omega
        obtain ⟨hU1, hU2⟩ := unlock_iff HI.out HO.out x.res
        obtain ⟨F1, g1, _, _, bk⟩ := HS1.out.sel [0]
        have g1' : Sts [r5C ub (umOf us cs o)] F1 w3 := g1
        have hL := runlock_any g1' 0 x.res
        have hnew : runK nd P (k + 1) = if o.isTop x.res then o.endOne k else o := by rw [Hstp.out]; unfold stepS; rw [if_neg h1, if_pos h2]
        clear g1 g1' K3
        cases hT : o.isTop x.res with
        | false =>
          obtain ⟨he, hm2⟩ := hU2 hT
          rw [hm2] at hL
          obtain ⟨U1, hU⟩ : ∃ U1, ((umOf us cs o).unlock 0 x.res).1.1 = U1 := ⟨_, rfl⟩
          obtain ⟨E, hE⟩ : ∃ E, ((umOf us cs o).unlock 0 x.res).1.2 = E := ⟨_, rfl⟩
          rw [hU, hE] at hL
          rw [hE] at he
          have b3 : (E == 0) = false := by simpa using he
          rw [hT] at hnew
          have Hnew := hid (show runK nd P (k + 1) = o from hnew)
          have HL := hid hL
          clear hU1 hU2 hT he hm2 hL hU hE hnew h1 h2
          go_wp2_with fail
          refine HL.out.mono ?_; rintro e w5 ⟨rfl, hS⟩
          have hS := bk hS
          simp only [Kw.red] at hS
          have HS5 := hid (hS.sub [0, 1, 2, 3])
          clear hS bk HL HS1 q0 q1 q2
          go_wp2_with fail
          go_roundw
          case rel => exact ⟨k + 1, by omega, by go_num, hid (.inl ⟨hk1, by rw [Hnew.out]; exact HS5.out⟩)⟩
          case measure => simp [intOf]; omega
        | true =>
          obtain ⟨he, hm2⟩ := hU1 hT
          rw [hm2 k] at hL
          obtain ⟨U1, hU⟩ : ∃ U1, ((umOf us cs o).unlock 0 x.res).1.1 = U1 := ⟨_, rfl⟩
          rw [hU, he] at hL
          rw [hT] at hnew
          have Hnew := hid (show runK nd P (k + 1) = o.endOne k from hnew)
          have HL := hid hL
          obtain ⟨kk, r, hop⟩ : ∃ kk r, o.opn = kk :: r := by
            unfold OW.isTop at hT
            cases hq : o.opn with
            | nil => rw [hq] at hT; cases hT
            | cons kk r => exact ⟨kk, r, rfl⟩
          have hkl : kk < o.out.length := HI.out.lt kk (by rw [hop]; simp)
          have hsec := sec_at hkl
          have hend : o.endOne k = ⟨o.held.set (o.sec kk).res.toNat (o.heldOf (o.sec kk).res - (o.sec kk).units), r, o.out.set kk { o.sec kk with upto := k }⟩ := by unfold OW.endOne; rw [hop]
          have hlen : o.opn.length = r.length + 1 := by rw [hop]; rfl
          have hset := secsC_set hsec k
          have htop : (intsC (opnI o.opn))[r.length]? = some (.int .i64 kk) := by rw [hop]; exact intsC_at (opnI_top kk r)
          have htk : (intsC (opnI o.opn)).take r.length = intsC (opnI r) := by rw [hop, intsC_take, opnI_take]
          have Hend := hid hend
          have Hset := hid hset
          have Htop := hid htop
          have Htk := hid htk
          have Hlen := hid hlen
          rw [hlen] at HS1 bk hpc hol
          clear hU1 hU2 hT he hm2 hL hU hnew h1 h2 hsec hend hset htop htk
          go_wp2_with fail
          refine HL.out.mono ?_; rintro e w5 ⟨rfl, hS⟩
          have hS := bk hS
          simp only [Kw.red] at hS
          obtain ⟨og, ocp, e9, -, hcap⟩ := (hS.vec 2).form (by omega)
          cases e9
          obtain ⟨gs, gcp, e9, -⟩ := (hS.own 3).form (by omega)
          cases e9
          have p0 := (hS.vec 2).cells' (g := og) rfl Htop.out
          have z0 := (hS.own 3).fz (g := gs) rfl (kk * 5 + 4)
          obtain ⟨-, -, -, -, e4⟩ := secsC_at (sec_at hkl)
          have s4 := (hS.own 3).cells' (g := gs) rfl e4
          have HS5 := hid hS
          clear hS bk HL HS1 q0 q1 q2 e4
          have j0 : (0 : Int) ≤ (r.length : Int) := by omega
          have j1 : (r.length : Int) < (r.length : Int) + 1 := by omega
          have j2 : (0 : Int) ≤ (kk : Int) := by omega
          have j3 : (kk : Int) < (o.out.length : Int) := by omega
          have j4 : (r.length : Int) ≤ (pc : Int) := by omega
          have hS6 := st_setRowN 3 HS5.out (v := .slice (some ⟨gs, 0, none⟩) o.out.length oc) rfl (kk * 5 + 4) (.int .i64 k)
          simp only [Kw.red] at hS6
          rw [Hset.out] at hS6
          have h7 := hS6.imp 2 (c := .vec TI' 1 (.slice (some ⟨og, 0, none⟩) (r.length + 1) pc) (r.length + 1) (intsC (opnI o.opn))) (.vec TI' 1 (.slice (some ⟨og, 0, none⟩) r.length r.length) r.length (intsC (opnI r))) (fun F h => ⟨by
            have := h.1.cut3 r.length (by omega)
            rwa [Nat.mul_one, Htk.out] at this, h.2⟩)
          simp only [Kw.red] at h7
          have HF := hid (show St (fun _ => False) w (runCs ub us cs P (.slice (some ⟨sg, 0, none⟩) P.length lc) (o.endOne k) (.slice (some ⟨og, 0, none⟩) r.length r.length) (.slice (some ⟨gs, 0, none⟩) o.out.length oc)) _ from by
            have e1 : (o.endOne k).opn = r := by rw [Hend.out]
            have e2 : (o.endOne k).out = o.out.set kk { o.sec kk with upto := k } := by rw [Hend.out]
            have e3 : (o.endOne k).out.length = o.out.length := by rw [e2, List.length_set]
            unfold runCs
            rw [e1, e3, e2]
            exact h7.sub [0, 1, 2, 3])
          clear hS6 h7
          go_wp2_with fail
          go_roundw
          case rel => exact ⟨k + 1, by omega, by go_num, hid (.inl ⟨hk1, by rw [Hnew.out]; exact HF.out⟩)⟩
          case measure => simp [intOf]; omega
      have b2 : (x.kind == 2) = false := by simpa using h2
      by_cases h9 : x.kind = 9
      · have b3 : (x.kind == 9) = true := by simpa using h9
        have hke : k + 1 = P.length := Hkd.out.1 h9
        have hnew : runK nd P (k + 1) = ends k o.opn.length o := by rw [Hstp.out]; unfold stepS; rw [if_neg h1, if_neg h2, if_pos h9]
        have hfs : FS = shutAll k o.opn.reverse o.out := by rw [← Hfin.out, ← hke, hnew, ends_all]
        have Hfs := hid hfs
        have Hlt := hid HI.out.lt
        have HS2 := hid (HS1.out.sub [1, 2, 3])
        clear h1 h2 h9 hnew hfs HS1 q1 q2 K3
        go_upto_region 20 with fail
        clear q0
        go_wp2_with fail
        go_loopw [13] (fun jv wy => ∃ j : Nat, j ≤ o.opn.length ∧ jv = .int .i64 j ∧ Hid (St (fun _ => False) w [.row TOp 4 (.slice (some ⟨sg, 0, none⟩) P.length lc) P.length (opsC P), .vec TI' 1 (.slice pa o.opn.length pc) o.opn.length (intsC (opnI o.opn)), .row TS1 5 (.slice oa o.out.length oc) o.out.length (secsC (shutAll k (o.opn.reverse.take j) o.out))] wy)) (fun jv _ => o.opn.length - (intOf jv).toNat)
        case atStart => exact ⟨0, Nat.zero_le _, rfl, hid HS2.out⟩
        case round =>
          clear HS2
          obtain ⟨j, hj, rfl, HS⟩ := hrel
          by_cases hjl : j < o.opn.length
          · have n0 : decide (j < o.opn.length) = true := decide_eq_true hjl
            have hjr : j < o.opn.reverse.length := by rw [List.length_reverse]; exact hjl
            have hat := List.getElem?_eq_getElem hjr
            have hkl := Hlt.out _ (List.mem_reverse.1 (List.getElem_mem hjr))
            have htop : (intsC (opnI o.opn))[j]? = some (.int .i64 (o.opn.reverse[j] : Nat)) := intsC_at (by unfold opnI; rw [List.getElem?_map, hat]; rfl)
            generalize o.opn.reverse[j] = kk at *
            have htk : o.opn.reverse.take (j + 1) = o.opn.reverse.take j ++ [kk] := by rw [List.take_add_one, hat]; rfl
            have hlen1 := shutAll_len k (o.opn.reverse.take j) o.out
            have hsh : shutAll k (o.opn.reverse.take (j + 1)) o.out = (shutAll k (o.opn.reverse.take j) o.out).set kk { (shutAll k (o.opn.reverse.take j) o.out).getD kk default with upto := k } := by rw [htk, shutAll_app]
            have hS := HS.out
            generalize shutAll k (o.opn.reverse.take j) o.out = SA at *
            have hsec : SA[kk]? = some (SA.getD kk default) := by
              rw [List.getD_eq_getElem?_getD, List.getElem?_eq_getElem (by omega)]; rfl
            have hset := secsC_set hsec k
            obtain ⟨og, ocp, e9, -, hcap⟩ := (hS.vec 1).form (by omega)
            cases e9
            obtain ⟨gs, gcp, e9, -⟩ := (hS.own 2).form (by omega)
            cases e9
            have p0 := (hS.vec 1).cells' (g := og) rfl htop
            have z0 := (hS.own 2).fz (g := gs) rfl (kk * 5 + 4)
            obtain ⟨-, -, -, -, e4⟩ := secsC_at hsec
            have s4 := (hS.own 2).cells' (g := gs) rfl e4
            have hS6 := st_setRowN 2 hS (v := .slice (some ⟨gs, 0, none⟩) o.out.length oc) rfl (kk * 5 + 4) (.int .i64 k)
            simp only [Kw.red] at hS6
            rw [hset, ← hsh] at hS6
            have HF := hid hS6
            clear hS6 hS HS hsec hset hsh htk hlen1 hat hjr htop e4
            have j0 : (0 : Int) ≤ (j : Int) := by omega
            have j1 : (j : Int) < (o.opn.length : Int) := by omega
            have j2 : (0 : Int) ≤ (kk : Int) := by omega
            have j3 : (kk : Int) < (o.out.length : Int) := by omega
            go_wp2_with fail
            go_roundw
            case rel => exact ⟨j + 1, by omega, by go_num, hid HF.out⟩
            case measure => simp [intOf]; omega
          · have n0 : decide (j < o.opn.length) = false := decide_eq_false hjl
            have hjj : j = o.opn.length := by omega
            subst hjj
            have hS := HS.out
            rw [List.take_of_length_le (by rw [List.length_reverse]; exact Nat.le_refl _), ← Hfs.out] at hS
            have hlf : FS.length = o.out.length := by rw [Hfs.out, shutAll_len]
            have hS := hS.sub [2]
            have HF := hid (show St (fun _ => False) w [.row TS1 5 (.slice oa o.out.length oc) FS.length (secsC FS)] _ from by rw [hlf]; exact hS)
            clear hS HS hlf
            go_wp2_with fail
            go_roundw
            case rel => exact ⟨k + 1, by omega, by go_num, hid (.inr ⟨hke, HF.out⟩)⟩
            case measure => simp [intOf]; omega
      · have b3 : (x.kind == 9) = false := by simpa using h9
        have hk1 : k + 1 < P.length := by
          by_cases e : k + 1 = P.length
          · exact absurd (Hkd.out.2 e) h9
          · omega
        have hnew : runK nd P (k + 1) = o := by rw [Hstp.out]; unfold stepS; rw [if_neg h1, if_neg h2, if_neg h9]
        have HF := hid (HS1.out.sub [0, 1, 2, 3])
        clear h1 h2 h9
        go_wp2_with fail
        go_roundw
        case rel => exact ⟨k + 1, by omega, by go_num, hid (.inl ⟨hk1, by rw [hnew]; exact HF.out⟩)⟩
        case measure => simp [intOf]; omega
    · have b0 : decide (k < P.length) = false := by simp; omega
      obtain ⟨oa, oc, rfl, -⟩ := (hR.own 0).shape
      have HF := hid hR
      clear hR HR hkl
      go_wp2_with fail
      go_ret
      exact ⟨_, rfl, HF.out⟩
end
end Go.Proofs.YtnkjjhenfhnajaaGreatDoor

/-
  keelref11.Term, Longest, Greatest, walked.
-/
namespace Go.Proofs.YtnkjjhenfhnajaaGreatDoor
open Go.RowKit Go.Kw Go.Kreg Go.Tm Go.Ad Go.Um
set_option linter.unusedSimpArgs false
set_option linter.unusedVariables false

/-- The lower sections seen when k of task j's are. -/
def accL (lev : Int) (ts : List Task) (t : Task) (j k : Nat) : List (Nat × Sec) := if t.level < lev then lowsTo lev ts j ++ ((secsOf t).take k).map (Prod.mk j) else lowsTo lev ts j
theorem accL_0 (lev : Int) (ts : List Task) (t : Task) (j : Nat) : accL lev ts t j 0 = lowsTo lev ts j := by
  unfold accL; split <;> simp
theorem accL_step {lev : Int} {ts : List Task} {t : Task} {j k : Nat} {s : Sec} (hs : (secsOf t)[k]? = some s) : accL lev ts t j (k + 1) = if t.level < lev then accL lev ts t j k ++ [(j, s)] else accL lev ts t j k := by
  unfold accL
  split
  · rw [map_take_snoc hs, List.append_assoc]
  · rfl
theorem accL_all {lev : Int} {ts : List Task} {t : Task} {j : Nat} (ht : ts[j]? = some t) : accL lev ts t j (secsOf t).length = lowsTo lev ts (j + 1) := by
  unfold accL
  rw [lowsTo_snoc ht, List.take_length]
theorem lev_ref {m : TM} (hm : m.Ok) (id : Int) : (levAt m.ts id).getD 0 = levI m.ts id := by
  unfold levAt levI taskI
  split
  · rfl
  · cases m.ts[id.toNat]? <;> rfl
theorem lows_ref {m : TM} (hm : m.Ok) (id : Int) : lowsId m.ts id = lowsTo (levI m.ts id) m.ts m.ts.length := by
  have h := lev_ref hm id
  unfold lowsId
  cases e : levAt m.ts id with
  | some l => rw [e] at h; rw [← h]; rfl
  | none =>
    rw [e] at h
    rw [← h]
    exact (lows_nil (m := m) (lev := 0) (fun t ht => by have := (hm.fit t ht).lev.1; omega)).symm
theorem secs_few {m : TM} (hm : m.Ok) {j : Nat} {t : Task} (ht : m.ts[j]? = some t) : (secsOf t).length ≤ 4096 := by
  have h := (secs_ok (hm.fit t (List.mem_of_getElem? ht))).few
  have h4 : (prog t).1.length ≤ 4096 := Cm.prog_le t.code.data.toList
  omega
section
variable {w : World} {p : Nat} {m : TM} {y : RefX}
set_option maxRecDepth 100000 in
set_option maxHeartbeats 8000000 in
theorem termR_any (h : RefAt w p m y) (id : Int) : Calls Tryz.prog 35 #[.pointer (some ⟨p, 0, none⟩), .int .i64 id] w fun e w' => e = .returned (.int .i64 (term m id)) ∧ Keeps (fun _ => False) w w' := by
  have hm := h.tok.ok
  rw [term_eq, lev_ref hm, lows_ref hm]
  have hlen := h.few
  obtain ⟨lev, hlev⟩ : ∃ lev, levI m.ts id = lev := ⟨_, rfl⟩
  rw [hlev]
  have H := hid h
  have HL := hid (fun (w9 : World) (k9 : Keeps (fun _ => False) w w9) => by have := levelR_any (h.keeps k9) id; rwa [hlev] at this)
  clear h hlev
  go_enter Tryz.func35, Tryz.ntmps35
  go_wp2_with fail
  go_loopw [5, 6] (fun b i wr => ∃ j : Nat, j ≤ m.ts.length ∧ i = .int .i64 j ∧ b = .int .i64 (gmax (termP m lev) lenP (lowsTo lev m.ts j)) ∧ Hid (Keeps (fun _ => False) w wr)) (fun _ i _ => m.ts.length - (intOf i).toNat)
  case atStart => exact ⟨0, Nat.zero_le _, rfl, rfl, hid (Keeps.refl _ _)⟩
  case round =>
    obtain ⟨j, hj, rfl, rfl, HK⟩ := hrel
    have hR := H.out.keeps HK.out
    obtain ⟨c0, c1, c2, cz⟩ := hR.cells
    obtain ⟨ta, tc, etv⟩ := ref_shape hR
    rw [etv] at c2
    by_cases hlt : j < m.ts.length
    · have b0 : decide (j < m.ts.length) = true := decide_eq_true hlt
      have ht := List.getElem?_eq_getElem hlt
      generalize m.ts[j] = t at ht
      obtain ⟨g, cap, na, nc, e, ⟨d0, d1, d2, d3, d4, d5, d6, d7⟩, hown⟩ := ref_task hR ht
      rw [etv] at e
      cases e
      have Ht := hid ht
      have hsf := secs_few hm ht
      have HLw := hid (fun u => HL.out (wr.drewN u) (HK.out.drewN u))
      have HSec := hid (fun u => sectionsR_in (hR.keeps ((Keeps.refl _ _).drewN u)) ht)
      have i0 : (0 : Int) ≤ (j : Int) := by omega
      have i1 : (j : Int) < (m.ts.length : Int) := by omega
      have hlow := accL_all (lev := lev) ht
      have hac0 := accL_0 lev m.ts t j
      by_cases hl : t.level < lev
      · have b1 : decide (lev ≤ t.level) = false := decide_eq_false (by omega)
        have hacs := fun (k : Nat) (s : Sec) (hs : (secsOf t)[k]? = some s) => accL_step (lev := lev) (ts := m.ts) (j := j) hs
        simp only [if_pos hl] at hacs
        rw [← hac0]
        have Hlow := hid hlow
        have Hacs := hid hacs
        clear hR etv hown ht hl hlow hacs hac0
        go_upto_region 5 with fail
        go_quiet (exact (HLw.out _).mono fun e w' h => ⟨h.1, _, h.2.symm⟩)
        go_wp2_with fail
        refine (HSec.out _).mono ?_; rintro e w2 ⟨v, rfl, hS⟩
        have hS := ((St.start w).step (HK.out.drewN _)).adds hS
        simp only [Kw.red] at hS
        obtain ⟨la, lc, rfl, -⟩ := (hS.own 0).shape
        have HS := hid hS
        clear hS HSec HLw d0 d1 d2 d3 d4 d5 d6 d7 c0 c1 c2 cz HK
        go_wp2_with fail
        go_loopw [5, 8] (fun b i wy => ∃ k : Nat, k ≤ (secsOf t).length ∧ i = .int .i64 k ∧ b = .int .i64 (gmax (termP m lev) lenP (accL lev m.ts t j k)) ∧ Hid (St (fun _ => False) w [.row TS1 5 (.slice la (secsOf t).length lc) (secsOf t).length (secsC (secsOf t))] wy)) (fun _ i _ => (secsOf t).length - (intOf i).toNat)
        case atStart => exact ⟨0, Nat.zero_le _, rfl, rfl, hid HS.out⟩
        case round =>
          clear HS
          obtain ⟨k, hk, rfl, rfl, HS⟩ := hrel
          have hS := HS.out
          by_cases hkl : k < (secsOf t).length
          · have n0 : decide (k < (secsOf t).length) = true := decide_eq_true hkl
            have hs := List.getElem?_eq_getElem hkl
            have hsm := List.getElem_mem hkl
            generalize (secsOf t)[k] = s at hs hsm
            have hq : gmax (termP m lev) lenP (accL lev m.ts t j (k + 1)) = if termP m lev (j, s) then max (gmax (termP m lev) lenP (accL lev m.ts t j k)) (lenP (j, s)) else gmax (termP m lev) lenP (accL lev m.ts t j k) := by rw [Hacs.out k s hs, gmax_app]
            obtain ⟨hb1, hb2⟩ := lenP_bd hm Ht.out hsm
            generalize gmax (termP m lev) lenP (accL lev m.ts t j k) = N at *
            have hP : termP m lev (j, s) = decide (lev ≤ m.ceilAt s.res 0) := rfl
            have hLn : lenP (j, s) = (s.upto : Int) - s.frm := rfl
            rw [hP, hLn] at hq
            obtain ⟨gs, gcp, e9, -⟩ := (hS.own 0).form (by omega)
            cases e9
            obtain ⟨e0, e1, e2, e3, e4⟩ := secsC_at hs
            have s0 := (hS.own 0).cells' (g := gs) rfl e0
            have s3 := (hS.own 0).cells' (g := gs) rfl e3
            have s4 := (hS.own 0).cells' (g := gs) rfl e4
            have hRy := H.out.keeps hS.keeps
            have HC := hid (fun u => atR_any (hRy.keeps ((Keeps.refl _ _).drewN u)) s.res 0)
            have HLy := hid (fun u => HL.out (wr.drewN u) (hS.keeps.drewN u))
            have hw : IntKind.i64.wrap ((s.upto : Int) - s.frm) = (s.upto : Int) - s.frm := IntWalk.i64_in _ (by omega)
            generalize m.ceilAt s.res 0 = C at *
            have j0 : (0 : Int) ≤ (k : Int) := by omega
            have j1 : (k : Int) < ((secsOf t).length : Int) := by omega
            clear hS hs hsm hP hLn e0 e1 e2 e3 e4 hRy
            by_cases hc : lev ≤ C
            · have n1 : decide (lev ≤ C) = true := decide_eq_true hc
              rw [n1, if_pos rfl] at hq
              by_cases hb : N < (s.upto : Int) - s.frm
              · have n2 : decide (N < (s.upto : Int) - s.frm) = true := decide_eq_true hb
                have hq2 : gmax (termP m lev) lenP (accL lev m.ts t j (k + 1)) = (s.upto : Int) - s.frm := by omega
                have Hq := hid hq2
                clear hq hq2 hb hc
                go_upto_region 10 with fail
                go_quiet (first | exact (HC.out _).mono fun e w' h => ⟨h.1, _, h.2.symm⟩ | exact (HLy.out _).mono fun e w' h => ⟨h.1, _, h.2.symm⟩)
                go_upto_region 11 with fail
                refine wp_region_keep (by kernel_rfl) (by kernel_rfl) ?_
                repeat (first | go_big_quiet_skip | ((first | refine wpKeep_load rfl ?_ | refine wpKeep_other rfl ?_); (first | go_big_quiet_step (fail) | quiet_step (fail)); refine wpQuiet_nil ?_; refine Shut.mk ?_) | (refine wpQuiet_step (fun K hK => ?_); go_simp; first | (refine hK _ ?_; clear hK K) | (apply Exists.intro; refine ⟨fun w9 k9 => ?_, hK _ ?_⟩; (fail); clear hK K)))
                refine wpQuiet_nil ?_
                intro w9 k9
                go_wp2_with fail
                go_roundw
                case rel => exact ⟨k + 1, by omega, by go_num, by rw [Hq.out], hid ((HS.out.drewN _).step k9)⟩
                case measure => simp [intOf]; omega
              · have n2 : decide (N < (s.upto : Int) - s.frm) = false := decide_eq_false hb
                have hq2 : gmax (termP m lev) lenP (accL lev m.ts t j (k + 1)) = N := by omega
                have Hq := hid hq2
                clear hq hq2 hb hc
                go_upto_region 10 with fail
                go_quiet (first | exact (HC.out _).mono fun e w' h => ⟨h.1, _, h.2.symm⟩ | exact (HLy.out _).mono fun e w' h => ⟨h.1, _, h.2.symm⟩)
                go_wp2_with fail
                go_roundw
                case rel => exact ⟨k + 1, by omega, by go_num, by rw [Hq.out], hid (HS.out.drewN _)⟩
                case measure => simp [intOf]; omega
            · have n1 : decide (lev ≤ C) = false := decide_eq_false hc
              rw [n1] at hq
              have hq2 : gmax (termP m lev) lenP (accL lev m.ts t j (k + 1)) = N := hq
              have Hq := hid hq2
              clear hq hq2 hc
              go_upto_region 10 with fail
              go_quiet (first | exact (HC.out _).mono fun e w' h => ⟨h.1, _, h.2.symm⟩ | exact (HLy.out _).mono fun e w' h => ⟨h.1, _, h.2.symm⟩)
              go_wp2_with fail
              go_roundw
              case rel => exact ⟨k + 1, by omega, by go_num, by rw [Hq.out], hid (HS.out.drewN _)⟩
              case measure => simp [intOf]; omega
          · have n0 : decide (k < (secsOf t).length) = false := decide_eq_false hkl
            have hkk : k = (secsOf t).length := by omega
            subst hkk
            rw [Hlow.out]
            have KS := hid hS.keeps
            clear hS HS
            go_wp2_with fail
            go_roundw
            case rel => exact ⟨j + 1, by omega, by go_num, rfl, KS⟩
            case measure => simp [intOf]; omega
      · have b1 : decide (lev ≤ t.level) = true := decide_eq_true (by omega)
        have hlo : lowsTo lev m.ts (j + 1) = lowsTo lev m.ts j := by rw [lowsTo_snoc ht, if_neg hl]
        rw [← hlo]
        clear hR etv hown ht hl hlow hac0 hlo
        go_upto_region 5 with fail
        go_quiet (exact (HLw.out _).mono fun e w' h => ⟨h.1, _, h.2.symm⟩)
        go_wp2_with fail
        go_roundw
        case rel => exact ⟨j + 1, by omega, by go_num, rfl, hid (HK.out.drewN _)⟩
        case measure => simp [intOf]; omega
    · have b0 : decide (j < m.ts.length) = false := decide_eq_false hlt
      have hjj : j = m.ts.length := by omega
      subst hjj
      clear hR etv
      go_wp2_with fail
      go_ret
      exact ⟨rfl, HK.out⟩
set_option maxRecDepth 100000 in
set_option maxHeartbeats 8000000 in
theorem longestR_any (h : RefAt w p m y) (id : Int) : Calls Tryz.prog 37 #[.pointer (some ⟨p, 0, none⟩), .int .i64 id] w fun e w' => e = .returned (.int .i64 (longest m id)) ∧ Keeps (fun _ => False) w w' := by
  have hm := h.tok.ok
  rw [long_eq, lows_ref hm]
  have hlen := h.few
  obtain ⟨lev, hlev⟩ : ∃ lev, levI m.ts id = lev := ⟨_, rfl⟩
  rw [hlev]
  have H := hid h
  have HL := hid (fun (w9 : World) (k9 : Keeps (fun _ => False) w w9) => by have := levelR_any (h.keeps k9) id; rwa [hlev] at this)
  clear h hlev
  go_enter Tryz.func37, Tryz.ntmps37
  go_wp2_with fail
  go_loopw [5, 6] (fun b i wr => ∃ j : Nat, j ≤ m.ts.length ∧ i = .int .i64 j ∧ b = .int .i64 (gmax (fun _ => true) lenP (lowsTo lev m.ts j)) ∧ Hid (Keeps (fun _ => False) w wr)) (fun _ i _ => m.ts.length - (intOf i).toNat)
  case atStart => exact ⟨0, Nat.zero_le _, rfl, rfl, hid (Keeps.refl _ _)⟩
  case round =>
    obtain ⟨j, hj, rfl, rfl, HK⟩ := hrel
    have hR := H.out.keeps HK.out
    obtain ⟨c0, c1, c2, cz⟩ := hR.cells
    obtain ⟨ta, tc, etv⟩ := ref_shape hR
    rw [etv] at c2
    by_cases hlt : j < m.ts.length
    · have b0 : decide (j < m.ts.length) = true := decide_eq_true hlt
      have ht := List.getElem?_eq_getElem hlt
      generalize m.ts[j] = t at ht
      have Ht := hid ht
      have hsf := secs_few hm ht
      have HSec := hid (sectionsR_in hR ht)
      have i0 : (0 : Int) ≤ (j : Int) := by omega
      have i1 : (j : Int) < (m.ts.length : Int) := by omega
      have hlow := accL_all (lev := lev) ht
      have hac0 := accL_0 lev m.ts t j
      have hacs := fun (k : Nat) (s : Sec) (hs : (secsOf t)[k]? = some s) => accL_step (lev := lev) (ts := m.ts) (j := j) hs
      rw [← hac0]
      have Hlow := hid hlow
      have Hacs := hid hacs
      have Etv := hid etv
      clear hR etv ht hlow hacs hac0
      go_wp2_with fail
      refine HSec.out.mono ?_; rintro e w2 ⟨v, rfl, hS⟩
      have hS := ((St.start w).step HK.out).adds hS
      simp only [Kw.red] at hS
      obtain ⟨la, lc, rfl, -⟩ := (hS.own 0).shape
      have HS := hid hS
      clear hS HSec c0 c1 c2 cz HK
      go_wp2_with fail
      go_loopw [5, 8] (fun b i wy => ∃ k : Nat, k ≤ (secsOf t).length ∧ i = .int .i64 k ∧ b = .int .i64 (gmax (fun _ => true) lenP (accL lev m.ts t j k)) ∧ Hid (St (fun _ => False) w [.row TS1 5 (.slice la (secsOf t).length lc) (secsOf t).length (secsC (secsOf t))] wy)) (fun _ i _ => (secsOf t).length - (intOf i).toNat)
      case atStart => exact ⟨0, Nat.zero_le _, rfl, rfl, hid HS.out⟩
      case round =>
        clear HS
        obtain ⟨k, hk, rfl, rfl, HS⟩ := hrel
        have hS := HS.out
        by_cases hkl : k < (secsOf t).length
        · have n0 : decide (k < (secsOf t).length) = true := decide_eq_true hkl
          have hs := List.getElem?_eq_getElem hkl
          have hsm := List.getElem_mem hkl
          generalize (secsOf t)[k] = s at hs hsm
          have hq := Hacs.out k s hs
          obtain ⟨hb1, hb2⟩ := lenP_bd hm Ht.out hsm
          have hLn : lenP (j, s) = (s.upto : Int) - s.frm := rfl
          have hga : gmax (fun _ => true) lenP (accL lev m.ts t j k ++ [(j, s)]) = max (gmax (fun _ => true) lenP (accL lev m.ts t j k)) ((s.upto : Int) - s.frm) := by rw [gmax_app]; rfl
          obtain ⟨gs, gcp, e9, -⟩ := (hS.own 0).form (by omega)
          cases e9
          obtain ⟨e0, e1, e2, e3, e4⟩ := secsC_at hs
          have s0 := (hS.own 0).cells' (g := gs) rfl e0
          have s3 := (hS.own 0).cells' (g := gs) rfl e3
          have s4 := (hS.own 0).cells' (g := gs) rfl e4
          have hRy := H.out.keeps hS.keeps
          obtain ⟨c0, c1, c2, cz⟩ := hRy.cells
          rw [Etv.out] at c2
          obtain ⟨g, cap, na, nc, e, ⟨d0, d1, d2, d3, d4, d5, d6, d7⟩, hown⟩ := ref_task hRy Ht.out
          rw [Etv.out] at e
          cases e
          have HLy := hid (fun u => HL.out (wr.drewN u) (hS.keeps.drewN u))
          have hw : IntKind.i64.wrap ((s.upto : Int) - s.frm) = (s.upto : Int) - s.frm := IntWalk.i64_in _ (by omega)
          have j0 : (0 : Int) ≤ (k : Int) := by omega
          have j1 : (k : Int) < ((secsOf t).length : Int) := by omega
          clear hS hs hsm hLn e0 e1 e2 e3 e4 hRy hown
          by_cases hc : t.level < lev
          · have n1 : decide (t.level < lev) = true := decide_eq_true hc
            rw [if_pos hc] at hq
            rw [← hq] at hga
            generalize gmax (fun _ => true) lenP (accL lev m.ts t j k) = N at *
            by_cases hb : N < (s.upto : Int) - s.frm
            · have n2 : decide (N < (s.upto : Int) - s.frm) = true := decide_eq_true hb
              have hq2 : gmax (fun _ => true) lenP (accL lev m.ts t j (k + 1)) = (s.upto : Int) - s.frm := by omega
              have Hq := hid hq2
              clear hq hq2 hga hb hc
              go_upto_region 9 with fail
              go_quiet (exact (HLy.out _).mono fun e w' h => ⟨h.1, _, h.2.symm⟩)
              go_upto_region 10 with fail
              refine wp_region_keep (by kernel_rfl) (by kernel_rfl) ?_
              repeat (first | go_big_quiet_skip | ((first | refine wpKeep_load rfl ?_ | refine wpKeep_other rfl ?_); (first | go_big_quiet_step (fail) | quiet_step (fail)); refine wpQuiet_nil ?_; refine Shut.mk ?_) | (refine wpQuiet_step (fun K hK => ?_); go_simp; first | (refine hK _ ?_; clear hK K) | (apply Exists.intro; refine ⟨fun w9 k9 => ?_, hK _ ?_⟩; (fail); clear hK K)))
              refine wpQuiet_nil ?_
              intro w9 k9
              go_wp2_with fail
              go_roundw
              case rel => exact ⟨k + 1, by omega, by go_num, by rw [Hq.out], hid ((HS.out.drewN _).step k9)⟩
              case measure => simp [intOf]; omega
            · have n2 : decide (N < (s.upto : Int) - s.frm) = false := decide_eq_false hb
              have hq2 : gmax (fun _ => true) lenP (accL lev m.ts t j (k + 1)) = N := by omega
              have Hq := hid hq2
              clear hq hq2 hga hb hc
              go_upto_region 9 with fail
              go_quiet (exact (HLy.out _).mono fun e w' h => ⟨h.1, _, h.2.symm⟩)
              go_wp2_with fail
              go_roundw
              case rel => exact ⟨k + 1, by omega, by go_num, by rw [Hq.out], hid (HS.out.drewN _)⟩
              case measure => simp [intOf]; omega
          · have n1 : decide (t.level < lev) = false := decide_eq_false hc
            rw [if_neg hc] at hq
            rw [← hq]
            have Hq := hid hq
            clear hq hga hc
            go_upto_region 9 with fail
            go_quiet (exact (HLy.out _).mono fun e w' h => ⟨h.1, _, h.2.symm⟩)
            go_wp2_with fail
            go_roundw
            case rel => exact ⟨k + 1, by omega, by go_num, rfl, hid (HS.out.drewN _)⟩
            case measure => simp [intOf]; omega
        · have n0 : decide (k < (secsOf t).length) = false := decide_eq_false hkl
          have hkk : k = (secsOf t).length := by omega
          subst hkk
          rw [Hlow.out]
          have KS := hid hS.keeps
          clear hS HS
          go_wp2_with fail
          go_roundw
          case rel => exact ⟨j + 1, by omega, by go_num, rfl, KS⟩
          case measure => simp [intOf]; omega
    · have b0 : decide (j < m.ts.length) = false := decide_eq_false hlt
      have hjj : j = m.ts.length := by omega
      subst hjj
      clear hR etv
      go_wp2_with fail
      go_ret
      exact ⟨rfl, HK.out⟩
set_option maxRecDepth 100000 in
set_option maxHeartbeats 8000000 in
theorem greatestR_any (h : RefAt w p m y) : Calls Tryz.prog 39 #[.pointer (some ⟨p, 0, none⟩)] w fun e w' => e = .returned (.int .i64 (greatest m)) ∧ Keeps (fun _ => False) w w' := by
  have hlen := h.few
  obtain ⟨G, hG⟩ : ∃ G, greatest m = G := ⟨_, rfl⟩
  rw [hG]
  have H := hid h
  have HG := hid hG
  clear h hG
  go_enter Tryz.func39, Tryz.ntmps39
  go_wp2_with fail
  go_loopw [3, 4] (fun b i wr => ∃ j : Nat, j ≤ m.ts.length ∧ i = .int .i64 j ∧ b = .int .i64 (gmax (fun _ => true) (fun j : Nat => term m j) (List.range j)) ∧ Hid (Keeps (fun _ => False) w wr)) (fun _ i _ => m.ts.length - (intOf i).toNat)
  case atStart => exact ⟨0, Nat.zero_le _, rfl, rfl, hid (Keeps.refl _ _)⟩
  case round =>
    obtain ⟨j, hj, rfl, rfl, HK⟩ := hrel
    have hR := H.out.keeps HK.out
    obtain ⟨c0, c1, c2, cz⟩ := hR.cells
    obtain ⟨ta, tc, etv⟩ := ref_shape hR
    rw [etv] at c2
    by_cases hlt : j < m.ts.length
    · have b0 : decide (j < m.ts.length) = true := decide_eq_true hlt
      have HT := hid (termR_any hR j)
      have hq := greatest_take m j
      generalize term m j = TT at *
      generalize gmax (fun _ => true) (fun j : Nat => term m j) (List.range j) = N at *
      clear hR etv
      by_cases hb : N < TT
      · have n2 : decide (N < TT) = true := decide_eq_true hb
        have hq2 : gmax (fun _ => true) (fun j : Nat => term m j) (List.range (j + 1)) = TT := by omega
        have Hq := hid hq2
        clear hq hq2 hb
        go_wp2_with fail
        refine HT.out.mono ?_; rintro e w2 ⟨rfl, k2⟩
        have K2 := hid (HK.out.trans k2)
        clear k2 HT HK c0 c1 c2 cz
        go_wp2_with fail
        go_roundw
        case rel => exact ⟨j + 1, by omega, by go_num, by rw [Hq.out], K2⟩
        case measure => simp [intOf]; omega
      · have n2 : decide (N < TT) = false := decide_eq_false hb
        have hq2 : gmax (fun _ => true) (fun j : Nat => term m j) (List.range (j + 1)) = N := by omega
        have Hq := hid hq2
        clear hq hq2 hb
        go_wp2_with fail
        refine HT.out.mono ?_; rintro e w2 ⟨rfl, k2⟩
        have K2 := hid (HK.out.trans k2)
        clear k2 HT HK c0 c1 c2 cz
        go_wp2_with fail
        go_roundw
        case rel => exact ⟨j + 1, by omega, by go_num, by rw [Hq.out], K2⟩
        case measure => simp [intOf]; omega
    · have b0 : decide (j < m.ts.length) = false := decide_eq_false hlt
      have hjj : j = m.ts.length := by omega
      subst hjj
      have e : gmax (fun _ => true) (fun j : Nat => term m j) (List.range m.ts.length) = G := HG.out
      rw [e]
      clear hR etv
      go_wp2_with fail
      go_ret
      exact ⟨rfl, HK.out⟩
end
end Go.Proofs.YtnkjjhenfhnajaaGreatDoor
