/-
  Package shelf at the units' holders, walked: slices.Insert, Set.
-/
import Derived.Test.YtdjgijndcjbpiaaGreatDoorUb
import Derived.Test.YtdjgijndcjbpiaaGreatDoorG10
namespace Go.Proofs.YtdjgijndcjbpiaaGreatDoor
open Go.RowKit Go.Kw Go.Kreg Go.Tm
set_option linter.unusedSimpArgs false
set_option linter.unusedVariables false

theorem hoverlaps_no {w : World} {g B : Nat} {T U : TypeId} {xs ys : List Value} (hg : Blk w g T xs) (hB : Blk w B U ys) (hne : B ≠ g) (hx : 0 < xs.length) (o la ca lb cb : Nat) :
    (callFunc 187 #[.slice (some ⟨B, 0, none⟩) la ca, .slice (some ⟨g, o, none⟩) lb cb]).run Tryz.prog w = .ok (.value (.bool false)) w := by
  have hz : ∀ w, (Go.sizeOf THr).run Tryz.prog w = .ok 2 w := fun w => by
    obtain ⟨i, hi, h0, h1, h2⟩ := info_parts infoHr
    simp [sizeOf, typeInfo, hi, h1]
  rw [run_callFunc_extern Tryz.func187 (by kernel_rfl) (by kernel_rfl) (by kernel_rfl) (e := Extern.SlicesOverlaps.overlaps #[THrs, THrs] #[4]) (by kernel_rfl),
    Lib.run_overlaps_apart w THrs 4 THr Tryz.underlying173 2 hz ⟨B, 0, none⟩ ⟨g, o, none⟩ la ca lb cb hne U T ys.length xs.length (shape_blk hB) (shape_blk hg) (by omega) (hB.fz _) (hB.fz _)]
  rfl

theorem hshift_list {cur xs : List Value} (a b : Value) {i n cap : Nat} (hct : cur.take (n * 2) = xs) (hcl : cur.length = cap * 2) (hi : i < n) (hcap : n + 1 ≤ cap) {L1 : List Value}
    (h1 : L1 = cur.take ((i + 1) * 2) ++ xs.drop (i * 2) ++ cur.drop ((i + 1) * 2 + (xs.drop (i * 2)).length)) :
    (L1.take (i * 2) ++ [a, b] ++ L1.drop (i * 2 + [a, b].length)).length = cap * 2 ∧ (L1.take (i * 2) ++ [a, b] ++ L1.drop (i * 2 + [a, b].length)).take ((n + 1) * 2) = xs.take (i * 2) ++ [a, b] ++ xs.drop (i * 2) := by
  have hxl : xs.length = n * 2 := by rw [← hct, List.length_take]; omega
  have hdl : (xs.drop (i * 2)).length = (n - i) * 2 := by rw [List.length_drop, hxl]; omega
  have e1 : L1.take (i * 2) = xs.take (i * 2) := by
    rw [h1, List.append_assoc, List.take_append_of_le_length (by rw [List.length_take]; omega), List.take_take, ← hct, List.take_take]
    congr 1; omega
  have e2 : L1.drop (i * 2 + [a, b].length) = xs.drop (i * 2) ++ cur.drop ((i + 1) * 2 + (xs.drop (i * 2)).length) := by
    rw [h1, List.append_assoc, List.drop_append_of_le_length (by rw [List.length_take]; simp; omega), List.drop_eq_nil_of_le (by rw [List.length_take]; simp; omega), List.nil_append]
  rw [e1, e2]
  constructor
  · simp only [List.length_append, List.length_take, List.length_drop, List.length_cons, List.length_nil]; omega
  · rw [← List.append_assoc, List.take_append_of_le_length (by simp only [List.length_append, List.length_take, List.length_drop, List.length_cons, List.length_nil]; omega), List.take_of_length_le (by simp only [List.length_append, List.length_take, List.length_drop, List.length_cons, List.length_nil]; omega)]

section
variable {w : World} {F : Nat → Prop} {nv a b : Value} {n B : Nat} {xs : List Value}
abbrev hinsF : Nat := 164

set_option maxRecDepth 100000 in
set_option maxHeartbeats 2000000 in
theorem hinsert_end (h : Sts [.row THr 2 nv n xs, .pt B THr [a, b]] F w) (hn : n ≤ 1000000) (h1 : ∀ u ∈ [a, b], u.oneCell' = true) :
    Calls Tryz.prog hinsF #[nv, .int .i64 n, .slice (some ⟨B, 0, none⟩) 1 1] w fun e w' => ∃ nv', e = .returned nv' ∧ St F w [.row THr 2 nv' (n + 1) (xs ++ [a, b]), .pt B THr [a, b]] w' := by
  have HS := hid (St.of h)
  obtain ⟨oa, oc, rfl, hle⟩ := (HS.out.own 0).shape
  have H1 := hid h1
  clear h h1
  have i0 : (0 : Int) ≤ (n : Int) := by omega
  have i1 : (n : Int) ≤ (n : Int) := by omega
  go_enter Tryz.func164, Tryz.ntmps164
  go_wp2_with (at_builtin; refine wpList_appS 0 1 _ _ THrs THr (.agg #[.int .i64 0, .pointer none]) 2 16 infoHr Tryz.underlying173 rfl (by decide) rfl rfl HS.out rfl rfl rfl rfl rfl H1.out (by omega) (by unfold maxLen; omega) (by omega) ?_; intro g gc w7 hSc hat)
  all_goals
    go_ret
    exact ⟨_, rfl, hSc⟩

set_option maxRecDepth 100000 in
set_option maxHeartbeats 2000000 in
theorem hinsert_in {g cap : Nat} (h : Sts [.row THr 2 (.slice (some ⟨g, 0, none⟩) n cap) n xs, .pt B THr [a, b]] F w) (hn : n ≤ 1000000) (h1 : ∀ u ∈ [a, b], u.oneCell' = true) (h2 : ∀ u ∈ xs, u.oneCell' = true) (i : Nat) (hi : i < n) (hcap : n + 1 ≤ cap) :
    Calls Tryz.prog hinsF #[.slice (some ⟨g, 0, none⟩) n cap, .int .i64 i, .slice (some ⟨B, 0, none⟩) 1 1] w fun e w' => ∃ nv', e = .returned nv' ∧ St F w [.row THr 2 nv' (n + 1) (xs.take (i * 2) ++ [a, b] ++ xs.drop (i * 2)), .pt B THr [a, b]] w' := by
  have HS := hid (St.of h)
  obtain ⟨cur, hb, hcl, hnc, hcm, hct⟩ := Own.to_blk (HS.out.own 0)
  have hB := HS.out.blk 1
  have H1 := hid h1
  have h2c : ∀ u ∈ xs.drop (i * 2), u.oneCell' = true := fun u hu => h2 u (List.mem_of_mem_drop hu)
  have hxl : xs.length = n * 2 := (HS.out.own 0).1
  have hne : B ≠ g := by
    obtain ⟨F1, F2, k1, k2, k3, _⟩ := h
    have k2 := Sts.of_one k2
    intro e; subst e
    exact k3 B ((k1.2 B).2 rfl) ((k2.2 B).2 rfl)
  have H2 := hid h2c
  have Hct := hid hct
  have Hcl := hid hcl
  have Hxl := hid hxl
  have Hb := hid hb
  have HB := hid hB
  have Hov := fun oo la ca lb cb => hoverlaps_no hb hB hne (by omega) oo la ca lb cb
  have i0 : (0 : Int) ≤ (i : Int) := by omega
  have i1 : (i : Int) ≤ (n : Int) := by omega
  have i2 : ((i : Int) == (n : Int)) = false := by simp; omega
  have i3 : decide ((cap : Int) < (n : Int) + 1) = false := by simp; omega
  have i4 : (n : Int) + 1 ≤ (cap : Int) := by omega
  have i5 : (i : Int) + 1 ≤ (n : Int) + 1 := by omega
  have i6 : (i : Int) ≤ (n : Int) + 1 := by omega
  have i7 : ¬ cap = i := by omega
  have i8 : ¬ cap = i + 1 := by omega
  have t1 : ((n : Int) + 1).toNat = n + 1 := by omega
  have t2 : ((i : Int) + 1).toNat = i + 1 := by omega
  have hcm' : cap ≤ 9223372036854775807 := by unfold maxLen at hcm; exact hcm
  clear h h1 h2 h2c hct hcl hxl hb hB hcm
  go_enter Tryz.func164, Tryz.ntmps164
  go_wp2_with (simp only [Hov])
  have hsz2 : (Tryz.prog.info? THr).map (·.size) = some 2 := by
    obtain ⟨i, hi, h0, h1, h2⟩ := info_parts infoHr
    simp [hi, h1]
  have hd1 : (xs.drop (i * 2)).length = (n - i) * 2 := by rw [List.length_drop, Hxl.out]; omega
  have hm1 : Nat.min (n + 1 - i) (n + 1 - (i + 1)) = n - i := by show min _ _ = _; omega
  have hcx : ∀ (j : Nat) v, (xs.drop (i * 2))[j]? = some v → w.cell? ((⟨g, i * 2, none⟩ : Addr).add j) = some v := fun j v hj => by
    rw [add_at]
    rw [List.getElem?_drop, ← Hct.out, List.getElem?_take] at hj
    split at hj
    · exact Hb.out.at hj
    · cases hj
  refine wp_region_mix [true, true, true, true, true, true, true, true, false] 0 (fun _ => False) (by kernel_rfl) (by decide +kernel) ?_
  simp only [front, back, List.take_zero, List.drop_zero]
  repeat ((first | refine wpFront_load rfl ?_ | refine wpFront_other rfl ?_); (first | go_big_quiet_step (fail) | quiet_step (fail)); refine wpQuiet_nil ?_)
  refine wpFront_nil ?_
  simp only [wpSegs]
  refine wpList_copyS _ _ THrs THrs THr 2 Tryz.underlying173 hsz2 rfl rfl Hb.out.drew ((i + 1) * 2) (n + 1 - (i + 1)) (cap - (i + 1)) ⟨g, i * 2, none⟩ (n + 1 - i) (cap - i) (xs.drop (i * 2)) (by simp [Act.eval]) (by simp [Act.eval]) (by rw [hd1, hm1]) hcx (by rw [hd1, Hcl.out]; omega) H2.out ?_
  intro w1 hb1 hk1 hs1
  refine wpList_nil (NoPanic.normal ?_)
  have hB1 : Blk w1 B THr [a, b] := hk1.blk HB.out.drew hne
  have hm2 : Nat.min 1 (n + 1 - i) = 1 := by show min _ _ = _; omega
  clear hcx hm1
  go_wp2_with (refine wpList_copyS _ _ THrs THrs THr 2 Tryz.underlying173 hsz2 rfl rfl hb1 (i * 2) (n + 1 - i) (cap - i) ⟨B, 0, none⟩ 1 1 [a, b] rfl rfl (by rw [hm2]; rfl) (fun j v hj => by rw [add_at, Nat.zero_add]; exact hB1.at hj) (by simp only [List.length_append, List.length_take, List.length_drop, List.length_cons, List.length_nil, Hcl.out, Hxl.out]; omega) H1.out ?_; intro w2 hb2 hk2 hs2)
  go_ret
  refine ⟨_, rfl, ?_⟩
  have hkk : Keeps (fun k => k = g) w w2 := (((Keeps.refl (fun k => k = g) w).drew).trans hk1).trans hk2
  refine HS.out.turn 0 rfl fun F0 hF0 => ⟨F0, ⟨?_, fun b => hF0.2 b⟩, hkk.mono fun b hb => by rw [hb]; exact (hF0.2 g).2 rfl, fun _ => .inl⟩
  obtain ⟨q1, q2⟩ := hshift_list a b Hct.out Hcl.out hi hcap rfl
  have q3 := Own.of_blk hb2 q1 hcap hcm'
  rw [q2] at q3
  exact q3

theorem hgrow_list {xs zs : List Value} (a b : Value) {i n G : Nat} (hxl : xs.length = n * 2) (hl : (xs.take (i * 2) ++ zs).length = G * 2) (hi : i < n) (hG : n + 1 ≤ G) {L1 L2 : List Value}
    (h1 : L1 = (xs.take (i * 2) ++ zs).take (i * 2) ++ [a, b] ++ (xs.take (i * 2) ++ zs).drop (i * 2 + [a, b].length)) (h2 : L2 = L1.take ((i + 1) * 2) ++ xs.drop (i * 2) ++ L1.drop ((i + 1) * 2 + (xs.drop (i * 2)).length)) :
    L1.length = G * 2 ∧ L2.length = G * 2 ∧ L2.take ((n + 1) * 2) = xs.take (i * 2) ++ [a, b] ++ xs.drop (i * 2) := by
  have hdl : (xs.drop (i * 2)).length = (n - i) * 2 := by rw [List.length_drop, hxl]; omega
  have htl : (xs.take (i * 2)).length = i * 2 := by rw [List.length_take, hxl]; omega
  have hab : [a, b].length = 2 := rfl
  have e1 : (xs.take (i * 2) ++ zs).take (i * 2) = xs.take (i * 2) := List.take_left' htl
  have l1 : L1.length = G * 2 := by
    rw [h1, e1]
    simp only [List.length_append, List.length_drop, hab] at hl ⊢
    omega
  have e2 : L1.take ((i + 1) * 2) = xs.take (i * 2) ++ [a, b] := by
    rw [h1, e1]; exact List.take_left' (by simp only [List.length_append, htl, hab]; omega)
  have l2 : L2.length = G * 2 := by
    rw [h2, e2]
    simp only [List.length_append, List.length_drop, hab, l1, hdl, htl]
    omega
  refine ⟨l1, l2, ?_⟩
  rw [h2, e2]
  exact List.take_left' (by simp only [List.length_append, htl, hab, hdl]; omega)

set_option maxRecDepth 100000 in
set_option maxHeartbeats 2000000 in
theorem hinsert_grow {g cap : Nat} (h : Sts [.row THr 2 (.slice (some ⟨g, 0, none⟩) n cap) n xs, .pt B THr [a, b]] F w) (hn : n ≤ 1000000) (h1 : ∀ u ∈ [a, b], u.oneCell' = true) (h2 : ∀ u ∈ xs, u.oneCell' = true) (i : Nat) (hi : i < n) (hcap : cap < n + 1) :
    Calls Tryz.prog hinsF #[.slice (some ⟨g, 0, none⟩) n cap, .int .i64 i, .slice (some ⟨B, 0, none⟩) 1 1] w fun e w' => ∃ nv', e = .returned nv' ∧ St F w [.row THr 2 nv' (n + 1) (xs.take (i * 2) ++ [a, b] ++ xs.drop (i * 2)), .pt B THr [a, b]] w' := by
  have HS := hid (St.of h)
  have hown := HS.out.own 0
  obtain ⟨cur, hb, hcl, hnc, hcm, hct⟩ := Own.to_blk hown
  obtain rfl : cap = n := by omega
  have H1 := hid h1
  have h2c : ∀ u ∈ xs.drop (i * 2), u.oneCell' = true := fun u hu => h2 u (List.mem_of_mem_drop hu)
  have hxl : xs.length = cap * 2 := hown.1
  have H2 := hid h2c
  have Hxl := hid hxl
  have Hown := hid hown
  have HB := hid (HS.out.blk 1)
  have hgl := hb.lt
  have hBl := HB.out.lt
  have i0 : (0 : Int) ≤ (i : Int) := by omega
  have i1 : (i : Int) ≤ (cap : Int) := by omega
  have i2 : ((i : Int) == (cap : Int)) = false := by simp; omega
  have i3 : decide ((cap : Int) < (cap : Int) + 1) = true := by simp; omega
  have i5 : (i : Int) + 1 ≤ (cap : Int) + 1 := by omega
  have i6 : (i : Int) ≤ (cap : Int) + 1 := by omega
  have i7 : ¬ cap = i := by omega
  have t1 : ((cap : Int) + 1).toNat = cap + 1 := by omega
  have t2 : ((i : Int) + 1).toNat = i + 1 := by omega
  have hkk : (cap : Int) + 1 - (i : Int) = ((cap + 1 - i : Nat) : Int) := by omega
  have hik : i + (cap + 1 - i) = cap + 1 := by omega
  have hold : ∀ (j : Nat) u, (xs.take (i * 2))[j]? = some u → w.cell? ⟨g, j, none⟩ = some u := fun j u hj => by
    rw [List.getElem?_take] at hj
    split at hj
    · exact Hown.out.cells' (g := g) rfl hj
    · cases hj
  have Hold := hid hold
  have Hkk := hid hkk
  have Hik := hid hik
  clear h h1 h2 h2c hct hcl hxl hb hown hold hkk hik
  go_enter Tryz.func164, Tryz.ntmps164
  have hsz2 : (Tryz.prog.info? THr).map (·.size) = some 2 := by
    obtain ⟨i, hi, h0, h1, h2⟩ := info_parts infoHr
    simp [hi, h1]
  have hm2 : Nat.min 1 (cap + 1 - i) = 1 := by show min _ _ = _; omega
  go_wp2_with (first
    | (at_builtin; refine wpList_app_zeros _ _ THrs 3 THr (.agg #[.int .i64 0, .pointer none]) 2 16 .i64 .i64 infoHr Tryz.underlying173 Tryz.underlying3 rfl (by decide) rfl rfl g i cap (xs.take (i * 2)) rfl (by rw [List.length_take, Hxl.out]; omega) Hold.out (cap + 1 - i) (cap + 1) Hik.out (by omega) (by show Value.int .i64 _ = _; rw [← Hkk.out]) (by omega) (by unfold maxLen; omega) (by omega) ?_; intro g2 G w1 zs hb1 hl1 hG1 hG2 hg2 hk1; have i8 : ¬ G = i := (by omega); have hBw1 : Blk w1 B THr [a, b] := hk1.blk HB.out id; have Hg2 := hid hg2; have Hl1 := hid hl1; clear hg2 hl1)
    | (refine wpList_copyS _ _ THrs THrs THr 2 Tryz.underlying173 hsz2 rfl rfl hb1 (i * 2) (cap + 1 - i) (G - i) ⟨B, 0, none⟩ 1 1 [a, b] rfl rfl (by rw [hm2]; rfl) (fun j v hj => by rw [add_at, Nat.zero_add]; exact hBw1.at hj) (by rw [Hl1.out]; simp only [List.length_cons, List.length_nil]; omega) H1.out ?_; intro w2 hb2 hk2 hs2))
  have HG2 := hid hG2
  have i9 : ¬ G = i + 1 := by omega
  have hgg : g ≠ g2 := by have := Hg2.out; omega
  have hBg : B ≠ g2 := by have := Hg2.out; omega
  clear hG2
  have hcx : ∀ (j : Nat) v, (xs.drop (i * 2))[j]? = some v → w2.cell? ((⟨g, i * 2, none⟩ : Addr).add j) = some v := fun j v hj => by
    rw [add_at]
    rw [List.getElem?_drop] at hj
    have o2 := (Hown.out.keeps hk1 fun _ _ => id).keeps hk2 (fun b hb e => by simp only [Value.ownBlock, Option.some.injEq] at hb; omega)
    exact o2.cells' (g := g) rfl hj
  have Hcx := hid hcx
  have hd1 : (xs.drop (i * 2)).length = (cap - i) * 2 := by rw [List.length_drop, Hxl.out]; omega
  have hm1 : Nat.min (cap - i) (cap + 1 - (i + 1)) = cap - i := by show min _ _ = _; omega
  obtain ⟨g1, g3, g4⟩ := hgrow_list a b Hxl.out Hl1.out hi hG1 rfl rfl
  have G3 := hid g3
  have G4 := hid g4
  clear hcx g3 g4
  refine wp_region_mix [true, true, true, true, true, true, true, true, false] 0 (fun _ => False) (by kernel_rfl) (by decide +kernel) ?_
  simp only [front, back, List.take_zero, List.drop_zero]
  repeat ((first | refine wpFront_load rfl ?_ | refine wpFront_other rfl ?_); (first | go_big_quiet_step (fail) | quiet_step (fail)); refine wpQuiet_nil ?_)
  refine wpFront_nil ?_
  simp only [wpSegs]
  refine wpList_copyS _ _ THrs THrs THr 2 Tryz.underlying173 hsz2 rfl rfl hb2.drew ((i + 1) * 2) (cap + 1 - (i + 1)) (G - (i + 1)) ⟨g, i * 2, none⟩ (cap - i) (cap - i) (xs.drop (i * 2)) (by simp [Act.eval]) (by simp [Act.eval]) (by rw [hd1, hm1]) Hcx.out (by rw [g1, hd1]; omega) H2.out ?_
  intro w3 hb3 hk3 hs3
  refine wpList_nil (NoPanic.normal ?_)
  go_wp2_with fail
  go_ret
  refine ⟨.slice (some ⟨g2, 0, none⟩) (cap + 1) G, rfl, ?_⟩
  have k13 : Keeps (fun k => k = g2) w1 w3 := (hk2.drew).trans hk3
  have k03 : Keeps (fun _ => False) w w3 := hk1.trans' k13 fun b hb => .inr (by rw [hb, Hg2.out]; exact Nat.le_refl _)
  have q3 := Own.of_blk hb3 G3.out hG1 HG2.out
  rw [G4.out] at q3
  refine HS.out.turn 0 rfl fun F0 hF0 => ⟨fun b => b = g2, ⟨q3, fun b => ?_⟩, k03.mono fun b hb => hb.elim, fun b hb => .inr ?_⟩
  · rw [Value.ownBlock, Option.some.injEq]; exact eq_comm
  · rw [hb, Hg2.out]; exact Nat.le_refl _

theorem hinsert_any (h : Sts [.row THr 2 nv n xs, .pt B THr [a, b]] F w) (hn : n ≤ 1000000) (h1 : ∀ u ∈ [a, b], u.oneCell' = true) (h2 : ∀ u ∈ xs, u.oneCell' = true) (i : Nat) (hi : i ≤ n) :
    Calls Tryz.prog hinsF #[nv, .int .i64 i, .slice (some ⟨B, 0, none⟩) 1 1] w fun e w' => ∃ nv', e = .returned nv' ∧ St F w [.row THr 2 nv' (n + 1) (xs.take (i * 2) ++ [a, b] ++ xs.drop (i * 2)), .pt B THr [a, b]] w' := by
  have hown := (St.of h).own 0
  have hxl : xs.length = n * 2 := hown.1
  by_cases hlt : i < n
  · obtain ⟨g, cap, rfl, _⟩ := hown.form (by omega)
    by_cases hc : n + 1 ≤ cap
    · exact hinsert_in h hn h1 h2 i hlt hc
    · exact hinsert_grow h hn h1 h2 i hlt (by omega)
  · obtain rfl : i = n := by omega
    rw [List.take_of_length_le (by omega), List.drop_eq_nil_of_le (by omega), List.append_nil]
    exact hinsert_end h hn h1

theorem hrowsC_one (ns : List In.Row) : ∀ u ∈ hrowsC ns, u.oneCell' = true := by
  intro u hu
  simp only [hrowsC, List.mem_flatMap, List.mem_cons, List.not_mem_nil, or_false] at hu
  obtain ⟨r, _, rfl | rfl⟩ := hu <;> rfl
theorem hrowsC_laid (k : Int) (v : Nat) (ns : List In.Row) : hrowsC (In.laid k v ns) = (hrowsC ns).take (In.below k ns * 2) ++ [.int .i64 k, .pointer (some ⟨v, 0, none⟩)] ++ (hrowsC ns).drop (In.below k ns * 2) := by
  have hl : (hrowsC (ns.take (In.below k ns))).length = In.below k ns * 2 := by rw [hrowsC_len, List.length_take]; have := In.below_le k ns; omega
  have e : hrowsC ns = hrowsC (ns.take (In.below k ns)) ++ hrowsC (ns.drop (In.below k ns)) := by rw [← hrowsC_app, List.take_append_drop]
  conv => rhs; rw [e]
  rw [List.take_left' hl, List.drop_left' hl]
  simp [In.laid, hrowsC]

set_option maxRecDepth 100000 in
set_option maxHeartbeats 2000000 in
theorem hset_any {p o : Nat} {T : TypeId} {ys : List Value} {ns : List In.Row} (H : Sts [.pt p T ys, .row THr 2 nv ns.length (hrowsC ns)] F w) (ho : ys[o]? = some nv) (hr : In.Rise ns) (hn : ns.length ≤ 100000) (k : Int) (v : Nat) (hf : In.foundAt k ns = false) :
    Calls Tryz.prog 122 #[.pointer (some ⟨p, o, none⟩), .int .i64 k, .pointer (some ⟨v, 0, none⟩)] w fun e w' => e = .returned (.bool true) ∧ ∃ nv', St F w [.pt p T (ys.set o nv'), .row THr 2 nv' (ns.length + 1) (hrowsC (In.laid k v ns))] w' := by
  have HS := hid (St.of H)
  have hc := (HS.out.blk 0).at ho
  have hs := hfind_any hc (HS.out.own 1) hr (by omega) k
  have hble := In.below_le k ns
  rw [hf] at hs
  rw [hrowsC_laid]
  generalize In.below k ns = I at *
  clear H hf hr
  go_enter Tryz.func122, Tryz.ntmps122
  go_wp2_with fail
  refine hs.mono ?_; rintro e w2 ⟨rfl, k2⟩
  have HS2 := hid (HS.out.step k2)
  have hc2 := cellIn k2 hc
  clear hs hc HS k2
  have hS3 := HS2.out.new THr [.int .i64 k, .pointer (some ⟨v, 0, none⟩)]
  simp only [Kw.red] at hS3
  obtain ⟨F1, g1, _, hout, back⟩ := hS3.sel [1, 2]
  have hp : ¬ F1 p := hout 0 p T ys rfl
  have g2 : Sts [.row THr 2 nv ns.length (hrowsC ns), .pt w2.heap.size THr [.int .i64 k, .pointer (some ⟨v, 0, none⟩)]] F1 _ := g1
  have hi := hinsert_any g2 (by omega) (by intro u hu; simp only [List.mem_cons, List.not_mem_nil, or_false] at hu; rcases hu with rfl | rfl <;> rfl) (hrowsC_one ns) I hble
  clear hS3 g1 g2 HS2
  go_wp2_with fail
  refine hi.mono ?_; rintro e w4 ⟨nv', rfl, hS⟩
  have hS := back hS
  simp only [Kw.red] at hS
  have hc4 := (hS.blk 0).at ho
  have hz4 := (hS.blk 0).fz o
  obtain ⟨na, nc, rfl, _⟩ := (hS.own 1).shape
  have HS4 := hid hS
  clear hS back hi hc2
  go_wp2_with fail
  go_ret
  refine ⟨rfl, .slice na (ns.length + 1) nc, ?_⟩
  exact (HS4.out.set 0 o (.slice na (ns.length + 1) nc)).sub [0, 1]
end
end Go.Proofs.YtdjgijndcjbpiaaGreatDoor
