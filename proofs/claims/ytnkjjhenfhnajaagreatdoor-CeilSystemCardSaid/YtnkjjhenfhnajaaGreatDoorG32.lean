/-
  Texts Ub Ui Uh Uk Ul in one.
-/
import Derived.Test.YtnkjjhenfhnajaaGreatDoorG10
import Derived.Test.YtnkjjhenfhnajaaGreatDoorG30
import Derived.Test.YtnkjjhenfhnajaaGreatDoorG16
import Derived.Test.YtnkjjhenfhnajaaGreatDoorG05
/-
  Package shelf at the units' holders, walked: find, Get.
-/
namespace Go.Proofs.YtnkjjhenfhnajaaGreatDoor
open Go.RowKit Go.Kw Go.Kreg Go.Tm
set_option linter.unusedSimpArgs false
set_option linter.unusedVariables false

abbrev THr : Nat := 237
abbrev THrs : Nat := 173
abbrev hcmpF : Nat := 172
theorem infoHr : (Tryz.prog.info? THr).map (fun i => (i.zero, i.size, i.bytes)) = some (some (.agg #[.int .i64 0, .pointer none]), 2, 16) := by kernel_rfl
def hrowsC (ns : List In.Row) : List Value := ns.flatMap fun r => [.int .i64 r.1, .pointer (some ⟨r.2, 0, none⟩)]
theorem hrowsC_len (ns : List In.Row) : (hrowsC ns).length = ns.length * 2 := by
  induction ns with
  | nil => rfl
  | cons r ns ih => simp only [hrowsC, List.flatMap_cons, List.length_append, List.length_cons, List.length_nil] at *; omega
theorem hrowsC_app (l r : List In.Row) : hrowsC (l ++ r) = hrowsC l ++ hrowsC r := by simp [hrowsC]
theorem hrowsC_at {ns : List In.Row} {i : Nat} {r : In.Row} (h : ns[i]? = some r) : (hrowsC ns)[i * 2]? = some (.int .i64 r.1) ∧ (hrowsC ns)[i * 2 + 1]? = some (.pointer (some ⟨r.2, 0, none⟩)) := by
  have hs : ns = ns.take i ++ (r :: ns.drop (i + 1)) := by
    have := (List.getElem?_eq_some_iff.1 h)
    rw [← this.2, List.getElem_cons_drop, List.take_append_drop]
  have hl : (hrowsC (ns.take i)).length = i * 2 := by
    rw [hrowsC_len, List.length_take]; have := (List.getElem?_eq_some_iff.1 h).1; omega
  have e : hrowsC ns = hrowsC (ns.take i) ++ ([.int .i64 r.1, .pointer (some ⟨r.2, 0, none⟩)] ++ hrowsC (ns.drop (i + 1))) := by
    conv => lhs; rw [hs]
    simp [hrowsC]
  rw [e]
  constructor
  all_goals
    rw [List.getElem?_append_right (by omega), hl]
    simp
def hcmpOf (a k : Int) : Int := if a < k then -1 else if a = k then 0 else 1

set_option maxRecDepth 100000 in
theorem hcmp_any (w : World) (a k : Int) (v : Nat) : Calls Tryz.prog hcmpF #[.agg #[.int .i64 a, .pointer (some ⟨v, 0, none⟩)], .int .i64 k] w fun e w' => e = .returned (.int .i64 (hcmpOf a k)) ∧ Keeps (fun _ => False) w w' := by
  unfold hcmpOf
  by_cases h1 : a < k
  · have b1 : decide (a < k) = true := by simpa using h1
    rw [if_pos h1]
    clear h1
    go_enter Tryz.func172, Tryz.ntmps172
    go_wp2_with fail
    go_ret
    exact ⟨rfl, (Keeps.refl _ _).alloc _⟩
  · have b1 : decide (a < k) = false := by simpa using h1
    rw [if_neg h1]
    by_cases h2 : a = k
    · have b2 : decide (k < a) = false := by simp; omega
      rw [if_pos h2]
      clear h1 h2
      go_enter Tryz.func172, Tryz.ntmps172
      go_wp2_with fail
      go_ret
      exact ⟨rfl, (Keeps.refl _ _).alloc _⟩
    · have b2 : decide (k < a) = true := by simp; omega
      rw [if_neg h2]
      clear h1 h2
      go_enter Tryz.func172, Tryz.ntmps172
      go_wp2_with fail
      go_ret
      exact ⟨rfl, (Keeps.refl _ _).alloc _⟩

section
variable {w : World} {nv : Value} {ns : List In.Row}

set_option maxRecDepth 100000 in
set_option maxHeartbeats 2000000 in
theorem hsearch_any (hown : Own w THr 2 nv ns.length (hrowsC ns)) (hr : In.Rise ns) (hn : ns.length ≤ 1000000) (k : Int) :
    Calls Tryz.prog 171 #[nv, .int .i64 k, .func (.func hcmpF) #[] #[]] w fun e w' => e = .returned (.tuple #[.int .i64 (In.below k ns), .bool (In.foundAt k ns)]) ∧ Keeps (fun _ => False) w w' := by
  obtain ⟨oa, oc, rfl, _⟩ := hown.shape
  have hbl := In.below_le k ns
  have hlow : ∀ (i : Nat) (a : In.Row), ns[i]? = some a → (a.1 < k ↔ i < In.below k ns) := fun i a h => In.below_iff hr h
  have hfo : In.foundAt k ns = match ns[In.below k ns]? with | some a => decide (a.1 = k) | none => false := rfl
  have Hown := hid hown
  generalize In.below k ns = B at *
  generalize In.foundAt k ns = fd at *
  have Hlow := hid hlow
  have Hfo := hid hfo
  clear hr hown hlow hfo
  go_enter Tryz.func171, Tryz.ntmps171
  go_wp2_with fail
  go_loopw [9, 10] (fun x y wr => ∃ i j : Nat, i ≤ B ∧ B ≤ j ∧ j ≤ ns.length ∧ x = .int .i64 i ∧ y = .int .i64 j ∧ Keeps (fun _ => False) w wr) (fun x y _ => (intOf y).toNat - (intOf x).toNat)
  case atStart => exact ⟨0, ns.length, Nat.zero_le _, hbl, Nat.le_refl _, rfl, rfl, Keeps.refl _ _⟩
  case round =>
    obtain ⟨i, j, hi, hj, hjn, rfl, rfl, hK⟩ := hrel
    have HK := hid hK
    clear hK
    by_cases hlt : i < j
    · have b1 : decide ((i : Int) < (j : Int)) = true := by simp; omega
      have hw1 : IntKind.i64.wrap ((i : Int) + (j : Int)) = (i : Int) + (j : Int) := by rw [IntKind.wrap_i64]; omega
      have hhn : (i + j) / 2 < ns.length := by omega
      obtain ⟨g, cap, e1, _⟩ := Hown.out.form (by omega)
      cases e1
      have hx := List.getElem?_eq_getElem hhn
      have hlb := Hlow.out _ _ hx
      obtain ⟨x0, x1⟩ := hrowsC_at hx
      generalize ns[(i + j) / 2] = r at *
      have d0 := cellIn HK.out (Hown.out.cells' (g := g) rfl x0)
      have d1 := cellIn HK.out (Hown.out.cells' (g := g) rfl x1)
      clear x0 x1 hx
      have hcmp := fun w => hcmp_any w r.1 k r.2
      by_cases hl : r.1 < k
      · have e0 : hcmpOf r.1 k = -1 := if_pos hl
        rw [e0] at hcmp
        have hm := hlb.1 hl
        clear hlb hl e0
        go_wp2_with fail
        refine (hcmp _).mono ?_; rintro e w2 ⟨rfl, k2⟩
        have HK2 := hid (HK.out.trans k2)
        clear k2 HK hcmp
        go_wp2_with fail
        go_roundw
        case rel => exact ⟨(i + j) / 2 + 1, j, by omega, hj, hjn, by go_num, rfl, HK2.out⟩
        case measure => simp [intOf]; omega
      · have hm : ¬ (i + j) / 2 < B := fun h => hl (hlb.2 h)
        have hle : i ≤ (i + j) / 2 := by omega
        obtain ⟨c, hcv, hc0⟩ : ∃ c : Int, hcmpOf r.1 k = c ∧ 0 ≤ c := by unfold hcmpOf; rw [if_neg hl]; split <;> exact ⟨_, rfl, by omega⟩
        rw [hcv] at hcmp
        have b2 : decide (c < 0) = false := by simp; omega
        clear hlb hl hcv
        go_wp2_with fail
        refine (hcmp _).mono ?_; rintro e w2 ⟨rfl, k2⟩
        have HK2 := hid (HK.out.trans k2)
        clear k2 HK hcmp
        go_wp2_with fail
        go_roundw
        case rel => exact ⟨i, (i + j) / 2, hi, by omega, by omega, rfl, by go_num, HK2.out⟩
        case measure => simp [intOf]; omega
    · have b1 : decide ((i : Int) < (j : Int)) = false := by simp; omega
      have eB : B = i := by omega
      subst eB
      have b2 : B ≤ ns.length := by omega
      by_cases hend : B < ns.length
      · have hx := List.getElem?_eq_getElem hend
        have hlb := Hlow.out _ _ hx
        have hfo := Hfo.out
        rw [hx] at hfo
        simp only at hfo
        obtain ⟨g, cap, e1, _⟩ := Hown.out.form (by omega)
        cases e1
        obtain ⟨x0, x1⟩ := hrowsC_at hx
        generalize ns[B] = r at *
        have d0 := cellIn HK.out (Hown.out.cells' (g := g) rfl x0)
        have d1 := cellIn HK.out (Hown.out.cells' (g := g) rfl x1)
        have b3 : decide ((B : Int) < (ns.length : Int)) = true := by simp; omega
        have i0 : (0 : Int) ≤ (B : Int) := by omega
        have i1 : (B : Int) < (ns.length : Int) := by omega
        have hl : ¬ r.1 < k := fun h => by have := hlb.1 h; omega
        clear x0 x1 hx hlb
        have hcmp := fun w => hcmp_any w r.1 k r.2
        by_cases he : r.1 = k
        · have e0 : hcmpOf r.1 k = 0 := by unfold hcmpOf; rw [if_neg hl, if_pos he]
          rw [e0] at hcmp
          obtain rfl : fd = true := by rw [hfo]; simpa using he
          clear he e0 hl hfo
          go_wp2_with fail
          refine (hcmp _).mono ?_; rintro e w2 ⟨rfl, k2⟩
          have HK2 := hid (HK.out.trans k2)
          clear k2 HK hcmp
          go_wp2_with fail
          go_ret2
          exact ⟨rfl, HK2.out⟩
        · have e0 : hcmpOf r.1 k = 1 := by unfold hcmpOf; rw [if_neg hl, if_neg he]
          rw [e0] at hcmp
          obtain rfl : fd = false := by rw [hfo]; simpa using he
          clear he e0 hl hfo
          go_wp2_with fail
          refine (hcmp _).mono ?_; rintro e w2 ⟨rfl, k2⟩
          have HK2 := hid (HK.out.trans k2)
          clear k2 HK hcmp
          go_wp2_with fail
          go_ret2
          exact ⟨rfl, HK2.out⟩
      · obtain rfl : fd = false := by rw [Hfo.out, List.getElem?_eq_none (by omega)]
        have b3 : decide ((B : Int) < (ns.length : Int)) = false := by simp; omega
        go_wp2_with fail
        go_ret2
        exact ⟨rfl, HK.out⟩
variable {p o : Nat}
set_option maxRecDepth 100000 in
theorem hfind_any (hc : w.cell? ⟨p, o, none⟩ = some nv) (hown : Own w THr 2 nv ns.length (hrowsC ns)) (hr : In.Rise ns) (hn : ns.length ≤ 1000000) (k : Int) :
    Calls Tryz.prog 147 #[.pointer (some ⟨p, o, none⟩), .int .i64 k] w fun e w' => e = .returned (.tuple #[.int .i64 (In.below k ns), .bool (In.foundAt k ns)]) ∧ Keeps (fun _ => False) w w' := by
  have hs := hsearch_any hown hr hn k
  clear hown hr
  go_enter Tryz.func147, Tryz.ntmps147
  go_wp2_with fail
  refine hs.mono ?_; rintro e w2 ⟨rfl, k2⟩
  clear hs
  go_wp2_with fail
  go_ret2
  exact ⟨rfl, k2⟩

set_option maxRecDepth 100000 in
set_option maxHeartbeats 1000000 in
theorem hget_any (hc : w.cell? ⟨p, o, none⟩ = some nv) (hown : Own w THr 2 nv ns.length (hrowsC ns)) (hr : In.Rise ns) (hn : ns.length ≤ 1000000) (k : Int) :
    Calls Tryz.prog 115 #[.pointer (some ⟨p, o, none⟩), .int .i64 k] w fun e w' => e = .returned (.tuple #[.pointer (if In.foundAt k ns then some ⟨In.atOf k ns, 0, none⟩ else none), .bool (In.foundAt k ns)]) ∧ Keeps (fun _ => False) w w' := by
  have hs := hfind_any hc hown hr hn k
  by_cases hf : In.foundAt k ns = true
  · have hb : ∃ r, ns[In.below k ns]? = some r ∧ In.atOf k ns = r.2 := by
      unfold In.foundAt at hf
      unfold In.atOf
      split at hf
      · rename_i a ha; exact ⟨a, ha, rfl⟩
      · cases hf
    obtain ⟨r, hx, ha⟩ := hb
    rw [hf] at hs ⊢
    rw [if_pos rfl, ha]
    have hlt := (List.getElem?_eq_some_iff.1 hx).1
    obtain ⟨x0, x1⟩ := hrowsC_at hx
    obtain ⟨g, cap, e1, _⟩ := hown.form (by omega)
    subst e1
    have d1 := hown.cells' (g := g) rfl x1
    generalize In.below k ns = B at *
    have i0 : (0 : Int) ≤ (B : Int) := by omega
    have i1 : (B : Int) < (ns.length : Int) := by omega
    clear x0 x1 hx ha hf hown hr
    go_enter Tryz.func115, Tryz.ntmps115
    go_wp2_with fail
    refine hs.mono ?_; rintro e w2 ⟨rfl, k2⟩
    have d1' := cellIn k2 d1
    have hc' := cellIn k2 hc
    clear hs d1 hc
    go_wp2_with fail
    go_ret2
    exact ⟨rfl, k2⟩
  · have hf : In.foundAt k ns = false := by simpa using hf
    rw [hf] at hs ⊢
    clear hf hown hr
    go_enter Tryz.func115, Tryz.ntmps115
    go_wp2_with fail
    refine hs.mono ?_; rintro e w2 ⟨rfl, k2⟩
    clear hs
    go_wp2_with fail
    go_ret2
    exact ⟨by simp, k2⟩
end
end Go.Proofs.YtnkjjhenfhnajaaGreatDoor

/-
  Package shelf at the units' holders, walked: slices.Insert, Set.
-/
namespace Go.Proofs.YtnkjjhenfhnajaaGreatDoor
open Go.RowKit Go.Kw Go.Kreg Go.Tm
set_option linter.unusedSimpArgs false
set_option linter.unusedVariables false

theorem hoverlaps_no {w : World} {g B : Nat} {T U : TypeId} {xs ys : List Value} (hg : Blk w g T xs) (hB : Blk w B U ys) (hne : B ≠ g) (hx : 0 < xs.length) (o la ca lb cb : Nat) :
    (callFunc 173 #[.slice (some ⟨B, 0, none⟩) la ca, .slice (some ⟨g, o, none⟩) lb cb]).run Tryz.prog w = .ok (.value (.bool false)) w := by
  have hz : ∀ w, (Go.sizeOf THr).run Tryz.prog w = .ok 2 w := fun w => by
    obtain ⟨i, hi, h0, h1, h2⟩ := info_parts infoHr
    simp [sizeOf, typeInfo, hi, h1]
  rw [run_callFunc_extern Tryz.func173 (by kernel_rfl) (by kernel_rfl) (by kernel_rfl) (e := Extern.SlicesOverlaps.overlaps #[THrs, THrs] #[4]) (by kernel_rfl),
    Lib.run_overlaps_apart w THrs 4 THr Tryz.underlying173 2 hz ⟨B, 0, none⟩ ⟨g, o, none⟩ la ca lb cb hne U T ys.length xs.length (shape_blk hB) (shape_blk hg) (by omega) (hB.fz _) (hB.fz _)]
  rfl

theorem hshift_list {cur xs : List Value} (a b : Value) {i n cap : Nat} (hct : cur.take (n * 2) = xs) (hcl : cur.length = cap * 2) (hi : i < n) (hcap : n + 1 ≤ cap) {L1 : List Value}
    (h1 : L1 = cur.take ((i + 1) * 2) ++ xs.drop (i * 2) ++ cur.drop ((i + 1) * 2 + (xs.drop (i * 2)).length)) :
    (L1.take (i * 2) ++ [a, b] ++ L1.drop (i * 2 + [a, b].length)).length = cap * 2 ∧ (L1.take (i * 2) ++ [a, b] ++ L1.drop (i * 2 + [a, b].length)).take ((n + 1) * 2) = xs.take (i * 2) ++ [a, b] ++ xs.drop (i * 2) := by
  have hxl : xs.length = n * 2 := by rw [← hct, List.length_take]; omega
  have hdl : (xs.drop (i * 2)).length = (n - i) * 2 := by rw [List.length_drop, hxl]; omega
  have e1 : L1.take (i * 2) = xs.take (i * 2) := by
    rw [h1, List.append_assoc, List.take_append_of_le_length (by rw [List.length_take]; omega), List.take_take, ← hct, List.take_take]
    congr 1; omega
  have e2 : L1.drop (i * 2 + [a, b].length) = xs.drop (i * 2) ++ cur.drop ((i + 1) * 2 + (xs.drop (i * 2)).length) := by
    rw [h1, List.append_assoc, List.drop_append_of_le_length (by rw [List.length_take]; simp; omega), List.drop_eq_nil_of_le (by rw [List.length_take]; simp; omega), List.nil_append]
  rw [e1, e2]
  constructor
  · simp only [List.length_append, List.length_take, List.length_drop, List.length_cons, List.length_nil]; omega
  · rw [← List.append_assoc, List.take_append_of_le_length (by simp only [List.length_append, List.length_take, List.length_drop, List.length_cons, List.length_nil]; omega), List.take_of_length_le (by simp only [List.length_append, List.length_take, List.length_drop, List.length_cons, List.length_nil]; omega)]

section
variable {w : World} {F : Nat → Prop} {nv a b : Value} {n B : Nat} {xs : List Value}
abbrev hinsF : Nat := 148

set_option maxRecDepth 100000 in
set_option maxHeartbeats 2000000 in
theorem hinsert_end (h : Sts [.row THr 2 nv n xs, .pt B THr [a, b]] F w) (hn : n ≤ 1000000) (h1 : ∀ u ∈ [a, b], u.oneCell' = true) :
    Calls Tryz.prog hinsF #[nv, .int .i64 n, .slice (some ⟨B, 0, none⟩) 1 1] w fun e w' => ∃ nv', e = .returned nv' ∧ St F w [.row THr 2 nv' (n + 1) (xs ++ [a, b]), .pt B THr [a, b]] w' := by
  have HS := hid (St.of h)
  obtain ⟨oa, oc, rfl, hle⟩ := (HS.out.own 0).shape
  have H1 := hid h1
  clear h h1
  have i0 : (0 : Int) ≤ (n : Int) := by omega
  have i1 : (n : Int) ≤ (n : Int) := by omega
  go_enter Tryz.func148, Tryz.ntmps148
  go_wp2_with (at_builtin; refine wpList_appS 0 1 _ _ THrs THr (.agg #[.int .i64 0, .pointer none]) 2 16 infoHr Tryz.underlying173 rfl (by decide) rfl rfl HS.out rfl rfl rfl rfl rfl H1.out (by omega) (by unfold maxLen; omega) (by omega) ?_; intro g gc w7 hSc hat)
  all_goals
    go_ret
    exact ⟨_, rfl, hSc⟩

set_option maxRecDepth 100000 in
set_option maxHeartbeats 2000000 in
theorem hinsert_in {g cap : Nat} (h : Sts [.row THr 2 (.slice (some ⟨g, 0, none⟩) n cap) n xs, .pt B THr [a, b]] F w) (hn : n ≤ 1000000) (h1 : ∀ u ∈ [a, b], u.oneCell' = true) (h2 : ∀ u ∈ xs, u.oneCell' = true) (i : Nat) (hi : i < n) (hcap : n + 1 ≤ cap) :
    Calls Tryz.prog hinsF #[.slice (some ⟨g, 0, none⟩) n cap, .int .i64 i, .slice (some ⟨B, 0, none⟩) 1 1] w fun e w' => ∃ nv', e = .returned nv' ∧ St F w [.row THr 2 nv' (n + 1) (xs.take (i * 2) ++ [a, b] ++ xs.drop (i * 2)), .pt B THr [a, b]] w' := by
  have HS := hid (St.of h)
  obtain ⟨cur, hb, hcl, hnc, hcm, hct⟩ := Own.to_blk (HS.out.own 0)
  have hB := HS.out.blk 1
  have H1 := hid h1
  have h2c : ∀ u ∈ xs.drop (i * 2), u.oneCell' = true := fun u hu => h2 u (List.mem_of_mem_drop hu)
  have hxl : xs.length = n * 2 := (HS.out.own 0).1
  have hne : B ≠ g := by
    obtain ⟨F1, F2, k1, k2, k3, _⟩ := h
    have k2 := Sts.of_one k2
    intro e; subst e
    exact k3 B ((k1.2 B).2 rfl) ((k2.2 B).2 rfl)
  have H2 := hid h2c
  have Hct := hid hct
  have Hcl := hid hcl
  have Hxl := hid hxl
  have Hb := hid hb
  have HB := hid hB
  have Hov := fun oo la ca lb cb => hoverlaps_no hb hB hne (by omega) oo la ca lb cb
  have i0 : (0 : Int) ≤ (i : Int) := by omega
  have i1 : (i : Int) ≤ (n : Int) := by omega
  have i2 : ((i : Int) == (n : Int)) = false := by simp; omega
  have i3 : decide ((cap : Int) < (n : Int) + 1) = false := by simp; omega
  have i4 : (n : Int) + 1 ≤ (cap : Int) := by omega
  have i5 : (i : Int) + 1 ≤ (n : Int) + 1 := by omega
  have i6 : (i : Int) ≤ (n : Int) + 1 := by omega
  have i7 : ¬ cap = i := by omega
  have i8 : ¬ cap = i + 1 := by omega
  have t1 : ((n : Int) + 1).toNat = n + 1 := by omega
  have t2 : ((i : Int) + 1).toNat = i + 1 := by omega
  have hcm' : cap ≤ 9223372036854775807 := by unfold maxLen at hcm; exact hcm
  clear h h1 h2 h2c hct hcl hxl hb hB hcm
  go_enter Tryz.func148, Tryz.ntmps148
  go_wp2_with (simp only [Hov])
  have hsz2 : (Tryz.prog.info? THr).map (·.size) = some 2 := by
    obtain ⟨i, hi, h0, h1, h2⟩ := info_parts infoHr
    simp [hi, h1]
  have hd1 : (xs.drop (i * 2)).length = (n - i) * 2 := by rw [List.length_drop, Hxl.out]; omega
  have hm1 : Nat.min (n + 1 - i) (n + 1 - (i + 1)) = n - i := by show min _ _ = _; omega
  have hcx : ∀ (j : Nat) v, (xs.drop (i * 2))[j]? = some v → w.cell? ((⟨g, i * 2, none⟩ : Addr).add j) = some v := fun j v hj => by
    rw [add_at]
    rw [List.getElem?_drop, ← Hct.out, List.getElem?_take] at hj
    split at hj
    · exact Hb.out.at hj
    · cases hj
  refine wp_region_mix [true, true, true, true, true, true, true, true, false] 0 (fun _ => False) (by kernel_rfl) (by decide +kernel) ?_
  simp only [front, back, List.take_zero, List.drop_zero]
  repeat ((first | refine wpFront_load rfl ?_ | refine wpFront_other rfl ?_); (first | go_big_quiet_step (fail) | quiet_step (fail)); refine wpQuiet_nil ?_)
  refine wpFront_nil ?_
  simp only [wpSegs]
  refine wpList_copyS _ _ THrs THrs THr 2 Tryz.underlying173 hsz2 rfl rfl Hb.out.drew ((i + 1) * 2) (n + 1 - (i + 1)) (cap - (i + 1)) ⟨g, i * 2, none⟩ (n + 1 - i) (cap - i) (xs.drop (i * 2)) (by simp [Act.eval]) (by simp [Act.eval]) (by rw [hd1, hm1]) hcx (by rw [hd1, Hcl.out]; omega) H2.out ?_
  intro w1 hb1 hk1 hs1
  refine wpList_nil (NoPanic.normal ?_)
  have hB1 : Blk w1 B THr [a, b] := hk1.blk HB.out.drew hne
  have hm2 : Nat.min 1 (n + 1 - i) = 1 := by show min _ _ = _; omega
  clear hcx hm1
  go_wp2_with (refine wpList_copyS _ _ THrs THrs THr 2 Tryz.underlying173 hsz2 rfl rfl hb1 (i * 2) (n + 1 - i) (cap - i) ⟨B, 0, none⟩ 1 1 [a, b] rfl rfl (by rw [hm2]; rfl) (fun j v hj => by rw [add_at, Nat.zero_add]; exact hB1.at hj) (by simp only [List.length_append, List.length_take, List.length_drop, List.length_cons, List.length_nil, Hcl.out, Hxl.out]; omega) H1.out ?_; intro w2 hb2 hk2 hs2)
  go_ret
  refine ⟨_, rfl, ?_⟩
  have hkk : Keeps (fun k => k = g) w w2 := (((Keeps.refl (fun k => k = g) w).drew).trans hk1).trans hk2
  refine HS.out.turn 0 rfl fun F0 hF0 => ⟨F0, ⟨?_, fun b => hF0.2 b⟩, hkk.mono fun b hb => by rw [hb]; exact (hF0.2 g).2 rfl, fun _ => .inl⟩
  obtain ⟨q1, q2⟩ := hshift_list a b Hct.out Hcl.out hi hcap rfl
  have q3 := Own.of_blk hb2 q1 hcap hcm'
  rw [q2] at q3
  exact q3

theorem hgrow_list {xs zs : List Value} (a b : Value) {i n G : Nat} (hxl : xs.length = n * 2) (hl : (xs.take (i * 2) ++ zs).length = G * 2) (hi : i < n) (hG : n + 1 ≤ G) {L1 L2 : List Value}
    (h1 : L1 = (xs.take (i * 2) ++ zs).take (i * 2) ++ [a, b] ++ (xs.take (i * 2) ++ zs).drop (i * 2 + [a, b].length)) (h2 : L2 = L1.take ((i + 1) * 2) ++ xs.drop (i * 2) ++ L1.drop ((i + 1) * 2 + (xs.drop (i * 2)).length)) :
    L1.length = G * 2 ∧ L2.length = G * 2 ∧ L2.take ((n + 1) * 2) = xs.take (i * 2) ++ [a, b] ++ xs.drop (i * 2) := by
  have hdl : (xs.drop (i * 2)).length = (n - i) * 2 := by rw [List.length_drop, hxl]; omega
  have htl : (xs.take (i * 2)).length = i * 2 := by rw [List.length_take, hxl]; omega
  have hab : [a, b].length = 2 := rfl
  have e1 : (xs.take (i * 2) ++ zs).take (i * 2) = xs.take (i * 2) := List.take_left' htl
  have l1 : L1.length = G * 2 := by
    rw [h1, e1]
    simp only [List.length_append, List.length_drop, hab] at hl ⊢
    omega
  have e2 : L1.take ((i + 1) * 2) = xs.take (i * 2) ++ [a, b] := by
    rw [h1, e1]; exact List.take_left' (by simp only [List.length_append, htl, hab]; omega)
  have l2 : L2.length = G * 2 := by
    rw [h2, e2]
    simp only [List.length_append, List.length_drop, hab, l1, hdl, htl]
    omega
  refine ⟨l1, l2, ?_⟩
  rw [h2, e2]
  exact List.take_left' (by simp only [List.length_append, htl, hab, hdl]; omega)

set_option maxRecDepth 100000 in
set_option maxHeartbeats 2000000 in
theorem hinsert_grow {g cap : Nat} (h : Sts [.row THr 2 (.slice (some ⟨g, 0, none⟩) n cap) n xs, .pt B THr [a, b]] F w) (hn : n ≤ 1000000) (h1 : ∀ u ∈ [a, b], u.oneCell' = true) (h2 : ∀ u ∈ xs, u.oneCell' = true) (i : Nat) (hi : i < n) (hcap : cap < n + 1) :
    Calls Tryz.prog hinsF #[.slice (some ⟨g, 0, none⟩) n cap, .int .i64 i, .slice (some ⟨B, 0, none⟩) 1 1] w fun e w' => ∃ nv', e = .returned nv' ∧ St F w [.row THr 2 nv' (n + 1) (xs.take (i * 2) ++ [a, b] ++ xs.drop (i * 2)), .pt B THr [a, b]] w' := by
  have HS := hid (St.of h)
  have hown := HS.out.own 0
  obtain ⟨cur, hb, hcl, hnc, hcm, hct⟩ := Own.to_blk hown
  obtain rfl : cap = n := by omega
  have H1 := hid h1
  have h2c : ∀ u ∈ xs.drop (i * 2), u.oneCell' = true := fun u hu => h2 u (List.mem_of_mem_drop hu)
  have hxl : xs.length = cap * 2 := hown.1
  have H2 := hid h2c
  have Hxl := hid hxl
  have Hown := hid hown
  have HB := hid (HS.out.blk 1)
  have hgl := hb.lt
  have hBl := HB.out.lt
  have i0 : (0 : Int) ≤ (i : Int) := by omega
  have i1 : (i : Int) ≤ (cap : Int) := by omega
  have i2 : ((i : Int) == (cap : Int)) = false := by simp; omega
  have i3 : decide ((cap : Int) < (cap : Int) + 1) = true := by simp; omega
  have i5 : (i : Int) + 1 ≤ (cap : Int) + 1 := by omega
  have i6 : (i : Int) ≤ (cap : Int) + 1 := by omega
  have i7 : ¬ cap = i := by omega
  have t1 : ((cap : Int) + 1).toNat = cap + 1 := by omega
  have t2 : ((i : Int) + 1).toNat = i + 1 := by omega
  have hkk : (cap : Int) + 1 - (i : Int) = ((cap + 1 - i : Nat) : Int) := by omega
  have hik : i + (cap + 1 - i) = cap + 1 := by omega
  have hold : ∀ (j : Nat) u, (xs.take (i * 2))[j]? = some u → w.cell? ⟨g, j, none⟩ = some u := fun j u hj => by
    rw [List.getElem?_take] at hj
    split at hj
    · exact Hown.out.cells' (g := g) rfl hj
    · cases hj
  have Hold := hid hold
  have Hkk := hid hkk
  have Hik := hid hik
  clear h h1 h2 h2c hct hcl hxl hb hown hold hkk hik
  go_enter Tryz.func148, Tryz.ntmps148
  have hsz2 : (Tryz.prog.info? THr).map (·.size) = some 2 := by
    obtain ⟨i, hi, h0, h1, h2⟩ := info_parts infoHr
    simp [hi, h1]
  have hm2 : Nat.min 1 (cap + 1 - i) = 1 := by show min _ _ = _; omega
  go_wp2_with (first
    | (at_builtin; refine wpList_app_zeros _ _ THrs 3 THr (.agg #[.int .i64 0, .pointer none]) 2 16 .i64 .i64 infoHr Tryz.underlying173 Tryz.underlying3 rfl (by decide) rfl rfl g i cap (xs.take (i * 2)) rfl (by rw [List.length_take, Hxl.out]; omega) Hold.out (cap + 1 - i) (cap + 1) Hik.out (by omega) (by show Value.int .i64 _ = _; rw [← Hkk.out]) (by omega) (by unfold maxLen; omega) (by omega) ?_; intro g2 G w1 zs hb1 hl1 hG1 hG2 hg2 hk1; have i8 : ¬ G = i := (by omega); have hBw1 : Blk w1 B THr [a, b] := hk1.blk HB.out id; have Hg2 := hid hg2; have Hl1 := hid hl1; clear hg2 hl1)
    | (refine wpList_copyS _ _ THrs THrs THr 2 Tryz.underlying173 hsz2 rfl rfl hb1 (i * 2) (cap + 1 - i) (G - i) ⟨B, 0, none⟩ 1 1 [a, b] rfl rfl (by rw [hm2]; rfl) (fun j v hj => by rw [add_at, Nat.zero_add]; exact hBw1.at hj) (by rw [Hl1.out]; simp only [List.length_cons, List.length_nil]; omega) H1.out ?_; intro w2 hb2 hk2 hs2))
  have HG2 := hid hG2
  have i9 : ¬ G = i + 1 := by omega
  have hgg : g ≠ g2 := by have := Hg2.out; omega
  have hBg : B ≠ g2 := by have := Hg2.out; omega
  clear hG2
  have hcx : ∀ (j : Nat) v, (xs.drop (i * 2))[j]? = some v → w2.cell? ((⟨g, i * 2, none⟩ : Addr).add j) = some v := fun j v hj => by
    rw [add_at]
    rw [List.getElem?_drop] at hj
    have o2 := (Hown.out.keeps hk1 fun _ _ => id).keeps hk2 (fun b hb e => by simp only [Value.ownBlock, Option.some.injEq] at hb; omega)
    exact o2.cells' (g := g) rfl hj
  have Hcx := hid hcx
  have hd1 : (xs.drop (i * 2)).length = (cap - i) * 2 := by rw [List.length_drop, Hxl.out]; omega
  have hm1 : Nat.min (cap - i) (cap + 1 - (i + 1)) = cap - i := by show min _ _ = _; omega
  obtain ⟨g1, g3, g4⟩ := hgrow_list a b Hxl.out Hl1.out hi hG1 rfl rfl
  have G3 := hid g3
  have G4 := hid g4
  clear hcx g3 g4
  refine wp_region_mix [true, true, true, true, true, true, true, true, false] 0 (fun _ => False) (by kernel_rfl) (by decide +kernel) ?_
  simp only [front, back, List.take_zero, List.drop_zero]
  repeat ((first | refine wpFront_load rfl ?_ | refine wpFront_other rfl ?_); (first | go_big_quiet_step (fail) | quiet_step (fail)); refine wpQuiet_nil ?_)
  refine wpFront_nil ?_
  simp only [wpSegs]
  refine wpList_copyS _ _ THrs THrs THr 2 Tryz.underlying173 hsz2 rfl rfl hb2.drew ((i + 1) * 2) (cap + 1 - (i + 1)) (G - (i + 1)) ⟨g, i * 2, none⟩ (cap - i) (cap - i) (xs.drop (i * 2)) (by simp [Act.eval]) (by simp [Act.eval]) (by rw [hd1, hm1]) Hcx.out (by rw [g1, hd1]; omega) H2.out ?_
  intro w3 hb3 hk3 hs3
  refine wpList_nil (NoPanic.normal ?_)
  go_wp2_with fail
  go_ret
  refine ⟨.slice (some ⟨g2, 0, none⟩) (cap + 1) G, rfl, ?_⟩
  have k13 : Keeps (fun k => k = g2) w1 w3 := (hk2.drew).trans hk3
  have k03 : Keeps (fun _ => False) w w3 := hk1.trans' k13 fun b hb => .inr (by rw [hb, Hg2.out]; exact Nat.le_refl _)
  have q3 := Own.of_blk hb3 G3.out hG1 HG2.out
  rw [G4.out] at q3
  refine HS.out.turn 0 rfl fun F0 hF0 => ⟨fun b => b = g2, ⟨q3, fun b => ?_⟩, k03.mono fun b hb => hb.elim, fun b hb => .inr ?_⟩
  · rw [Value.ownBlock, Option.some.injEq]; exact eq_comm
  · rw [hb, Hg2.out]; exact Nat.le_refl _

theorem hinsert_any (h : Sts [.row THr 2 nv n xs, .pt B THr [a, b]] F w) (hn : n ≤ 1000000) (h1 : ∀ u ∈ [a, b], u.oneCell' = true) (h2 : ∀ u ∈ xs, u.oneCell' = true) (i : Nat) (hi : i ≤ n) :
    Calls Tryz.prog hinsF #[nv, .int .i64 i, .slice (some ⟨B, 0, none⟩) 1 1] w fun e w' => ∃ nv', e = .returned nv' ∧ St F w [.row THr 2 nv' (n + 1) (xs.take (i * 2) ++ [a, b] ++ xs.drop (i * 2)), .pt B THr [a, b]] w' := by
  have hown := (St.of h).own 0
  have hxl : xs.length = n * 2 := hown.1
  by_cases hlt : i < n
  · obtain ⟨g, cap, rfl, _⟩ := hown.form (by omega)
    by_cases hc : n + 1 ≤ cap
    · exact hinsert_in h hn h1 h2 i hlt hc
    · exact hinsert_grow h hn h1 h2 i hlt (by omega)
  · obtain rfl : i = n := by omega
    rw [List.take_of_length_le (by omega), List.drop_eq_nil_of_le (by omega), List.append_nil]
    exact hinsert_end h hn h1

theorem hrowsC_one (ns : List In.Row) : ∀ u ∈ hrowsC ns, u.oneCell' = true := by
  intro u hu
  simp only [hrowsC, List.mem_flatMap, List.mem_cons, List.not_mem_nil, or_false] at hu
  obtain ⟨r, _, rfl | rfl⟩ := hu <;> rfl
theorem hrowsC_laid (k : Int) (v : Nat) (ns : List In.Row) : hrowsC (In.laid k v ns) = (hrowsC ns).take (In.below k ns * 2) ++ [.int .i64 k, .pointer (some ⟨v, 0, none⟩)] ++ (hrowsC ns).drop (In.below k ns * 2) := by
  have hl : (hrowsC (ns.take (In.below k ns))).length = In.below k ns * 2 := by rw [hrowsC_len, List.length_take]; have := In.below_le k ns; omega
  have e : hrowsC ns = hrowsC (ns.take (In.below k ns)) ++ hrowsC (ns.drop (In.below k ns)) := by rw [← hrowsC_app, List.take_append_drop]
  conv => rhs; rw [e]
  rw [List.take_left' hl, List.drop_left' hl]
  simp [In.laid, hrowsC]

set_option maxRecDepth 100000 in
set_option maxHeartbeats 2000000 in
theorem hset_any {p o : Nat} {T : TypeId} {ys : List Value} {ns : List In.Row} (H : Sts [.pt p T ys, .row THr 2 nv ns.length (hrowsC ns)] F w) (ho : ys[o]? = some nv) (hr : In.Rise ns) (hn : ns.length ≤ 100000) (k : Int) (v : Nat) (hf : In.foundAt k ns = false) :
    Calls Tryz.prog 116 #[.pointer (some ⟨p, o, none⟩), .int .i64 k, .pointer (some ⟨v, 0, none⟩)] w fun e w' => e = .returned (.bool true) ∧ ∃ nv', St F w [.pt p T (ys.set o nv'), .row THr 2 nv' (ns.length + 1) (hrowsC (In.laid k v ns))] w' := by
  have HS := hid (St.of H)
  have hc := (HS.out.blk 0).at ho
  have hs := hfind_any hc (HS.out.own 1) hr (by omega) k
  have hble := In.below_le k ns
  rw [hf] at hs
  rw [hrowsC_laid]
  generalize In.below k ns = I at *
  clear H hf hr
  go_enter Tryz.func116, Tryz.ntmps116
  go_wp2_with fail
  refine hs.mono ?_; rintro e w2 ⟨rfl, k2⟩
  have HS2 := hid (HS.out.step k2)
  have hc2 := cellIn k2 hc
  clear hs hc HS k2
  have hS3 := HS2.out.new THr [.int .i64 k, .pointer (some ⟨v, 0, none⟩)]
  simp only [Kw.red] at hS3
  obtain ⟨F1, g1, _, hout, back⟩ := hS3.sel [1, 2]
  have hp : ¬ F1 p := hout 0 p T ys rfl
  have g2 : Sts [.row THr 2 nv ns.length (hrowsC ns), .pt w2.heap.size THr [.int .i64 k, .pointer (some ⟨v, 0, none⟩)]] F1 _ := g1
  have hi := hinsert_any g2 (by omega) (by intro u hu; simp only [List.mem_cons, List.not_mem_nil, or_false] at hu; rcases hu with rfl | rfl <;> rfl) (hrowsC_one ns) I hble
  clear hS3 g1 g2 HS2
  go_wp2_with fail
  refine hi.mono ?_; rintro e w4 ⟨nv', rfl, hS⟩
  have hS := back hS
  simp only [Kw.red] at hS
  have hc4 := (hS.blk 0).at ho
  have hz4 := (hS.blk 0).fz o
  obtain ⟨na, nc, rfl, _⟩ := (hS.own 1).shape
  have HS4 := hid hS
  clear hS back hi hc2
  go_wp2_with fail
  go_ret
  refine ⟨rfl, .slice na (ns.length + 1) nc, ?_⟩
  exact (HS4.out.set 0 o (.slice na (ns.length + 1) nc)).sub [0, 1]
end
end Go.Proofs.YtnkjjhenfhnajaaGreatDoor

/-
  The units' table in memory; New, Len, Free, walked.
-/
namespace Go.Proofs.YtnkjjhenfhnajaaGreatDoor
open Go.RowKit Go.Kw Go.Kreg Go.Tm Go.Um
set_option linter.unusedSimpArgs false
set_option linter.unusedVariables false

abbrev TUt : Nat := 177
abbrev THo : Nat := 192
abbrev TLk : Nat := 195
theorem infoLk : (Tryz.prog.info? TLk).map (fun i => (i.zero, i.size, i.bytes)) = some (some (.agg #[.int .i64 0, .int .i64 0]), 2, 16) := by kernel_rfl
def locksC (l : List Tkn) : List Value := l.flatMap fun x => [.int .i64 x.res, .int .i64 x.n]
theorem locksC_app (l r : List Tkn) : locksC (l ++ r) = locksC l ++ locksC r := by simp [locksC]
def holdCs (l : List Tkn) (j : Int) (a : Nat) (lv : Value) : List Ch := [.pt a THo (lv :: intsC (heldL l j)), .row TLk 2 lv (l.filter (ofJob j)).length (locksC (l.filter (ofJob j)))]
def holdC (l : List Tkn) (j : Int) (a : Nat) : Ch := .ex fun lv => .stars (holdCs l j a lv)
structure UX where
  uv : Value
  fv : Value
  cv : Value
  jv : Value
  ns : List In.Row
def unitsCs (p : Nat) (m : UM) (x : UX) : List Ch :=
  [.pt p TUt [x.uv, x.fv, x.cv, x.jv], .row TI' 1 x.uv m.us.length (intsC m.us), .row TI' 1 x.fv m.us.length (intsC m.frees), .row TI' 1 x.cv m.us.length (intsC m.cs), .row THr 2 x.jv x.ns.length (hrowsC x.ns),
    .stars (x.ns.map fun a => holdC m.l a.1 a.2), .pr (m.Ok ∧ Jobs m.l x.ns)]
def unitsC (p : Nat) (m : UM) : Ch := .ex fun x => .stars (unitsCs p m x)

/-- The table, read. -/
structure UAt (w : World) (p : Nat) (m : UM) (x : UX) : Prop where
  c0 : w.cell? ⟨p, 0, none⟩ = some x.uv
  c1 : w.cell? ⟨p, 1, none⟩ = some x.fv
  uns : Own w TI' 1 x.uv m.us.length (intsC m.us)
  frs : Own w TI' 1 x.fv m.us.length (intsC m.frees)
  ok : m.Ok
  c3 : w.cell? ⟨p, 3, none⟩ = some x.jv
  jb : Own w THr 2 x.jv x.ns.length (hrowsC x.ns)
  jo : Jobs m.l x.ns
theorem u_at {w w0 : World} {F0 : Nat → Prop} {cs : List Ch} {p : Nat} {m : UM} (i : Nat) (hS : St F0 w0 cs w) (hi : cs.getD i .emp = unitsC p m := by rfl) : ∃ x, UAt w p m x := by
  obtain ⟨G, h, _⟩ := hS.at i hi
  obtain ⟨x, h⟩ := h
  have hS := St.of (cs := unitsCs p m x) h
  have hb := hS.blk 0
  obtain ⟨_, hp, _⟩ := hS.at 6 rfl
  exact ⟨x, hb.cell 0, hb.cell 1, hS.own 1, hS.own 2, hp.1.1, hb.cell 3, hS.own 4, hp.1.2⟩
theorem UAt.keeps {w w' : World} {p : Nat} {m : UM} {x : UX} (h : UAt w p m x) (hk : Keeps (fun _ => False) w w') : UAt w' p m x :=
  ⟨cellIn hk h.c0, cellIn hk h.c1, h.uns.keeps hk fun _ _ => id, h.frs.keeps hk fun _ _ => id, h.ok, cellIn hk h.c3, h.jb.keeps hk fun _ _ => id, h.jo⟩
theorem UAt.few {w : World} {p : Nat} {m : UM} {x : UX} (h : UAt w p m x) : x.ns.length ≤ 100000 := by
  have := h.jo.few; have := locks_few h.ok; omega

def UM.start (us : List Int) : UM := ⟨us, [], List.replicate us.length 0⟩
theorem start_ok {us : List Int} (h1 : us.length ≤ 16) (h2 : ∀ (i : Nat) n, us[i]? = some n → 1 ≤ n ∧ n ≤ 255) : (UM.start us).Ok := by
  refine ⟨h1, fun u hu => ?_, fun x hx => by simp [UM.start] at hx, fun r hr => ?_, by simp [UM.start]⟩
  · obtain ⟨i, hi⟩ := List.getElem?_of_mem hu
    exact h2 i u hi
  · have hr' := hr
    unfold UM.has UM.start at hr'
    simp only at hr'
    have hl : r.toNat < us.length := by omega
    have := h2 r.toNat us[r.toNat] (List.getElem?_eq_getElem hl)
    show (0 : Int) ≤ us.getD r.toNat 0
    rw [List.getD_eq_getElem?_getD, List.getElem?_eq_getElem hl]
    show 0 ≤ us[r.toNat]
    omega
theorem start_frees (us : List Int) : (UM.start us).frees = us := by
  refine List.ext_getElem? fun i => ?_
  unfold UM.frees UM.start UM.tot
  rw [List.getElem?_map]
  by_cases hi : i < us.length
  · rw [List.getElem?_range hi, List.getElem?_eq_getElem hi]
    simp [sumOf, List.getD_eq_getElem?_getD, List.getElem?_eq_getElem hi]
  · rw [List.getElem?_eq_none (by simp; omega), List.getElem?_eq_none (by omega)]; rfl

theorem st_addFull {w w' w0 : World} {F0 : Nat → Prop} {cs : List Ch} {g n : Nat} {T : TypeId} {xs : List Value} (hS : St F0 w0 cs w) (hb : Blk w' g T xs) (hl : xs.length = n) (hk : Keeps (fun _ => False) w w') (hg : w.heap.size ≤ g) (hn : n ≤ maxLen) :
    St F0 w0 (cs ++ [.row T 1 (.slice (some ⟨g, 0, none⟩) n n) n xs]) w' := by
  have ho := Own.of_blk (n := n) (cap := n) (sz := 1) hb (by omega) (Nat.le_refl _) hn
  rw [List.take_of_length_le (by omega)] at ho
  exact hS.add hk (G := fun b => (Value.slice (some ⟨g, 0, none⟩) n n).ownBlock = some b) (c := .row T 1 (.slice (some ⟨g, 0, none⟩) n n) n xs) ⟨ho, fun _ => Iff.rfl⟩ fun b hb => by
    simp only [Value.ownBlock, Option.some.injEq] at hb; rw [← hb]; exact hg
/-- What New's box makes. -/
theorem st_units {w w0 : World} {F0 : Nat → Prop} {us : List Int} {uv fv cv : Value} (hok : (UM.start us).Ok)
    (hS : St F0 w0 [.row TI' 1 uv us.length (intsC us), .row TI' 1 fv us.length (intsC us), .row TI' 1 cv us.length (List.replicate us.length (.int .i64 0))] w) :
    St F0 w0 [unitsC w.heap.size (UM.start us)] (w.alloc (.cells #[uv, fv, cv, .slice none 0 0] TUt)) := by
  have hS2 := hS.new TUt [uv, fv, cv, .slice none 0 0]
  have hS3 := hS2.add (Keeps.refl (fun _ => False) _) (G := fun _ => False) (c := .row THr 2 (.slice none 0 0) 0 (hrowsC [])) ⟨⟨rfl, .inl ⟨rfl, rfl⟩⟩, fun b => by simp [Value.ownBlock]⟩ (fun _ h => h.elim)
  have hS4 := hS3.add (Keeps.refl (fun _ => False) _) (G := fun _ => False) (c := .stars []) (fun _ => id) (fun _ h => h.elim)
  have hS5 := hS4.add (Keeps.refl (fun _ => False) _) (G := fun _ => False) (c := .pr ((UM.start us).Ok ∧ Jobs (UM.start us).l [])) ⟨⟨hok, Jobs.nil⟩, fun _ => id⟩ (fun _ h => h.elim)
  have hS6 := hS5.fold [3, 0, 1, 2, 4, 5, 6] (unitsC w.heap.size (UM.start us)) (fun F h => ⟨⟨uv, fv, cv, .slice none 0 0, []⟩, by
    have h2 : Sts [.pt w.heap.size TUt [uv, fv, cv, .slice none 0 0], .row TI' 1 uv us.length (intsC us), .row TI' 1 fv us.length (intsC us), .row TI' 1 cv us.length (List.replicate us.length (.int .i64 0)), .row THr 2 (.slice none 0 0) 0 (hrowsC []), .stars [], .pr ((UM.start us).Ok ∧ Jobs (UM.start us).l [])] F _ := h
    show Sts (unitsCs _ _ _) F _
    unfold unitsCs
    rw [start_frees, show intsC (UM.start us).cs = List.replicate us.length (.int .i64 0) by simp [UM.start, intsC]]
    exact h2⟩)
  exact hS6.sub [3]

section
variable {w : World} {v : Value}
set_option maxRecDepth 100000 in
set_option maxHeartbeats 2000000 in
theorem unew_any {us : List Int} (hv : SlIn w v us) (hb1 : us.length ≤ 16) (hb2 : ∀ (i : Nat) n, us[i]? = some n → 1 ≤ n ∧ n ≤ 255) :
    Calls Tryz.prog 44 #[v] w fun e w' => ∃ p, e = .returned (.tuple #[.pointer (some ⟨p, 0, none⟩), .int .i64 0]) ∧ St (fun _ => False) w [unitsC p (UM.start us)] w' := by
  have hv' := hv
  obtain ⟨ao, c, rfl, hl, hlc, hcm, hc, h0⟩ := hv
  have b3 : decide ((16 : Int) < (us.length : Int)) = false := by simp; omega
  have Hv := hid hv'
  have Hc := hid hc
  have Hok := hid (start_ok hb1 hb2)
  have Hb2 := hid hb2
  clear hv' hc h0 hb2
  go_enter Tryz.func44, Tryz.ntmps44
  go_wp2_with fail
  go_loopw [11] (fun y wr => ∃ k : Nat, k ≤ us.length ∧ y = .int .i64 k ∧ wr = w) (fun y _ => us.length - (intOf y).toNat)
  case atStart => exact ⟨0, Nat.zero_le _, rfl, rfl⟩
  case round =>
    obtain ⟨k, hk, rfl, rfl⟩ := hrel
    by_cases hlt : k < us.length
    · have b4 : decide (k < us.length) = true := by simpa using hlt
      have hx := List.getElem?_eq_getElem hlt
      obtain ⟨b, o, rfl, d0⟩ := Hc.out k _ hx
      have hn := Hb2.out k _ hx
      generalize us[k] = n at *
      have i0 : (0 : Int) ≤ (k : Int) := by omega
      have i1 : (k : Int) < (us.length : Int) := by omega
      have c1 : decide (n < 1) = false := by simp; omega
      have c2 : decide (255 < n) = false := by simp; omega
      clear hx hn
      go_wp2_with fail
      go_roundw
      case rel => exact ⟨k + 1, by omega, by go_num, by trivial⟩
      case measure => simp [intOf]; omega
    · have b4 : decide (k < us.length) = false := by simpa using hlt
      have HK0 := hid (St.start wr)
      have hcl := fun w' (h : SlIn w' (.slice ao us.length c) us) => cloneI_any h (by omega)
      go_wp2_with fail
      refine wp_region_tree [true, false, true, false, true, true, false, false, false, false, false] 3 (.two 1 (.two 3 (.one 6 .done) 6 (.one 3 .done)) 6 (.one 1 (.one 3 .done))) (fun _ => False) (by kernel_rfl) (by decide +kernel) ?_
      simp only [front, back, List.drop_succ_cons, List.drop_zero]
      repeat ((first | refine wpFront_load rfl ?_ | refine wpFront_other rfl ?_); (first | go_big_quiet_step (fail) | quiet_step (fail)); refine wpQuiet_nil ?_)
      refine wpFront_nil ?_
      simp only [wpTr]
      refine And.intro ?_ ?_
      · refine at'_of rfl ?_
        go_wp2_with fail
        refine (hcl _ (Hv.out.new (Keeps.refl _ _).drew)).mono ?_; rintro e w2 ⟨uv, rfl, hA⟩
        have hS2 := HK0.out.drew.adds hA
        have HS2 := hid hS2
        obtain ⟨xa, xc, rfl, -⟩ := (hS2.own 0).shape
        clear hA hS2
        go_wp2_with fail
        refine segQ_normal HS2.out.keeps ?_
        refine And.intro ?_ ?_
        · refine at'_of rfl ?_
          go_wp2_with fail
          refine (hcl _ (Hv.out.new HS2.out.keeps)).mono ?_; rintro e w3 ⟨fv, rfl, hA⟩
          have hS3 := HS2.out.adds hA
          have HS3 := hid hS3
          obtain ⟨ya, yc, rfl, -⟩ := (hS3.own 1).shape
          clear hA hS3
          go_wp2_with fail
          refine segQ_normal HS3.out.keeps ?_
          refine at'_of rfl ?_
          refine wpList_mkfull _ _ 22 TI' (.int .i64 0) 8 infoI Tryz.underlying22 rfl rfl rfl .i64 .i64 _ _ us.length rfl rfl rfl rfl (by omega) (by unfold maxLen; omega) ?_
          intro w4 hb4 hk4 hg4
          have HS4 := hid (st_addFull (n := us.length) HS3.out hb4 (by simp) hk4 (Nat.le_refl _) (by unfold maxLen; omega))
          clear hb4
          go_wp2_with fail
          refine segQ_normal HS4.out.keeps ?_
          have hF := st_units Hok.out HS4.out
          rw [hg4] at hF
          have HF := hid hF
          clear hF
          go_wp2_with fail
          refine NoPanic.normal ?_
          go_wp2_with fail
          go_ret2
          exact ⟨_, rfl, HF.out⟩
        · refine at'_of rfl ?_
          refine wpList_mkfull _ _ 22 TI' (.int .i64 0) 8 infoI Tryz.underlying22 rfl rfl rfl .i64 .i64 _ _ us.length rfl rfl rfl rfl (by omega) (by unfold maxLen; omega) ?_
          intro w4 hb4 hk4 hg4
          have HS4 := hid (st_addFull (n := us.length) HS2.out hb4 (by simp) hk4 (Nat.le_refl _) (by unfold maxLen; omega))
          clear hb4
          go_wp2_with fail
          refine segQ_normal HS4.out.keeps ?_
          refine at'_of rfl ?_
          go_wp2_with fail
          refine (hcl _ (Hv.out.new HS4.out.keeps)).mono ?_; rintro e w3 ⟨fv, rfl, hA⟩
          have hS3 := HS4.out.adds hA
          have HS3 := hid (show St (fun _ => False) _ [.row TI' 1 (.slice xa us.length xc) us.length (intsC us), .row TI' 1 fv us.length (intsC us), .row TI' 1 _ us.length _] w3 from hS3.sub [0, 2, 1])
          obtain ⟨ya, yc, rfl, -⟩ := (hS3.own 2).shape
          clear hA hS3
          go_wp2_with fail
          refine segQ_normal HS3.out.keeps ?_
          have HF := hid (st_units Hok.out HS3.out)
          go_wp2_with fail
          refine NoPanic.normal ?_
          go_wp2_with fail
          go_ret2
          exact ⟨_, rfl, HF.out⟩
      · refine at'_of rfl ?_
        refine wpList_mkfull _ _ 22 TI' (.int .i64 0) 8 infoI Tryz.underlying22 rfl rfl rfl .i64 .i64 _ _ us.length rfl rfl rfl rfl (by omega) (by unfold maxLen; omega) ?_
        intro w4 hb4 hk4 hg4
        have HS4 := hid (st_addFull (n := us.length) HK0.out.drew hb4 (by simp) hk4 (Nat.le_refl _) (by unfold maxLen; omega))
        clear hb4
        go_wp2_with fail
        refine segQ_normal HS4.out.keeps ?_
        refine at'_of rfl ?_
        go_wp2_with fail
        refine (hcl _ (Hv.out.new HS4.out.keeps)).mono ?_; rintro e w2 ⟨uv, rfl, hA⟩
        have hS2 := HS4.out.adds hA
        have HS2 := hid hS2
        obtain ⟨xa, xc, rfl, -⟩ := (hS2.own 1).shape
        clear hA hS2
        go_wp2_with fail
        refine segQ_normal HS2.out.keeps ?_
        refine at'_of rfl ?_
        go_wp2_with fail
        refine (hcl _ (Hv.out.new HS2.out.keeps)).mono ?_; rintro e w3 ⟨fv, rfl, hA⟩
        have hS3 := HS2.out.adds hA
        have HS3 := hid (show St (fun _ => False) _ [.row TI' 1 (.slice xa us.length xc) us.length (intsC us), .row TI' 1 fv us.length (intsC us), .row TI' 1 _ us.length _] w3 from hS3.sub [1, 2, 0])
        obtain ⟨ya, yc, rfl, -⟩ := (hS3.own 2).shape
        clear hA hS3
        go_wp2_with fail
        refine segQ_normal HS3.out.keeps ?_
        have HF := hid (st_units Hok.out HS3.out)
        go_wp2_with fail
        refine NoPanic.normal ?_
        go_wp2_with fail
        go_ret2
        exact ⟨_, rfl, HF.out⟩
end
end Go.Proofs.YtnkjjhenfhnajaaGreatDoor

/-
  units: has, Len, Free, of, walked.
-/
namespace Go.Proofs.YtnkjjhenfhnajaaGreatDoor
open Go.RowKit Go.Kw Go.Kreg Go.Tm Go.Um
set_option linter.unusedSimpArgs false
set_option linter.unusedVariables false

section
variable {w : World} {p : Nat} {m : UM} {x : UX}
set_option maxRecDepth 100000 in
theorem uhas_any (h : UAt w p m x) (r : Int) : Calls Tryz.prog 113 #[.pointer (some ⟨p, 0, none⟩), .int .i64 r] w fun e w' => e = .returned (.bool (decide (m.has r))) ∧ w = w' := by
  have hc := h.c0
  obtain ⟨a, c, e, -⟩ := h.uns.shape
  rw [e] at hc
  obtain ⟨R, hR⟩ : ∃ R, decide (m.has r) = R := ⟨_, rfl⟩
  rw [hR]
  unfold UM.has at hR
  clear h e
  by_cases h0 : 0 ≤ r
  · have b0 : decide (0 ≤ r) = true := by simpa using h0
    by_cases h1 : r < m.us.length
    · have b1 : decide (r < (m.us.length : Int)) = true := by simpa using h1
      obtain rfl : R = true := by rw [← hR]; simp [h0, h1]
      clear hR h0 h1
      go_enter Tryz.func113, Tryz.ntmps113
      go_wp2_with fail
      go_ret
      exact ⟨rfl, rfl⟩
    · have b1 : decide (r < (m.us.length : Int)) = false := by simpa using h1
      obtain rfl : R = false := by rw [← hR]; simp [h0, h1]
      clear hR h0 h1
      go_enter Tryz.func113, Tryz.ntmps113
      go_wp2_with fail
      go_ret
      exact ⟨rfl, rfl⟩
  · have b0 : decide (0 ≤ r) = false := by simpa using h0
    obtain rfl : R = false := by rw [← hR]; simp [h0]
    clear hR h0
    go_enter Tryz.func113, Tryz.ntmps113
    go_wp2_with fail
    go_ret
    exact ⟨rfl, rfl⟩
set_option maxRecDepth 100000 in
theorem ulen_any (h : UAt w p m x) : Calls Tryz.prog 110 #[.pointer (some ⟨p, 0, none⟩)] w fun e w' => e = .returned (.int .i64 m.us.length) ∧ w = w' := by
  have hc := h.c0
  obtain ⟨a, c, e, -⟩ := h.uns.shape
  rw [e] at hc
  clear h e
  go_enter Tryz.func110, Tryz.ntmps110
  go_wp2_with fail
  go_ret
  exact ⟨rfl, rfl⟩
set_option maxRecDepth 100000 in
theorem ufree_any (h : UAt w p m x) (r : Int) : Calls Tryz.prog 112 #[.pointer (some ⟨p, 0, none⟩), .int .i64 r] w fun e w' => e = .returned (.int .i64 (m.free r)) ∧ w = w' := by
  have HH := hid (uhas_any h r)
  have hc := h.c1
  obtain ⟨R, hR⟩ : ∃ R, m.free r = R := ⟨_, rfl⟩
  rw [hR]
  by_cases hh : m.has r
  · have hh2 := hh
    unfold UM.has at hh2
    obtain ⟨k, rfl⟩ := Int.eq_ofNat_of_zero_le hh2.1
    have hk : k < m.us.length := by omega
    have hf := frees_at m hk
    rw [hR] at hf
    obtain ⟨g, cap, e, -⟩ := h.frs.form (by omega)
    have ho := h.frs
    rw [e] at ho hc
    have d0 := ho.cells' (g := g) rfl (intsC_at hf)
    rw [decide_eq_true hh] at HH
    have i0 : (0 : Int) ≤ (k : Int) := by omega
    have i1 : (k : Int) < (m.us.length : Int) := by omega
    clear h hf ho e hR hh
    go_enter Tryz.func112, Tryz.ntmps112
    go_wp2_with fail
    refine HH.out.mono ?_; rintro e w1 ⟨rfl, rfl⟩
    go_wp2_with fail
    go_ret
    exact ⟨rfl, rfl⟩
  · obtain rfl : R = 0 := by rw [← hR]; unfold UM.free; rw [if_neg hh]
    rw [decide_eq_false hh] at HH
    clear h hR hh
    go_enter Tryz.func112, Tryz.ntmps112
    go_wp2_with fail
    refine HH.out.mono ?_; rintro e w1 ⟨rfl, rfl⟩
    go_wp2_with fail
    go_ret
    exact ⟨rfl, rfl⟩
end
end Go.Proofs.YtnkjjhenfhnajaaGreatDoor

/-
  units.Table.Lock, walked.
-/
namespace Go.Proofs.YtnkjjhenfhnajaaGreatDoor
open Go.RowKit Go.Kw Go.Kreg Go.Tm Go.Um
set_option linter.unusedSimpArgs false
set_option linter.unusedVariables false

abbrev THd : Nat := 183
abbrev z16 : List Value := [.int .i64 0, .int .i64 0, .int .i64 0, .int .i64 0, .int .i64 0, .int .i64 0, .int .i64 0, .int .i64 0, .int .i64 0, .int .i64 0, .int .i64 0, .int .i64 0, .int .i64 0, .int .i64 0, .int .i64 0, .int .i64 0]
theorem z16_eq : intsC (List.replicate 16 0) = z16 := rfl
theorem sizeHd : (Tryz.prog.info? THd).map (·.size) = some 16 := by kernel_rfl
theorem results_c1 {P : Program} {fn : Func} {p : Tmp} {ty : TypeId} (h : fn.results = #[.cell p ty]) (tmps : Array Value) (w : World) (g : Nat) (t : TypeId) (cs : Array Value) (fr : Nat × Nat) (d : TypeDesc)
    (hp : tmps.getD p undef = .pointer (some ⟨g, 0, none⟩)) (hg : w.heap[g]? = some (.cells cs t fr))
    (hu : P.underlying ty = some d) (hd : (match d with | .struct _ | .array _ _ => true | _ => false) = true) (hi : (P.info? ty).map (·.size) = some cs.size) :
    (results fn tmps).run P w = .ok (.agg cs) w := by
  have hp' : tmps[p]?.getD undef = .pointer (some ⟨g, 0, none⟩) := by simpa using hp
  simp [results, h, hp', asAddr, run_loadVar_row w g t ty cs fr d hg hu hd hi]
theorem run_idxH (w : World) (g o : Nat) {j : Nat} (hj : j < 16) : (Instr.indexAt THd (.pointer (some ⟨g, o, none⟩)) (.int .i64 j)).run Tryz.prog w = .ok (.pointer (some ⟨g, o + j, none⟩)) w := by
  have hal : Tryz.prog.arrayLen THd = 16 := by kernel_rfl
  have hel : Tryz.prog.elem THd = 3 := by kernel_rfl
  have hz : (Go.sizeOf 3).run Tryz.prog w = .ok 1 w := by
    have hi : (Tryz.prog.info? 3).map (·.size) = some 1 := by kernel_rfl
    cases hq : Tryz.prog.info? 3 with
    | none => simp [hq] at hi
    | some i =>
      simp only [hq, Option.map_some, Option.some.injEq] at hi
      simp [sizeOf, typeInfo, hq, hi]
  rw [run_indexAt_array w THd _ _ _ (by kernel_rfl), hal, hel, if_pos ⟨by omega, by omega⟩, hz]
  simp [Result.andThen, add_at]
theorem wpFront_idxH {ops : Array Oper} {C : World → Prop} {Lq : Act → Prop} {a : Act} {o : Oper} {rest : List Oper} {x ix : Operand} {g f j : Nat}
    (hgd : o.guard = none) (ho : o.op = .indexAddr THd x ix) (hx : a.eval x = .pointer (some ⟨g, f, none⟩)) (hix : a.eval ix = .int .i64 j) (hj : j < 16)
    (h : wpFront Tryz.prog ops C Lq rest (a.put o.dst (.pointer (some ⟨g, f + j, none⟩)))) : wpFront Tryz.prog ops C Lq (o :: rest) a := by
  refine wpFront_other (by rw [ho]; rfl) ?_
  refine wpQuiet_step fun K hK => ?_
  have hw : Region.wanted o (yielded ops a.tmps) = true := by unfold Region.wanted; rw [hgd]
  rw [if_pos hw]
  refine ⟨.pointer (some ⟨g, f + j, none⟩), fun w' hw' => ?_, hK _ h⟩
  unfold Oper.quietAt
  simp [execOp, ho, hx, hix, run_idxH w' g f hj, Oper.quietUpon, Result.andThen]
section
variable {w : World} {p : Nat} {m : UM} {x : UX}
set_option maxRecDepth 100000 in
set_option maxHeartbeats 1000000 in
theorem uof_none (h : UAt w p m x) (j : Int) (hf : In.foundAt j x.ns = false) : Calls Tryz.prog 114 #[.pointer (some ⟨p, 0, none⟩), .int .i64 j] w fun e w' => e = .returned (.agg (intsC (List.replicate 16 0)).toArray) ∧ Keeps (fun _ => False) w w' := by
  have hg := hget_any h.c3 h.jb h.jo.1 (by have := h.few; omega) j
  rw [hf] at hg
  have HG := hid (hget_any (cellIn ((Keeps.refl (fun _ => False) w).alloc (.cells z16.toArray THd)) h.c3) (h.jb.keeps ((Keeps.refl (fun _ => False) w).alloc (.cells z16.toArray THd)) fun _ _ => id) h.jo.1 (by have := h.few; omega) j)
  rw [hf] at HG
  have HS := hid ((St.start w).new THd z16)
  rw [z16_eq]
  clear h hf hg
  go_enter Tryz.func114, Tryz.ntmps114
  go_wp2_with fail
  refine HG.out.mono ?_; rintro e w1 ⟨rfl, k1⟩
  have HS1 := hid (HS.out.step k1)
  clear HS k1
  go_wp2_with (refine wpList_storeS 0 THd _ _ rfl rfl z16 HS1.out rfl rfl rfl sizeHd rfl (by decide) ?_; intro w3 hS3; simp only [Kw.red] at hS3)
  refine bodyPost_ret (v := .agg z16.toArray) (results_c1 Tryz.results114 _ _ w.heap.size THd _ (0, 0) _ rfl (hS3.blk 0) Tryz.underlying183 rfl sizeHd) rfl ?_
  exact ⟨rfl, hS3.keeps⟩
end
abbrev TLks : Nat := 188
set_option maxRecDepth 100000 in
set_option maxHeartbeats 2000000 in
theorem lockPush_any {w : World} {F : Nat → Prop} {p n : Nat} {T : TypeId} {ys xs : List Value} {rv : Value} (H : Sts [.pt p T ys, .row TLk 2 rv n xs] F w) (ho : ys[0]? = some rv) (hn : n ≤ 1000000) (a b : Int) :
    Calls Tryz.prog 117 #[.pointer (some ⟨p, 0, none⟩), .agg #[.int .i64 a, .int .i64 b]] w fun r w' => r = .returned (.tuple #[]) ∧
      ∃ rv', St F w [.pt p T (ys.set 0 rv'), .row TLk 2 rv' (n + 1) (xs ++ [.int .i64 a, .int .i64 b])] w' := by
  have hcell := ((St.of H).blk 0).at ho
  have hfz := ((St.of H).blk 0).fz 0
  have hS := (St.of H).new TLk [.int .i64 a, .int .i64 b]
  simp only [Kw.red] at hS
  have c0 := (hS.blk 2).cell 0
  have c1 := (hS.blk 2).cell 1
  simp only [List.getElem?_cons_zero, List.getElem?_cons_succ] at c0 c1
  have hpw : p < w.heap.size := ((St.of H).blk 0).lt
  obtain ⟨ra, rc, rfl, -⟩ := ((St.of H).own 1).shape
  have HS := hid hS
  clear hS H
  go_enter Tryz.func117, Tryz.ntmps117
  go_wp2_with fail
  refine wp_region_mix [true, true, true, true, true, true, false, false, false, false, false] 1 (fun _ => False) (by kernel_rfl) (by decide +kernel) ?_
  simp only [front, back, List.take_succ_cons, List.take_zero, List.drop_succ_cons, List.drop_zero]
  repeat ((first | refine wpFront_load rfl ?_ | refine wpFront_other rfl ?_); (first | go_big_quiet_step (fail) | quiet_step (fail)); refine wpQuiet_nil ?_)
  refine wpFront_nil ?_
  simp only [wpSegs]
  go_wp2_with fail
  refine segQ_normal (((Keeps.refl _ _).alloc _).drew) ?_
  have hSb := (HS.out.new TLk [.int .i64 a, .int .i64 b]).drew
  simp only [Kw.red] at hSb
  rw [show (w.alloc (.cells [Value.int .i64 a, .int .i64 b].toArray TLk)).heap.size = w.heap.size + 1 by simp] at hSb
  refine wpList_appS 1 3 _ _ TLks TLk (.agg #[.int .i64 0, .int .i64 0]) 2 16 infoLk Tryz.underlying188 rfl (by decide) rfl rfl hSb rfl rfl rfl rfl rfl (by simp [Value.oneCell']) (by omega) (by unfold maxLen; omega) (by omega) ?_
  intro gb gc w7 hSc hat
  have hc7 := (hSc.blk 0).at ho
  have hfz7 := (hSc.blk 0).fz 0
  clear c0 c1 hcell hfz
  go_wp2_with fail
  refine NoPanic.normal ?_
  go_wp2_with fail
  go_end0
  refine ⟨rfl, .slice (some ⟨gb, 0, none⟩) (n + 1) gc, ?_⟩
  exact (hSc.set 0 0 (.slice (some ⟨gb, 0, none⟩) (n + 1) gc)).sub [0, 1]
theorem Sts.perm' {cs ds : List Ch} (h : cs.Perm ds) {w : World} : ∀ {F : Nat → Prop}, Sts cs F w → Sts ds F w := by
  induction h with
  | nil => intro F h; exact h
  | cons c _ ih =>
    rintro F ⟨F1, F2, h1, h2, h3, h4⟩
    exact ⟨F1, F2, h1, ih h2, h3, h4⟩
  | swap a b l =>
    rintro F ⟨F1, F2, h1, ⟨F3, F4, g1, g2, g3, g4⟩, h3, h4⟩
    refine ⟨F3, fun x => F1 x ∨ F4 x, g1, ⟨F1, F4, h1, g2, fun x hx hy => h3 x hx ((g4 x).2 (.inr hy)), fun _ => Iff.rfl⟩, fun x hx hy => ?_, fun x => ?_⟩
    · rcases hy with hy | hy
      · exact h3 x hy ((g4 x).2 (.inl hx))
      · exact g3 x hx hy
    · rw [h4 x, g4 x]
      constructor
      · rintro (h | h | h)
        · exact .inr (.inl h)
        · exact .inl h
        · exact .inr (.inr h)
      · rintro (h | h | h)
        · exact .inr (.inl h)
        · exact .inl h
        · exact .inr (.inr h)
  | trans _ _ ih1 ih2 => intro F h; exact ih2 (ih1 h)
theorem idxH (w : World) (L : List Int) (hL : L.length = 16) {k : Nat} {n : Int} (hk : L[k]? = some n) : (Instr.index THd (.agg (intsC L).toArray) (.int .i64 k)).run Tryz.prog w = .ok (.int .i64 n) w := by
  obtain ⟨i, hi, h0, h1, h2⟩ := info_parts infoI
  have hlt := (List.getElem?_eq_some_iff.1 hk).1
  have hx := intsC_at hk
  simp [Instr.index, asIntOf, run_underlying Tryz.underlying183, sizeOf, typeInfo, hi, h1, part, hx]
  intro h; omega
theorem holdC_other {l : List Tkn} {t : Tkn} {j : Int} (h : t.job ≠ j) (a : Nat) : holdC (l ++ [t]) j a = holdC l j a := by
  have e1 : ∀ lv, holdCs (l ++ [t]) j a lv = holdCs l j a lv := fun lv => by
    unfold holdCs
    rw [heldL_other l t h, List.filter_append]
    simp [ofJob, h]
  unfold holdC
  simp only [e1]
theorem held_map {l : List Tkn} {t : Tkn} {ns : List In.Row} (h : ∀ a ∈ ns, t.job ≠ a.1) : ns.map (fun a => holdC (l ++ [t]) a.1 a.2) = ns.map fun a => holdC l a.1 a.2 :=
  List.map_congr_left fun a ha => holdC_other (h a ha) a.2
theorem laid_perm (k : Int) (v : Nat) (ns : List In.Row) (f : In.Row → Ch) : (ns.map f ++ [f (k, v)]).Perm ((In.laid k v ns).map f) := by
  unfold In.laid
  rw [List.map_append, List.map_cons]
  refine List.perm_append_comm.trans ?_
  refine List.Perm.trans ?_ List.perm_middle.symm
  rw [← List.map_append, List.take_append_drop]
  exact List.Perm.refl _
theorem intsC_set (L : List Int) (k : Nat) (n : Int) : intsC (L.set k n) = (intsC L).set k (.int .i64 n) := by simp [intsC, List.map_set]
theorem laidI_len (k : Int) (v : Nat) (ns : List In.Row) : (In.laid k v ns).length = ns.length + 1 := by
  have := In.below_le k ns
  simp [In.laid]; omega
theorem hold_fin {w w0 : World} {F0 : Nat → Prop} {p hb k : Nat} {m : UM} {x : UX} {j n : Int} {nv rv : Value} {l2 : List Tkn} (hok : (UM.mk m.us l2 m.cs).Ok) (hjo : Jobs l2 (In.laid j hb x.ns))
    (hfl : (UM.mk m.us l2 m.cs).frees = m.frees.set k (m.free k - n)) (hhl : heldL l2 j = (List.replicate 16 0).set k (0 + n)) (hfi : l2.filter (ofJob j) = [⟨j, k, n⟩])
    (hmap : x.ns.map (fun a => holdC l2 a.1 a.2) = x.ns.map fun a => holdC m.l a.1 a.2)
    (hS : St F0 w0 [.emp, .pt p TUt ([x.uv, x.fv, x.cv, x.jv].set 3 nv), .row TI' 1 x.uv m.us.length (intsC m.us), .row TI' 1 x.fv m.us.length ((intsC m.frees).set k (.int .i64 (m.free k - n))), .row TI' 1 x.cv m.us.length (intsC m.cs),
      .row THr 2 nv (x.ns.length + 1) (hrowsC (In.laid j hb x.ns)), .stars (x.ns.map fun a => holdC m.l a.1 a.2), .pr (m.Ok ∧ Jobs m.l x.ns), .pt hb THo ((rv :: intsC (List.replicate 16 0)).set (1 + k) (.int .i64 n)), .row TLk 2 rv (0 + 1) ([] ++ [.int .i64 k, .int .i64 n])] w) :
    St F0 w0 [unitsC p ⟨m.us, l2, m.cs⟩] w := by
  have e1 : (rv :: intsC (List.replicate 16 0)).set (1 + k) (.int .i64 n) = rv :: intsC (heldL l2 j) := by
    rw [hhl, intsC_set, Nat.add_comm 1 k, List.set_cons_succ, Int.zero_add]
  rw [e1] at hS
  have h1 := hS.fold [8, 9] (holdC l2 j hb) (fun F h => ⟨rv, by
    have h' : Sts [.pt hb THo (rv :: intsC (heldL l2 j)), .row TLk 2 rv 1 [.int .i64 k, .int .i64 n]] F w := h
    show Sts (holdCs _ _ _ _) F w
    unfold holdCs
    rw [hfi]
    exact h'⟩)
  have h2 : St F0 w0 [.emp, .pt p TUt [x.uv, x.fv, x.cv, nv], .row TI' 1 x.uv m.us.length (intsC m.us), .row TI' 1 x.fv m.us.length (intsC (m.frees.set k (m.free k - n))), .row TI' 1 x.cv m.us.length (intsC m.cs),
      .row THr 2 nv (x.ns.length + 1) (hrowsC (In.laid j hb x.ns)), .stars (x.ns.map fun a => holdC m.l a.1 a.2), .pr (m.Ok ∧ Jobs m.l x.ns), holdC l2 j hb, .emp] w := by rw [intsC_set]; exact h1
  rw [← hmap, ← hfl] at h2
  have h3 := h2.snoc 6 8
  simp only [Kw.red] at h3
  have h4 := h3.imp 6 (c := .stars ((x.ns.map fun (a : In.Row) => holdC l2 a.1 a.2) ++ [holdC l2 j hb])) (.stars ((In.laid j hb x.ns).map fun (a : In.Row) => holdC l2 a.1 a.2)) (fun F h => Sts.perm' (laid_perm j hb x.ns fun (a : In.Row) => holdC l2 a.1 a.2) h)
  have h5 := h4.imp 7 (c := .pr (m.Ok ∧ Jobs m.l x.ns)) (.pr ((UM.mk m.us l2 m.cs).Ok ∧ Jobs l2 (In.laid j hb x.ns))) (fun F h => ⟨⟨hok, hjo⟩, h.2⟩)
  rw [← laidI_len j hb x.ns] at h5
  have h6 := h5.fold [1, 2, 3, 4, 5, 6, 7] (unitsC p ⟨m.us, l2, m.cs⟩) (fun F h => ⟨⟨x.uv, x.fv, x.cv, nv, In.laid j hb x.ns⟩, h⟩)
  exact h6.sub [1]
section
variable {w : World} {F : Nat → Prop} {p : Nat} {m : UM}
set_option maxRecDepth 100000 in
set_option maxHeartbeats 8000000 in
theorem ulock_new (h : Sts [unitsC p m] F w) (j n need : Int) (k : Nat) (he : m.lockErr j k n need = 0) (hf : ∀ x ∈ m.l, x.job ≠ j) (hnd : need ≤ 9223372036854775807) :
    Calls Tryz.prog 47 #[.pointer (some ⟨p, 0, none⟩), .int .i64 j, .int .i64 k, .int .i64 n, .int .i64 need] w fun e w' => e = .returned (.int .i64 0) ∧ St F w [unitsC p ⟨m.us, m.l ++ [⟨j, k, n⟩], m.cs⟩] w' := by
  obtain ⟨x, hS⟩ := (St.of h).opens 0 (fun x => unitsCs p m x) (fun F h => h)
  simp only [unitsCs] at hS
  simp only [Kw.red] at hS
  obtain ⟨_, ⟨⟨hok, hjo⟩, -⟩, -⟩ := hS.at 7 rfl
  have hx : UAt w p m x := ⟨(hS.blk 1).cell 0, (hS.blk 1).cell 1, hS.own 2, hS.own 3, hok, (hS.blk 1).cell 3, hS.own 5, hjo⟩
  have hfd : In.foundAt j x.ns = false := by
    cases hq : In.foundAt j x.ns with
    | false => rfl
    | true => obtain ⟨y, hy, e⟩ := (hjo.found j).1 hq; exact absurd e (hf y hy)
  have hof := uof_none hx j hfd
  have hok2 := lock_ok hok he
  have hjn := fun v => hjo.new (r := k) (n := n) v hfd
  have hheld : m.held j k = 0 := sumOf_none fun y hy => by simp [ofBoth, hf y hy]
  unfold UM.lockErr at he
  have hh : m.has k := Classical.byContradiction fun hn => by rw [if_pos (.inr (.inl hn))] at he; omega
  have hfree := frees_at m (r := k) (by unfold UM.has at hh; omega)
  have hfb := free_bd hok hh
  have htb := tot_bd hok hh
  have e1 : ¬ (j < 0) := fun hn => by rw [if_pos (.inl hn)] at he; omega
  have e2 : ¬ (n < 1) := fun hn => by rw [if_pos (.inr (.inr (.inl hn)))] at he; omega
  have e3 : ¬ (m.tot k < n) := fun hn => by rw [if_pos (.inr (.inr (.inr hn)))] at he; omega
  rw [if_neg (by simp [e1, hh, e2, e3]), hheld] at he
  have e4 : ¬ (need < n) := fun hn => by rw [if_pos (by omega)] at he; omega
  rw [if_neg (by omega)] at he
  have e5 : ¬ (m.free k < n) := fun hn => by rw [if_pos hn] at he; omega
  clear he
  have hk1 : k < m.us.length := by unfold UM.has at hh; omega
  have hk16 : k < 16 := by have := hok.few; omega
  have htot : m.us[k]? = some (m.tot k) := by
    unfold UM.tot
    rw [Int.toNat_natCast, List.getD_eq_getElem?_getD, List.getElem?_eq_getElem hk1]; rfl
  have hhas := uhas_any hx k
  rw [decide_eq_true hh] at hhas
  have hhl : heldL m.l j = List.replicate 16 0 := heldL_none hf
  have hhl2 := heldL_add m.l j n k
  rw [show sumOf (ofBoth j k) m.l = 0 from hheld, hhl] at hhl2
  have hfl2 := frees_add m j n k
  have hfree2 : m.tot k - sumOf (ofRes k) m.l - n = m.free k - n := by unfold UM.free; rw [if_pos hh]
  rw [hfree2] at hfl2
  have hfilt : (m.l ++ [(⟨j, k, n⟩ : Tkn)]).filter (ofJob j) = [⟨j, k, n⟩] := by
    rw [List.filter_append, List.filter_eq_nil_iff.2 (fun y hy => by simp [ofJob, hf y hy])]; simp [ofJob]
  have hns : ∀ a ∈ x.ns, j ≠ a.1 := fun a ha e => by
    obtain ⟨y, hy, e2⟩ := (hjo.2 a.1).1 ⟨a.2, ha⟩
    exact hf y hy (by rw [e2, e])
  have hmap := held_map (l := m.l) (t := ⟨j, k, n⟩) hns
  obtain ⟨ug, uc, eu, -⟩ := hx.uns.form (by omega)
  obtain ⟨fg, fc, ef, -⟩ := hx.frs.form (by omega)
  have c0 := hx.c0
  have c1 := hx.c1
  rw [eu] at c0
  rw [ef] at c1
  have hou := hx.uns
  rw [eu] at hou
  have hofr := hx.frs
  rw [ef] at hofr
  have d0 := hou.cells' (g := ug) rfl (intsC_at htot)
  have d1 := hofr.cells' (g := fg) rfl (intsC_at hfree)
  have i0 : (0 : Int) ≤ (k : Int) := by omega
  have i1 : (k : Int) < (m.us.length : Int) := by omega
  have b1 : decide (j < 0) = false := by simpa using e1
  have b2 : decide (n < 1) = false := by simpa using e2
  have b3 : decide (m.tot k < n) = false := by simpa using e3
  have b4 : decide (need < n) = false := by simpa using e4
  have b5 : decide (m.free k < n) = false := by simpa using e5
  have hw0 : n + 0 = n := by omega
  have hidx := fun w => idxH w (List.replicate 16 0) (by decide) (k := k) (n := 0) (by rw [List.getElem?_replicate, if_pos hk16])
  generalize (intsC (List.replicate 16 0)).toArray = ZA at hof hidx
  have HS := hid hS
  have HH := hid hhas
  have HO := hid hof
  have HX := hid hx
  have C0 := hid c0
  have C1 := hid c1
  have D0 := hid d0
  have D1 := hid d1
  have Hfd := hid hfd
  have Hef := hid ef
  have Hjn := hid hjn
  have Hok2 := hid hok2
  have Hfl2 := hid hfl2
  have Hhl2 := hid hhl2
  have Hfilt := hid hfilt
  have Hmap := hid hmap
  have Hns := hid hns
  clear hS hhas hof hx hou hofr hjo hfree htot eu ef hheld hhl hf h hjn hok2 hfl2 hhl2 hfilt hmap hns hfree2 hok hfd
  go_enter Tryz.func47, Tryz.ntmps47
  go_wp2_with fail
  refine HH.out.mono ?_; rintro e w1 ⟨rfl, rfl⟩
  go_wp2_with fail
  refine HO.out.mono ?_; rintro e w2 ⟨rfl, k2⟩
  have K2 := hid k2
  clear c0 c1 d0 d1
  have c0 := cellIn k2 C0.out
  have c1 := cellIn k2 C1.out
  have d0 := cellIn k2 D0.out
  have d1 := cellIn k2 D1.out
  clear k2
  go_wp2_with fail
  refine (hget_any (cellIn K2.out HX.out.c3) (HX.out.jb.keeps K2.out fun _ _ => id) HX.out.jo.1 (by have := HX.out.few; omega) j).mono ?_; rintro e w3 ⟨rfl, k3⟩
  rw [Hfd.out]
  have HS3 := hid (HS.out.step (K2.out.trans k3))
  clear c0 c1 d0 d1 k3 HS
  go_wp2_with fail
  have hS4 := (HS3.out.new THo (.slice none 0 0 :: intsC (List.replicate 16 0))).add (Keeps.refl (fun _ => False) _) (G := fun _ => False) (c := .row TLk 2 (.slice none 0 0) 0 []) ⟨⟨rfl, .inl ⟨rfl, rfl⟩⟩, fun b => by simp [Value.ownBlock]⟩ (fun _ h => h.elim)
  simp only [Kw.red] at hS4
  generalize w3.heap.size = hb at *
  obtain ⟨F1, g1, _, _, bk⟩ := hS4.sel [1, 5]
  have g1' : Sts [.pt p TUt [x.uv, x.fv, x.cv, x.jv], .row THr 2 x.jv x.ns.length (hrowsC x.ns)] F1 _ := g1
  have Hset := hid (hset_any (o := 3) g1' rfl HX.out.jo.1 (by have := HX.out.few; omega) j hb Hfd.out)
  clear g1 g1' hS4
  refine Hset.out.mono ?_; rintro e w4 ⟨rfl, nv, hS⟩
  have hS := bk hS
  simp only [Kw.red] at hS
  obtain ⟨F2, g2, _, _, bk2⟩ := hS.sel [8, 9]
  have g2' : Sts [.pt hb THo (.slice none 0 0 :: intsC (List.replicate 16 0)), .row TLk 2 (.slice none 0 0) 0 []] F2 _ := g2
  have HP := hid (lockPush_any g2' rfl (by omega) k n)
  clear g2 g2' hS bk Hset
  go_wp2_with fail
  refine HP.out.mono ?_; rintro e w5 ⟨rfl, rv, hS⟩
  have hS := bk2 hS
  simp only [Kw.red] at hS
  simp only [List.set_cons_zero] at hS
  have HS5 := hid hS
  have hh0 := (hS.blk 8).at (show (rv :: intsC (List.replicate 16 0))[1 + k]? = some (.int .i64 0) by rw [Nat.add_comm]; exact intsC_at (by rw [List.getElem?_replicate, if_pos hk16]))
  have hhz := (hS.blk 8).fz (1 + k)
  clear hS bk2 HP
  go_wp2_with fail
  refine wp_region_mix [true, true, true, true, true, true, true, true, true, true, true, false] 0 (fun _ => False) (by kernel_rfl) (by decide +kernel) ?_
  simp only [front, back, List.take_succ_cons, List.drop_succ_cons, List.take_zero, List.drop_zero]
  repeat ((first | refine wpFront_idxH (g := hb) (f := 1) (j := k) rfl rfl rfl rfl hk16 ?_ | ((first | refine wpFront_load rfl ?_ | refine wpFront_other rfl ?_); (first | go_big_quiet_step (fail) | quiet_step (fail)); refine wpQuiet_nil ?_)))
  refine wpFront_nil ?_
  simp only [wpSegs]
  go_wp2_with fail
  refine NoPanic.normal ?_
  have hS60 := HS5.out.set 8 (1 + k) (.int .i64 n)
  simp only [Kw.red] at hS60
  have hS70 := (hS60.setRow 3 (v := x.fv) (g := fg) (by rw [Hef.out]; rfl) k (.int .i64 (m.free k - n))).drew
  simp only [Kw.red] at hS70
  have hS6 := hS60.drew
  have c1 := (hS6.blk 1).cell 1
  have HS7 := hid hS70
  have hofr := hS6.own 3
  simp only [List.set_cons_zero, List.set_cons_succ, List.getElem?_cons_zero, List.getElem?_cons_succ] at c1
  rw [Hef.out] at c1 hofr
  have d1 := hofr.cells' (g := fg) rfl (intsC_at (frees_at m hk1))
  have d1z := hofr.fz (g := fg) rfl k
  clear hh0 hhz hS6 hS60 hS70 hofr HS5
  have hfin := hold_fin (x := x) (F0 := F) (w0 := w) (nv := nv) (rv := rv) (hb := hb) Hok2.out (Hjn.out hb) Hfl2.out Hhl2.out Hfilt.out Hmap.out HS7.out
  have HF := hid hfin
  clear hfin HS7
  go_wp2_with fail
  go_ret
  exact ⟨rfl, HF.out⟩
end
end Go.Proofs.YtnkjjhenfhnajaaGreatDoor
