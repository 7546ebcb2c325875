/-
  Texts Uz Us in one.
-/
import Derived.Test.YtnkjjhenfhnajaaGreatDoorG12
import Derived.Test.YtnkjjhenfhnajaaGreatDoorG13
/-
  shelf.Stack[int] and ceil.Stack, walked.
-/
namespace Go.Proofs.YtnkjjhenfhnajaaGreatDoor
open Go.RowKit Go.Kw Go.Kreg Go.Tm
set_option linter.unusedSimpArgs false
set_option linter.unusedVariables false

abbrev TIs : Nat := 22
def stkCs (p : Nat) (T : TypeId) (sv : Value) (l : List Int) : List Ch := [.pt p T [sv], .row TI' 1 sv l.length (intsC l)]
def stkC (p : Nat) (T : TypeId) (l : List Int) : Ch := .ex fun sv => .stars (stkCs p T sv l)
theorem intsC_app (l r : List Int) : intsC (l ++ r) = intsC l ++ intsC r := by simp [intsC]
theorem intsC_take (l : List Int) (k : Nat) : (intsC l).take k = intsC (l.take k) := by simp [intsC, List.map_take]
section
variable {w : World} {F : Nat → Prop} {p : Nat} {T : TypeId} {l : List Int} {sv : Value}
theorem stk_at {F0 : Nat → Prop} {w0 : World} {cs : List Ch} (i : Nat) (hS : St F0 w0 cs w) (hi : cs.getD i .emp = stkC p T l := by rfl) : ∃ sv, w.cell? ⟨p, 0, none⟩ = some sv ∧ Own w TI' 1 sv l.length (intsC l) := by
  obtain ⟨G, h, _⟩ := hS.at i hi
  obtain ⟨sv, h⟩ := h
  have hS := St.of (cs := stkCs p T sv l) h
  exact ⟨sv, (hS.blk 0).cell 0, hS.own 1⟩
set_option maxRecDepth 100000 in
theorem ilen_any (hc : w.cell? ⟨p, 0, none⟩ = some sv) (ho : Own w TI' 1 sv l.length (intsC l)) : Calls Tryz.prog 156 #[.pointer (some ⟨p, 0, none⟩)] w fun e w' => e = .returned (.int .i64 l.length) ∧ w = w' := by
  obtain ⟨a, c, rfl, -⟩ := ho.shape
  clear ho
  go_enter Tryz.func156, Tryz.ntmps156
  go_wp2_with fail
  go_ret
  exact ⟨rfl, rfl⟩
set_option maxRecDepth 100000 in
theorem iat_any (hc : w.cell? ⟨p, 0, none⟩ = some sv) (ho : Own w TI' 1 sv l.length (intsC l)) (i : Int) : Calls Tryz.prog 178 #[.pointer (some ⟨p, 0, none⟩), .int .i64 i] w fun e w' => e = .returned (.tuple #[.int .i64 (if 0 ≤ i then l.getD i.toNat 0 else 0), .bool (decide (0 ≤ i ∧ i < l.length))]) ∧ w = w' := by
  obtain ⟨R, hR⟩ : ∃ R, (if 0 ≤ i then l.getD i.toNat 0 else 0) = R := ⟨_, rfl⟩
  obtain ⟨B, hB⟩ : ∃ B, decide (0 ≤ i ∧ i < l.length) = B := ⟨_, rfl⟩
  rw [hR, hB]
  by_cases h0 : i < 0
  · have b0 : decide (i < 0) = true := by simpa using h0
    rw [if_neg (by omega)] at hR
    rw [decide_eq_false (by omega)] at hB
    subst hR hB
    obtain ⟨a, c, rfl, -⟩ := ho.shape
    clear ho h0
    go_enter Tryz.func178, Tryz.ntmps178
    go_wp2_with fail
    go_ret2
    exact ⟨rfl, rfl⟩
  · have b0 : decide (i < 0) = false := by simpa using h0
    obtain ⟨n, rfl⟩ := Int.eq_ofNat_of_zero_le (show 0 ≤ i by omega)
    by_cases h1 : n < l.length
    · have b1 : decide ((l.length : Int) ≤ (n : Int)) = false := decide_eq_false (by omega)
      have b2 : decide (l.length ≤ n) = false := decide_eq_false (by omega)
      have hx : l[n]? = some R := by
        rw [if_pos (by omega), Int.toNat_natCast, List.getD_eq_getElem?_getD, List.getElem?_eq_getElem h1] at hR
        rw [List.getElem?_eq_getElem h1]; exact congrArg some hR
      rw [decide_eq_true (by omega)] at hB
      subst hB
      obtain ⟨g, cap, rfl, -⟩ := ho.form (by omega)
      have d0 := ho.cells' (g := g) rfl (intsC_at hx)
      have i0 : (0 : Int) ≤ (n : Int) := by omega
      have i1 : (n : Int) < (l.length : Int) := by omega
      clear ho h0 hR hx
      go_enter Tryz.func178, Tryz.ntmps178
      go_wp2_with fail
      go_ret2
      exact ⟨rfl, rfl⟩
    · have b1 : decide ((l.length : Int) ≤ (n : Int)) = true := decide_eq_true (by omega)
      have b2 : decide (l.length ≤ n) = true := decide_eq_true (by omega)
      rw [if_pos (by omega), Int.toNat_natCast, List.getD_eq_getElem?_getD, List.getElem?_eq_none (by omega)] at hR
      rw [decide_eq_false (by omega)] at hB
      obtain rfl : 0 = R := hR
      subst hB
      obtain ⟨a, c, rfl, -⟩ := ho.shape
      clear ho h0
      go_enter Tryz.func178, Tryz.ntmps178
      go_wp2_with fail
      go_ret2
      exact ⟨rfl, rfl⟩
def topOf (l : List Int) : Int := l.getLast?.getD 0
set_option maxRecDepth 100000 in
theorem itop_any (hc : w.cell? ⟨p, 0, none⟩ = some sv) (ho : Own w TI' 1 sv l.length (intsC l)) (hl : l.length ≤ 1000000) : Calls Tryz.prog 155 #[.pointer (some ⟨p, 0, none⟩)] w fun e w' => e = .returned (.tuple #[.int .i64 (topOf l), .bool (decide (0 < l.length))]) ∧ w = w' := by
  have ha := iat_any hc ho ((l.length : Int) - 1)
  have e1 : (if 0 ≤ (l.length : Int) - 1 then l.getD ((l.length : Int) - 1).toNat 0 else 0) = topOf l := by
    unfold topOf
    cases l with
    | nil => rfl
    | cons a l =>
      rw [if_pos (by simp), List.getLast?_eq_getElem?, List.getD_eq_getElem?_getD]
      congr 2
      simp
  have e2 : decide (0 ≤ (l.length : Int) - 1 ∧ (l.length : Int) - 1 < l.length) = decide (0 < l.length) := by
    by_cases h : 0 < l.length
    · rw [decide_eq_true h, decide_eq_true (by omega)]
    · rw [decide_eq_false h, decide_eq_false (by omega)]
  rw [e1, e2] at ha
  obtain ⟨a, c, rfl, -⟩ := ho.shape
  generalize topOf l = R at *
  generalize decide (0 < l.length) = B at *
  have HA := hid ha
  clear ho ha e1 e2
  go_enter Tryz.func155, Tryz.ntmps155
  go_wp2_with fail
  refine HA.out.mono ?_; rintro e w1 ⟨rfl, rfl⟩
  go_wp2_with fail
  go_ret2
  exact ⟨rfl, rfl⟩
set_option maxRecDepth 100000 in
set_option maxHeartbeats 1000000 in
theorem ipush_any (h : Sts [stkC p T l] F w) (x : Int) (hl : l.length ≤ 1000000) : Calls Tryz.prog 152 #[.pointer (some ⟨p, 0, none⟩), .int .i64 x] w fun e w' => e = .returned (.tuple #[]) ∧ St F w [stkC p T (l ++ [x])] w' := by
  obtain ⟨sv, hS⟩ := (St.of h).opens 0 (fun sv => stkCs p T sv l) (fun F h => h)
  simp only [stkCs] at hS
  simp only [Kw.red] at hS
  have hc := (hS.blk 1).cell 0
  have hz := (hS.blk 1).fz
  simp only [List.getElem?_cons_zero] at hc
  have hpl := (hS.blk 1).lt
  obtain ⟨a, c, rfl, -⟩ := (hS.own 2).shape
  have hS1 := hS.new TI' (intsC [x])
  simp only [Kw.red] at hS1
  have HS := hid hS1
  clear h hS hS1
  go_enter Tryz.func152, Tryz.ntmps152
  go_wp2_with (at_builtin; refine wpList_appS 2 3 _ _ TIs TI' (.int .i64 0) 1 8 infoI Tryz.underlying22 rfl (by decide) rfl rfl HS.out rfl rfl rfl rfl rfl (intsC_one [x]) (by omega) (by unfold maxLen; omega) (by omega) ?_; intro gb gc w7 hSc hat; have k0 := (hSc.blk 1).cell 0; have kz := (hSc.blk 1).fz; simp only [List.getElem?_cons_zero] at k0)
  go_end0
  refine ⟨rfl, ?_⟩
  have hSd := hSc.set 1 0 (.slice (some ⟨gb, 0, none⟩) (l.length + 1) gc)
  simp only [Kw.red] at hSd
  simp only [List.set_cons_zero] at hSd
  rw [← intsC_app, show l.length + 1 = (l ++ [x]).length by simp] at hSd
  have h2 := (hSd.fold [1, 2] (stkC p T (l ++ [x])) (fun F h => ⟨.slice (some ⟨gb, 0, none⟩) (l ++ [x]).length gc, h⟩)).sub [1]
  rw [show (l ++ [x]).length = l.length + 1 by simp] at h2
  exact h2
set_option maxRecDepth 100000 in
set_option maxHeartbeats 1000000 in
theorem icopied_any {v : Value} (ho : Own w TI' 1 v l.length (intsC l)) (hl : l.length ≤ 1000000) : Calls Tryz.prog 177 #[v] w fun e w' => ∃ g, e = .returned (.slice (some ⟨g, 0, none⟩) l.length l.length) ∧ St (fun _ => False) w [.pt g TI' (intsC l)] w' := by
  obtain ⟨a, c, rfl, -⟩ := ho.shape
  have Hown := hid ho
  have HS0 := hid (St.start w)
  clear ho
  go_enter Tryz.func177, Tryz.ntmps177
  go_wp2_with (first
    | (at_make; refine wpList_mkg _ _ 22 TI' (.int .i64 0) 1 8 infoI Tryz.underlying22 rfl rfl HS0.out .i64 .i64 _ l.length rfl rfl rfl (by omega) (by unfold maxLen; omega) ?_; intro g w3 hown3 hk3 hg3 hS3; simp only [List.nil_append] at hS3; have Hn3 := hid (Hown.out.keeps hk3 fun _ _ => id))
    | (at_builtin; refine wpList_app_copy _ _ 22 TI' (.int .i64 0) 1 8 infoI Tryz.underlying22 rfl rfl g l.length rfl hown3 a c (intsC l) rfl (by rw [intsC_len, Nat.mul_one]) (own_nil Hn3.out) (own_src Hn3.out) (intsC_one _) ?_; intro w4 hb4 hk4))
  go_ret
  exact ⟨g, rfl, hS3.filled 0 hb4 hk4⟩
set_option maxRecDepth 100000 in
theorem ilist_any (hc : w.cell? ⟨p, 0, none⟩ = some sv) (ho : Own w TI' 1 sv l.length (intsC l)) (hl : l.length ≤ 1000000) : Calls Tryz.prog 153 #[.pointer (some ⟨p, 0, none⟩)] w fun e w' => ∃ g, e = .returned (.slice (some ⟨g, 0, none⟩) l.length l.length) ∧ St (fun _ => False) w [.pt g TI' (intsC l)] w' := by
  have hcp := icopied_any ho hl
  obtain ⟨a, c, rfl, -⟩ := ho.shape
  have HC := hid hcp
  clear ho hcp
  go_enter Tryz.func153, Tryz.ntmps153
  go_wp2_with fail
  refine HC.out.mono ?_; rintro e w1 ⟨g, rfl, hS⟩
  go_wp2_with fail
  go_ret
  exact ⟨g, rfl, hS⟩
set_option maxRecDepth 100000 in
set_option maxHeartbeats 2000000 in
theorem ipop_any (h : Sts [stkC p T l] F w) (hl : l.length ≤ 1000000) : Calls Tryz.prog 154 #[.pointer (some ⟨p, 0, none⟩)] w fun e w' => e = .returned (.tuple #[.int .i64 (topOf l), .bool (decide (0 < l.length))]) ∧ St F w [stkC p T l.dropLast] w' := by
  obtain ⟨sv, hS⟩ := (St.of h).opens 0 (fun sv => stkCs p T sv l) (fun F h => h)
  simp only [stkCs] at hS
  simp only [Kw.red] at hS
  have hc := (hS.blk 1).cell 0
  have hz := (hS.blk 1).fz
  simp only [List.getElem?_cons_zero] at hc
  have htop := itop_any hc (hS.own 2) hl
  obtain ⟨R, hR⟩ : ∃ R, topOf l = R := ⟨_, rfl⟩
  rw [hR] at htop ⊢
  have HT := hid htop
  have HS := hid hS
  have HR := hid hR
  clear h htop hR
  by_cases h0 : 0 < l.length
  · have b0 : decide (0 < l.length) = true := by simpa using h0
    obtain ⟨g, cap, rfl, hgl⟩ := (hS.own 2).form h0
    have hne : g ≠ p := by
      obtain ⟨Fq, ⟨G1, G2, q1, q2, q3, q4⟩, -⟩ := id hS
      obtain ⟨G3, G4, q5, q6, q7, q8⟩ := q2
      obtain ⟨G5, G6, r5, r6, r7, r8⟩ := q6
      intro e
      exact q7 p ((q5.2 p).2 rfl) ((r8 p).2 (.inl ((r5.2 p).2 (by rw [e]; rfl))))
    obtain ⟨n, hn⟩ : ∃ n, l.length = n + 1 := ⟨l.length - 1, by omega⟩
    have hfz := (hS.own 2).fz (g := g) rfl n
    obtain ⟨xn, d0⟩ : ∃ xn : Int, w.cell? ⟨g, n, none⟩ = some (.int .i64 xn) := ⟨_, (hS.own 2).cells' (g := g) rfl (intsC_at (List.getElem?_eq_getElem (show n < l.length by omega)))⟩
    rw [b0] at HT ⊢
    clear hS
    go_enter Tryz.func154, Tryz.ntmps154
    go_wp2_with fail
    refine HT.out.mono ?_; rintro e w1 ⟨rfl, rfl⟩
    clear HT
    go_wp2_with fail
    have t1 : (0 : Int) ≤ (l.length : Int) - 1 := by omega
    have t2 : (l.length : Int) - 1 < (l.length : Int) := by omega
    have t3 : ((l.length : Int) - 1).toNat = n := by omega
    have t4 : (l.length : Int) - 1 ≤ (cap : Int) := by have := (HS.out.own 2).shape; obtain ⟨a, c, e, h⟩ := this; cases e; omega
    have Hn := hid hn
    clear hn
    refine wp_region_mix [true, true, true, true, true, true, true, true, true, true, true, false, false] 0 (fun _ => False) (by kernel_rfl) (by decide +kernel) ?_
    simp only [front, back, List.take_zero, List.drop_zero]
    repeat ((first | refine wpFront_load rfl ?_ | refine wpFront_other rfl ?_); (first | go_big_quiet_step (fail) | quiet_step (fail)); refine wpQuiet_nil ?_)
    refine wpFront_nil ?_
    simp only [wpSegs]
    go_wp2_with fail
    refine NoPanic.normal ?_
    have HS2 := hid (HS.out.setRow 2 (v := .slice (some ⟨g, 0, none⟩) l.length cap) rfl n (.int .i64 0)).drew
    have c0 := (HS2.out.blk 1).cell 0
    have cz := (HS2.out.blk 1).fz
    simp only [List.getElem?_cons_zero] at c0
    clear hc hz
    go_wp2_with fail
    generalize (w.setCell ⟨g, n, none⟩ (.int .i64 0)).drew = w2 at *
    refine wp_region_mix [true, true, true, true, true, true, true, true, true, true, true, true, false, false, false] 0 (fun _ => False) (by kernel_rfl) (by decide +kernel) ?_
    simp only [front, back, List.take_zero, List.drop_zero]
    repeat ((first | refine wpFront_load rfl ?_ | refine wpFront_other rfl ?_); (first | go_big_quiet_step (fail) | quiet_step (fail)); refine wpQuiet_nil ?_)
    refine wpFront_nil ?_
    simp only [wpSegs]
    go_wp2_with fail
    refine NoPanic.normal ?_
    go_wp2_with fail
    go_ret2
    refine ⟨rfl, ?_⟩
    have h3 := HS2.out.drew.set 1 0 (.slice (some ⟨g, 0, none⟩) n cap)
    simp only [Kw.red] at h3
    simp only [List.set_cons_zero] at h3
    have h4 := h3.imp 2 (c := .row TI' 1 (.slice (some ⟨g, 0, none⟩) l.length cap) l.length ((intsC l).set n (.int .i64 0))) (.row TI' 1 (.slice (some ⟨g, 0, none⟩) l.dropLast.length cap) l.dropLast.length (intsC l.dropLast)) (fun F h => ⟨by
      have h5 := h.1.shorter n (by have := Hn.out; omega)
      rw [Nat.mul_one, List.take_set_of_le (Nat.le_refl _), intsC_take] at h5
      rw [show l.dropLast = l.take n by rw [List.dropLast_eq_take]; congr 1; have := Hn.out; omega, show (l.take n).length = n by rw [List.length_take]; have := Hn.out; omega]
      exact h5, h.2⟩)
    simp only [Kw.red] at h4
    rw [show n = l.dropLast.length by rw [List.length_dropLast]; have := Hn.out; omega] at h4 ⊢
    exact (h4.fold [1, 2] (stkC p T l.dropLast) (fun F h => ⟨.slice (some ⟨g, 0, none⟩) l.dropLast.length cap, h⟩)).sub [1]
  · have b0 : decide (0 < l.length) = false := by simpa using h0
    have hl0 : l = [] := List.length_eq_zero_iff.1 (by omega)
    subst hl0
    rw [b0] at HT ⊢
    clear hS
    go_enter Tryz.func154, Tryz.ntmps154
    go_wp2_with fail
    refine HT.out.mono ?_; rintro e w1 ⟨rfl, rfl⟩
    go_wp2_with fail
    go_ret2
    refine ⟨rfl, ?_⟩
    exact (HS.out.fold [1, 2] (stkC p T []) (fun F h => ⟨sv, h⟩)).sub [1]
end
end Go.Proofs.YtnkjjhenfhnajaaGreatDoor

/-
  ceil.Stack, walked.
-/
namespace Go.Proofs.YtnkjjhenfhnajaaGreatDoor
open Go.RowKit Go.Kw Go.Kreg Go.Tm
set_option linter.unusedSimpArgs false
set_option linter.unusedVariables false

section
variable {w : World} {F : Nat → Prop} {p : Nat} {T : TypeId} {l : List Int} {sv : Value}
set_option maxRecDepth 100000 in
theorem ctop_any (hc : w.cell? ⟨p, 0, none⟩ = some sv) (ho : Own w TI' 1 sv l.length (intsC l)) (hl : l.length ≤ 1000000) : Calls Tryz.prog 126 #[.pointer (some ⟨p, 0, none⟩)] w fun e w' => e = .returned (.int .i64 (topOf l)) ∧ w = w' := by
  have HA := hid (itop_any hc ho hl)
  obtain ⟨a, c, rfl, -⟩ := ho.shape
  generalize topOf l = R at *
  generalize decide (0 < l.length) = B at *
  clear ho
  go_enter Tryz.func126, Tryz.ntmps126
  go_wp2_with fail
  refine HA.out.mono ?_; rintro e w1 ⟨rfl, rfl⟩
  go_wp2_with fail
  go_ret
  exact ⟨rfl, rfl⟩
set_option maxRecDepth 100000 in
theorem clen_any (hc : w.cell? ⟨p, 0, none⟩ = some sv) (ho : Own w TI' 1 sv l.length (intsC l)) : Calls Tryz.prog 127 #[.pointer (some ⟨p, 0, none⟩)] w fun e w' => e = .returned (.int .i64 l.length) ∧ w = w' := by
  have HA := hid (ilen_any hc ho)
  obtain ⟨a, c, rfl, -⟩ := ho.shape
  clear ho
  go_enter Tryz.func127, Tryz.ntmps127
  go_wp2_with fail
  refine HA.out.mono ?_; rintro e w1 ⟨rfl, rfl⟩
  go_wp2_with fail
  go_ret
  exact ⟨rfl, rfl⟩
set_option maxRecDepth 100000 in
theorem clist_any (hc : w.cell? ⟨p, 0, none⟩ = some sv) (ho : Own w TI' 1 sv l.length (intsC l)) (hl : l.length ≤ 1000000) : Calls Tryz.prog 124 #[.pointer (some ⟨p, 0, none⟩)] w fun e w' => ∃ g, e = .returned (.slice (some ⟨g, 0, none⟩) l.length l.length) ∧ St (fun _ => False) w [.pt g TI' (intsC l)] w' := by
  have HA := hid (ilist_any hc ho hl)
  obtain ⟨a, c, rfl, -⟩ := ho.shape
  clear ho
  go_enter Tryz.func124, Tryz.ntmps124
  go_wp2_with fail
  refine HA.out.mono ?_; rintro e w1 ⟨g, rfl, hS⟩
  go_wp2_with fail
  go_ret
  exact ⟨g, rfl, hS⟩
set_option maxRecDepth 100000 in
theorem clower_any (h : Sts [stkC p T l] F w) (hl : l.length ≤ 1000000) : Calls Tryz.prog 125 #[.pointer (some ⟨p, 0, none⟩)] w fun e w' => e = .returned (.bool (decide (0 < l.length))) ∧ St F w [stkC p T l.dropLast] w' := by
  have HA := hid (ipop_any h hl)
  generalize topOf l = R at *
  generalize decide (0 < l.length) = B at *
  clear h
  go_enter Tryz.func125, Tryz.ntmps125
  go_wp2_with fail
  refine HA.out.mono ?_; rintro e w1 ⟨rfl, hS⟩
  go_wp2_with fail
  go_ret
  exact ⟨rfl, hS⟩
set_option maxRecDepth 100000 in
set_option maxHeartbeats 1000000 in
theorem craise_any (h : Sts [stkC p T l] F w) (x : Int) (hl : l.length ≤ 1000000) : Calls Tryz.prog 123 #[.pointer (some ⟨p, 0, none⟩), .int .i64 x] w fun e w' => e = .returned (.int .i64 (max x (topOf l))) ∧ St F w [stkC p T (l ++ [max x (topOf l)])] w' := by
  obtain ⟨sv, hc, ho⟩ := stk_at 0 (St.of h)
  have HT := hid (ctop_any hc ho hl)
  have HP := hid (ipush_any h (max x (topOf l)) hl)
  obtain ⟨R, hR⟩ : ∃ R, topOf l = R := ⟨_, rfl⟩
  rw [hR] at HT HP ⊢
  clear h hc ho hR
  go_enter Tryz.func123, Tryz.ntmps123
  go_wp2_with fail
  refine HT.out.mono ?_; rintro e w1 ⟨rfl, rfl⟩
  go_wp2_with fail
  refine HP.out.mono ?_; rintro e w1 ⟨rfl, hS⟩
  go_wp2_with fail
  go_ret
  exact ⟨rfl, hS⟩
end
end Go.Proofs.YtnkjjhenfhnajaaGreatDoor
