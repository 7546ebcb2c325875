/-
  Texts Ea Eb in one.
-/
import Derived.Test.YtnkjjhenfhnajaaDoorG28
import Derived.Test.YtnkjjhenfhnajaaDoorG26
import Derived.Test.YtnkjjhenfhnajaaDoorBf
/-
  Package respond, walked: gap, Gap, demand.
-/
namespace Go.Proofs.YtnkjjhenfhnajaaDoor
open Go.RowKit Go.Kw Go.Kreg Go.Tm Go.Ad
set_option linter.unusedSimpArgs false
set_option linter.unusedVariables false

abbrev TLo : Nat := 49
abbrev TPt : Nat := 79
abbrev TPts : Nat := 47
theorem infoPt : (Tryd.prog.info? TPt).map (fun i => (i.zero, i.size, i.bytes)) = some (some (.agg #[.int .i64 0, .int .i64 0]), 2, 16) := by kernel_rfl
def partsC (l : List (Int × Int)) : List Value := l.flatMap fun p => [.int .i64 p.1, .int .i64 p.2]
theorem partsC_len (l : List (Int × Int)) : (partsC l).length = l.length * 2 := by
  induction l with
  | nil => rfl
  | cons n l ih => simp only [partsC, List.flatMap_cons, List.length_append, List.length_cons, List.length_nil] at *; omega
theorem partsC_at {l : List (Int × Int)} {i : Nat} {p : Int × Int} (h : l[i]? = some p) : (partsC l)[i * 2]? = some (.int .i64 p.1) ∧ (partsC l)[i * 2 + 1]? = some (.int .i64 p.2) := by
  have hs : l = l.take i ++ (p :: l.drop (i + 1)) := by
    have := (List.getElem?_eq_some_iff.1 h)
    rw [← this.2, List.getElem_cons_drop, List.take_append_drop]
  have hl : (partsC (l.take i)).length = i * 2 := by
    rw [partsC_len, List.length_take]; have := (List.getElem?_eq_some_iff.1 h).1; omega
  have e : partsC l = partsC (l.take i) ++ ([.int .i64 p.1, .int .i64 p.2] ++ partsC (l.drop (i + 1))) := by
    conv => lhs; rw [hs]
    simp [partsC]
  rw [e]
  constructor
  all_goals
    rw [List.getElem?_append_right (by omega), hl]
    simp
theorem demandFrom_app (ticks : Int) (p : Int × Int) : ∀ (l : List (Int × Int)) (n : Int), demandFrom ticks (l ++ [p]) n = demandFrom ticks l n + (ticks + p.2 - 1) / p.2 * p.1
  | [], _ => rfl
  | q :: l, n => by simp only [List.cons_append, demandFrom]; exact demandFrom_app ticks p l _
theorem demandFrom_take {l : List (Int × Int)} {k : Nat} {p : Int × Int} (h : l[k]? = some p) (ticks n : Int) : demandFrom ticks (l.take (k + 1)) n = demandFrom ticks (l.take k) n + (ticks + p.2 - 1) / p.2 * p.1 := by
  obtain ⟨hk, rfl⟩ := List.getElem?_eq_some_iff.1 h
  rw [List.take_succ_eq_append_getElem hk, demandFrom_app]
section
variable {w : World}
set_option maxRecDepth 100000 in
theorem gap_any (w : World) (x : Task) (na : Option Addr) (nl nc : Nat) : Calls Tryd.prog 14 #[taskV x (.slice na nl nc)] w fun e w' => e = .returned (.int .i64 (gapT x)) ∧ Keeps (fun _ => False) w w' := by
  obtain ⟨G, hG⟩ : ∃ G, gapT x = G := ⟨_, rfl⟩
  rw [hG]
  have HG := hid (show max x.period x.gap = G from hG)
  unfold taskV
  clear hG
  go_enter Tryd.func14, Tryd.ntmps14
  go_wp2_with fail
  go_ret
  exact ⟨by rw [← HG.out]; rfl, (Keeps.refl _ _).alloc _⟩
set_option maxRecDepth 100000 in
set_option maxHeartbeats 4000000 in
theorem demand_any {ov : Value} {l : Load} {ticks : Int} (h1 : 1 ≤ ticks) (h2 : ticks ≤ 1048576) (ho : 0 ≤ l.own ∧ l.own ≤ 1000000) (hl : l.others.length ≤ 64) (hp : ∀ p ∈ l.others, (0 ≤ p.1 ∧ p.1 ≤ 4096) ∧ 1 ≤ p.2 ∧ p.2 ≤ 1048576) (hr : RdS w ov l.others.length 2 (partsC l.others)) :
    Calls Tryd.prog 17 #[.agg #[.int .i64 l.own, .int .i64 l.gap, ov], .int .i64 ticks] w fun e w' => e = .returned (.int .i64 (l.demand ticks)) ∧ Keeps (fun _ => False) w w' := by
  obtain ⟨ao, oc, rfl, hr1, -, hr2⟩ := hr
  unfold Load.demand
  obtain ⟨R, hR⟩ : ∃ R, demandFrom ticks l.others l.own = R := ⟨_, rfl⟩
  rw [hR]
  obtain ⟨own, gp, oth⟩ := l
  simp only at *
  have HR := hid hR
  have Hr := hid hr2
  have Hp := hid hp
  clear hR hr2 hp
  go_enter Tryd.func17, Tryd.ntmps17
  go_wp2_with fail
  have K0 := hid ((Keeps.refl (fun _ => False) w).alloc (.cells #[.int .i64 own, .int .i64 gp, .slice ao oth.length oc] TLo))
  go_loopw [13, 5] (fun y z wr => ∃ (k : Nat) (a : Int), k ≤ oth.length ∧ y = .int .i64 k ∧ z = .int .i64 a ∧ Hid (a = demandFrom ticks (oth.take k) own) ∧ 0 ≤ a ∧ a ≤ 1000000 + k * 8589934592 ∧ Keeps (fun _ => False) w wr) (fun y _ _ => oth.length - (intOf y).toNat)
  case atStart => exact ⟨0, own, Nat.zero_le _, rfl, rfl, hid rfl, by omega, by omega, K0.out⟩
  case round =>
    obtain ⟨k, a, hk, rfl, rfl, Ha, ha1, ha2, hK⟩ := hrel
    have KR := hid hK
    clear K0 hK
    by_cases hlt : k < oth.length
    · have a1 : decide (k < oth.length) = true := by simpa using hlt
      have hs := List.getElem?_eq_getElem hlt
      obtain ⟨⟨b1, b2⟩, b3, b4⟩ := Hp.out _ (List.getElem_mem hlt)
      have htk := demandFrom_take hs ticks own
      obtain ⟨e0, e1⟩ := partsC_at hs
      obtain ⟨b, o, rfl, d0⟩ := Hr.out _ _ e0
      obtain ⟨_, _, e2, d1⟩ := Hr.out _ _ e1
      cases e2
      rw [← Nat.add_assoc] at d1
      have d0 := cellIn KR.out d0
      have d1 := cellIn KR.out d1
      generalize oth[k] = p at *
      obtain ⟨pc, pg⟩ := p
      simp only at b1 b2 b3 b4 d0 d1 htk
      have hq0 : 0 ≤ (ticks + pg - 1) / pg := Int.ediv_nonneg (by omega) (by omega)
      have hq1 : (ticks + pg - 1) / pg ≤ 2097152 := by
        refine Int.le_trans (Int.ediv_le_self _ (by omega)) (by omega)
      have hq : (ticks + pg - 1).tdiv pg = (ticks + pg - 1) / pg := Int.tdiv_eq_ediv_of_nonneg (by omega)
      obtain ⟨Q, hQ⟩ : ∃ Q, (ticks + pg - 1) / pg = Q := ⟨_, rfl⟩
      rw [hQ] at hq0 hq1 hq htk
      have hm0 : 0 ≤ Q * pc := Int.mul_nonneg hq0 b1
      have hm1 : Q * pc ≤ 8589934592 := Int.le_trans (Int.mul_le_mul hq1 b2 b1 (by omega)) (by omega)
      have g0 : (pg == 0) = false := by rw [beq_eq_false_iff_ne]; omega
      have g1 : decide (pg = 0) = false := decide_eq_false (by omega)
      have i0 : (0 : Int) ≤ (k : Int) := by omega
      have i1 : (k : Int) < (oth.length : Int) := by omega
      have Htk := hid htk
      clear hs e0 e1 htk hQ hlt
      go_wp2_with fail
      have KA := hid (KR.out.alloc (.cells #[.int .i64 pc, .int .i64 pg] TPt))
      refine wp_region_keep (by kernel_rfl) (by kernel_rfl) ?_
      repeat (first | go_big_quiet_skip | ((first | refine wpKeep_load rfl ?_ | refine wpKeep_other rfl ?_); (first | go_big_quiet_step (fail) | quiet_step (fail)); refine wpQuiet_nil ?_; refine Shut.mk ?_) | (refine wpQuiet_step (fun K hK => ?_); go_simp; first | (refine hK _ ?_; clear hK K) | (apply Exists.intro; refine ⟨fun w9 k9 => ?_, hK _ ?_⟩; (fail); clear hK K)))
      refine wpQuiet_nil ?_
      intro w9 k9
      have K9 := hid (KA.out.trans k9)
      clear k9 KA
      go_wp2_with fail
      go_roundw
      case rel => exact ⟨k + 1, a + Q * pc, by omega, by go_num, rfl, hid (by rw [Htk.out, Ha.out]), by omega, by omega, K9.out⟩
      case measure => simp [intOf]; omega
    · have a1 : decide (k < oth.length) = false := by simpa using hlt
      have e : a = R := by
        rw [Ha.out, List.take_of_length_le (show oth.length ≤ k by omega)]; exact HR.out
      subst e
      clear hlt
      go_wp2_with fail
      go_ret
      exact ⟨rfl, KR.out⟩
end
section
variable {w : World} {p : Nat} {m : TM} {x : TabX}
set_option maxRecDepth 100000 in
set_option maxHeartbeats 2000000 in
theorem gapI_any (h : TabAt w p m x) (id : Int) : Calls Tryd.prog 6 #[.pointer (some ⟨p, 0, none⟩), .int .i64 id] w fun e w' => e = .returned (.tuple #[.int .i64 (gapI m.ts id), .bool (decide (0 < gapI m.ts id))]) ∧ Keeps (fun _ => False) w w' := by
  rcases id_cases m.ts id with ho | ⟨i, t, rfl, ht⟩
  · have e : gapI m.ts id = 0 := by unfold gapI; rw [out_none ho]
    rw [e, show decide ((0 : Int) < 0) = false from rfl]
    have HG := hid (get_out h id ho)
    clear h e ho
    go_enter Tryd.func6, Tryd.ntmps6
    go_wp2_with fail
    refine HG.out.mono ?_; rintro e w2 ⟨rfl, k2⟩
    have HH := hid (fun (w9 : World) => gap_any w9 ⟨⟨#[]⟩, 0, 0, [], ⟨#[]⟩, 0, 0, 0⟩ none 0 0)
    unfold taskV gapT at HH
    have K2 := hid (k2.alloc (.cells ztask.toArray TTk))
    clear k2 HG
    go_wp2_with fail
    refine wp_region_keep (by kernel_rfl) (by kernel_rfl) ?_
    repeat (first | go_big_quiet_skip | ((first | refine wpKeep_load rfl ?_ | refine wpKeep_other rfl ?_); (first | go_big_quiet_step (fail) | quiet_step (fail)); refine wpQuiet_nil ?_; refine Shut.mk ?_) | (refine wpQuiet_step (fun K hK => ?_); go_simp; first | (refine hK _ ?_; clear hK K) | (apply Exists.intro; refine ⟨fun w9 k9 => ?_, hK _ ?_⟩; (exact (HH.out w9).mono fun e w' h => ⟨h.1, k9.trans h.2⟩); clear hK K)))
    refine wpQuiet_nil ?_
    intro w9 k9
    have K9 := hid (K2.out.trans k9)
    clear k9
    go_wp2_with fail
    go_ret2
    exact ⟨rfl, K9.out⟩
  · have e : gapI m.ts i = gapT t := by unfold gapI; rw [in_some ht]
    rw [e]
    have HG := hid (get_in h ht)
    unfold taskV at HG
    have HH0 := hid (fun (w9 : World) (g : Nat) => gap_any w9 t (some ⟨g, 0, none⟩) t.needs.length t.needs.length)
    unfold taskV at HH0
    generalize gapT t = GT at *
    obtain ⟨B, hB⟩ : ∃ B, decide (0 < GT) = B := ⟨_, rfl⟩
    rw [hB]
    clear h e
    go_enter Tryd.func6, Tryd.ntmps6
    go_wp2_with fail
    refine HG.out.mono ?_; rintro e w2 ⟨g, rfl, hS⟩
    have HH := hid (fun (w9 : World) => HH0.out w9 g)
    have K2 := hid (hS.keeps.alloc (.cells #[.string t.name, .int .i64 t.level, .int .i64 t.frame, .slice (some ⟨g, 0, none⟩) t.needs.length t.needs.length, .string t.code, .int .i64 t.period, .int .i64 t.first, .int .i64 t.gap] TTk))
    clear hS HG HH0
    go_wp2_with fail
    refine wp_region_keep (by kernel_rfl) (by kernel_rfl) ?_
    repeat (first | go_big_quiet_skip | ((first | refine wpKeep_load rfl ?_ | refine wpKeep_other rfl ?_); (first | go_big_quiet_step (fail) | quiet_step (fail)); refine wpQuiet_nil ?_; refine Shut.mk ?_) | (refine wpQuiet_step (fun K hK => ?_); go_simp; first | (refine hK _ ?_; clear hK K) | (apply Exists.intro; refine ⟨fun w9 k9 => ?_, hK _ ?_⟩; (exact (HH.out w9).mono fun e w' h => ⟨h.1, k9.trans h.2⟩); clear hK K)))
    refine wpQuiet_nil ?_
    intro w9 k9
    have K9 := hid (K2.out.trans k9)
    clear k9
    go_wp2_with fail
    go_ret2
    exact ⟨rfl, K9.out⟩
end
end Go.Proofs.YtnkjjhenfhnajaaDoor

/-
  keelref12.Gap and keellaw12.heavy, walked.
-/
namespace Go.Proofs.YtnkjjhenfhnajaaDoor
open Go.RowKit Go.Kw Go.Kreg Go.Tm Go.Ad
set_option linter.unusedSimpArgs false
set_option linter.unusedVariables false

section
variable {w : World} {p : Nat} {m : TM} {y : RefX}
theorem heavy_take {ts : List Task} {k : Nat} {x : Task} (h : ts[k]? = some x) : heavyM (ts.take (k + 1)) = (heavyM (ts.take k) || decide (20000 < gapRT x)) := by
  obtain ⟨hk, rfl⟩ := List.getElem?_eq_some_iff.1 h
  unfold heavyM
  rw [List.take_succ_eq_append_getElem hk, List.any_append]
  simp
theorem heavy_at {ts : List Task} {k : Nat} {x : Task} (h : ts[k]? = some x) (hg : 20000 < gapRT x) : heavyM ts = true :=
  List.any_eq_true.2 ⟨x, List.mem_of_getElem? h, by simpa using hg⟩
end
end Go.Proofs.YtnkjjhenfhnajaaDoor
