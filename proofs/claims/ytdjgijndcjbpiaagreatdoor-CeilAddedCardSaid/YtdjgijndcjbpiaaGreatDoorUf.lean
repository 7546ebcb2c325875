/-
  CeilTells, walked.
-/
import Derived.Test.YtdjgijndcjbpiaaGreatDoorUe
import Derived.Test.YtdjgijndcjbpiaaGreatDoorG15
import Derived.Test.YtdjgijndcjbpiaaGreatDoorG25
import Derived.Test.YtdjgijndcjbpiaaGreatDoorG20
namespace Go.Proofs.YtdjgijndcjbpiaaGreatDoor
open Go.RowKit Go.Kw Go.Kreg Go.Tm
set_option linter.unusedSimpArgs false
set_option linter.unusedVariables false

theorem tableM_units (us : List Int) (l : List Task) : (tableM us l).units = (us.take 16).map clampI := by
  unfold tableM
  have gen : ∀ (l : List Task) (m : TM), (l.foldl TM.takeM m).units = m.units := by
    intro l
    induction l with
    | nil => intro m; rfl
    | cons x l ih =>
      intro m
      rw [List.foldl_cons, ih]
      unfold TM.takeM
      split
      · rfl
      · unfold TM.add; split <;> rfl
  rw [gen]
theorem tableM_few (us : List Int) (l : List Task) : (tableM us l).units.length ≤ 16 := by rw [tableM_units, List.length_map, List.length_take]; omega
theorem ceilRow_len {m : TM} (hm : m.Ok) (r : Int) : (m.ceilRow r).length ≤ 9223372036854775807 := by
  unfold TM.ceilRow
  split
  · rename_i h
    have := unitsOf_bd hm h
    rw [List.length_map, List.length_range]; omega
  · simp
section
variable {W w : World} {F : Nat → Prop}
set_option maxRecDepth 100000 in
set_option maxHeartbeats 8000000 in
theorem tells_law (hG : Glob W) (hg : (glC W).holds F w) {uv lv : Value} {us : List Int} {l : List Task} (hu : SlIn w uv us) (hub : ∀ x ∈ us, big x) (hl : SlTk w lv l) (hnm : ∀ x ∈ l, x.name.size ≤ 9223372036854775807) (res : Int) (hr : big res) (free : Int) (hf : big free) :
    Calls Tryz.prog 5 #[uv, lv, .int .i64 res, .int .i64 free] w fun e w' => e = .returned (.bool true) ∧ Keeps (fun _ => False) w w' := by
  have HT := hid (table_any hG hg hu hl hnm)
  obtain ⟨ua, uc, rfl, -⟩ := id hu
  obtain ⟨la, lc, rfl, -⟩ := id hl
  have hfew := tableM_few us l
  generalize tableM us l = m at *
  have Hg := hid hg
  have m1 := Int.tmod_lt_of_pos free (b := 9) (by omega)
  have m2 := Int.lt_tmod_of_pos free (show (0 : Int) < 9 by omega)
  clear hg hu hl hnm hub
  go_enter Tryz.func5, Tryz.ntmps5
  go_wp2_with fail
  refine HT.out.mono ?_; rintro e w1 ⟨p, q, rfl, hS⟩
  have K1 := hid (glob_keeps Hg.out hS).1
  obtain ⟨x, hx⟩ := tab_at 1 hS
  obtain ⟨y, hy⟩ := ref_at 2 hS
  have Hx := hid hx
  have Hy := hid hy
  obtain ⟨c0, c1, c2, cz⟩ := hy.cells
  obtain ⟨ra, rc, euv⟩ := ref_ushape hy
  rw [euv] at c1
  have hwi := fun w => within_any w res 0 m.units.length (by omega) (by omega) (by omega) hr.1 hr.2
  have hwb := within_bd res 0 m.units.length (by omega)
  generalize within res 0 m.units.length = R2 at *
  clear hS hx hy HT euv hr
  go_wp2_with fail
  refine (hwi _).mono ?_; rintro e w2 ⟨rfl, rfl⟩
  go_wp2_with fail
  have hnew := Blk.new w1 TI' [.int .i64 res, .int .i64 R2]
  have hka := (Keeps.refl (fun _ => False) w1).alloc (.cells #[.int .i64 res, .int .i64 R2] TI')
  obtain ⟨rr, hrr⟩ : ∃ rr : Nat → Int, rr 0 = res ∧ rr 1 = R2 := ⟨fun k => if k = 0 then res else R2, rfl, rfl⟩
  have hcell : ∀ k : Nat, k < 2 → (w1.alloc (.cells #[.int .i64 res, .int .i64 R2] TI')).cell? ⟨w1.heap.size, k, none⟩ = some (.int .i64 (rr k)) := fun k hk => by
    obtain rfl | rfl : k = 0 ∨ k = 1 := by omega
    · rw [hrr.1]; exact hnew.cell 0
    · rw [hrr.2]; exact hnew.cell 1
  have Hcell := hid hcell
  have HKa := hid hka
  have HX2 := hid (Hx.out.keeps hka)
  have HY2 := hid (Hy.out.keeps hka)
  have HKt := hid (K1.out.trans hka)
  clear hcell hnew hka hrr c0 c1 c2 cz
  generalize hwa : w1.alloc (.cells #[.int .i64 res, .int .i64 R2] TI') = wa at *
  generalize w1.heap.size = ab at *
  clear hwa
  go_loopw [12] (fun i wr => ∃ k : Nat, k ≤ 2 ∧ i = .int .i64 k ∧ Keeps (fun _ => False) wa wr) (fun i _ => 2 - (intOf i).toNat)
  case atStart => exact ⟨0, by omega, rfl, Keeps.refl _ _⟩
  case round =>
    obtain ⟨k, hk, rfl, hK⟩ := hrel
    by_cases hlt : k < 2
    · have b1 : decide ((k : Int) < 2) = true := by simp; omega
      have i0 : (0 : Int) ≤ (k : Int) := by omega
      have i1 : (k : Int) < 2 := by omega
      have d0 := cellIn hK (Hcell.out k hlt)
      generalize rr k = r at *
      have K2 := hid hK
      clear hK
      go_wp2_with fail
      refine (at_any (HX2.out.keeps K2.out) r free).mono ?_; rintro e w3 ⟨rfl, k3⟩
      have K3 := hid (K2.out.trans k3)
      clear k3 d0
      go_wp2_with fail
      refine (atR_any (HY2.out.keeps K3.out) r free).mono ?_; rintro e w4 ⟨rfl, rfl⟩
      generalize m.ceilAt r free = A1 at *
      go_wp2_with fail
      refine (at_any (HX2.out.keeps K3.out) r _).mono ?_; rintro e w4 ⟨rfl, k4⟩
      have K4 := hid (K3.out.trans k4)
      clear k4
      go_wp2_with fail
      refine (atR_any (HY2.out.keeps K4.out) r _).mono ?_; rintro e w5 ⟨rfl, rfl⟩
      generalize m.ceilAt r _ = A2 at *
      go_wp2_with fail
      refine (max_any (HX2.out.keeps K4.out) r).mono ?_; rintro e w5 ⟨rfl, k5⟩
      have K5 := hid (K4.out.trans k5)
      clear k5
      go_wp2_with fail
      refine (atR_any (HY2.out.keeps K5.out) r 0).mono ?_; rintro e w6 ⟨rfl, rfl⟩
      generalize m.ceilAt r 0 = A3 at *
      go_wp2_with fail
      refine (crow_any (HX2.out.keeps K5.out) r).mono ?_; rintro e w6 ⟨lv, rfl, hS6⟩
      have K6 := hid (K5.out.trans hS6.keeps)
      obtain ⟨la, lc, rfl, -⟩ := (hS6.own 0).shape
      have HO := hid (hS6.own 0)
      clear hS6
      go_wp2_with fail
      refine (rowR_any (HY2.out.keeps K6.out) r).mono ?_; rintro e w7 ⟨lv, rfl, hS7⟩
      have K7 := hid (K6.out.trans hS7.keeps)
      obtain ⟨l2, lc2, rfl, -⟩ := (hS7.own 0).shape
      have HO2 := hid (HO.out.keeps hS7.keeps fun _ _ => id)
      have HO3 := hid (hS7.own 0)
      clear hS7
      go_wp2_with fail
      have hlen : (m.ceilRow r).length ≤ 9223372036854775807 := ceilRow_len HX2.out.tok.ok r
      have hsm := sameI_any (Rd.own HO2.out hlen) (Rd.own HO3.out hlen)
      rw [decide_eq_true rfl] at hsm
      refine hsm.mono ?_; rintro e w8 ⟨rfl, nq, rfl⟩
      have K8 := hid (K7.out.drewN nq)
      clear hsm
      go_wp2_with fail
      go_roundw
      case rel => exact ⟨k + 1, by omega, by go_num, K8.out⟩
      case measure => simp [intOf]; omega
    · have b1 : decide ((k : Int) < 2) = false := by simp; omega
      have hcr := ceilruns_any hG (glob_new Hg.out (HKt.out.trans hK))
      have HC := hid hcr
      have K2 := hid hK
      clear hcr hK
      go_wp2_with fail
      refine HC.out.mono ?_; rintro e w3 ⟨rfl, k3⟩
      have K3 := hid ((HKt.out.trans K2.out).trans k3)
      clear k3
      go_wp2_with fail
      go_ret
      exact ⟨rfl, K3.out⟩
end
end Go.Proofs.YtdjgijndcjbpiaaGreatDoor
