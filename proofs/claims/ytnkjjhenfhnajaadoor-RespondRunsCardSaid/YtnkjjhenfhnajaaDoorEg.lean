/-
  respond.Demand, walked.
-/
import Derived.Test.YtnkjjhenfhnajaaDoorEf
namespace Go.Proofs.YtnkjjhenfhnajaaDoor
open Go.RowKit Go.Kw Go.Kreg Go.Tm Go.Ad
set_option linter.unusedSimpArgs false
set_option linter.unusedVariables false

section
variable {w : World} {p : Nat} {m : TM} {x : TabX}
set_option maxRecDepth 100000 in
set_option maxHeartbeats 4000000 in
theorem demandI_nil (w : World) (id ticks : Int) : Calls Tryd.prog 7 #[.pointer none, .int .i64 id, .int .i64 ticks] w fun e w' => e = .returned (.tuple #[.int .i64 0, .int .i64 1]) ∧ Keeps (fun _ => False) w w' := by
  go_enter Tryd.func7, Tryd.ntmps7
  go_wp2_with fail
  go_ret2
  exact ⟨rfl, Keeps.refl _ _⟩
set_option maxRecDepth 100000 in
set_option maxHeartbeats 4000000 in
theorem demandI_any (hm : m.Ok) (h : TabAt w p m x) (id ticks : Int) : Calls Tryd.prog 7 #[.pointer (some ⟨p, 0, none⟩), .int .i64 id, .int .i64 ticks] w fun e w' => e = .returned (.tuple #[.int .i64 (demandI m id ticks).1, .int .i64 (demandI m id ticks).2]) ∧ Keeps (fun _ => False) w w' := by
  have HN := hid (tlen_any h)
  have hfew := hm.few
  by_cases h0 : id < 0
  · have b0 : decide (id < 0) = true := by simpa using h0
    have he : demandI m id ticks = (0, 1) := by unfold demandI; rw [out_none (.inl h0), if_pos (.inl rfl)]
    clear h0
    rw [he]
    clear h he
    go_enter Tryd.func7, Tryd.ntmps7
    go_wp2_with fail
    go_ret2
    exact ⟨rfl, Keeps.refl _ _⟩
  have b0 : decide (id < 0) = false := by simpa using h0
  by_cases h1 : (m.ts.length : Int) ≤ id
  · have b1 : decide ((m.ts.length : Int) ≤ id) = true := by simpa using h1
    have he : demandI m id ticks = (0, 1) := by unfold demandI; rw [out_none (.inr h1), if_pos (.inl rfl)]
    clear h0 h1
    rw [he]
    clear h he
    go_enter Tryd.func7, Tryd.ntmps7
    go_wp2_with fail
    refine HN.out.mono ?_; rintro e w1 ⟨rfl, rfl⟩
    go_wp2_with fail
    go_ret2
    exact ⟨rfl, Keeps.refl _ _⟩
  have b1 : decide ((m.ts.length : Int) ≤ id) = false := by simpa using h1
  by_cases h2 : ticks < 1
  · have b2 : decide (ticks < 1) = true := by simpa using h2
    have he : demandI m id ticks = (0, 1) := by unfold demandI; rw [if_pos (.inr (.inl h2))]
    clear h0 h1 h2
    rw [he]
    clear h he
    go_enter Tryd.func7, Tryd.ntmps7
    go_wp2_with fail
    refine HN.out.mono ?_; rintro e w1 ⟨rfl, rfl⟩
    go_wp2_with fail
    go_ret2
    exact ⟨rfl, Keeps.refl _ _⟩
  have b2 : decide (ticks < 1) = false := by simpa using h2
  by_cases h3 : 1048576 < ticks
  · have b3 : decide (1048576 < ticks) = true := by simpa using h3
    have he : demandI m id ticks = (0, 1) := by unfold demandI; rw [if_pos (.inr (.inr h3))]
    clear h0 h1 h2 h3
    rw [he]
    clear h he
    go_enter Tryd.func7, Tryd.ntmps7
    go_wp2_with fail
    refine HN.out.mono ?_; rintro e w1 ⟨rfl, rfl⟩
    go_wp2_with fail
    go_ret2
    exact ⟨rfl, Keeps.refl _ _⟩
  have b3 : decide (1048576 < ticks) = false := by simpa using h3
  have hin : taskI m.ts id ≠ none := by
    obtain ⟨i, rfl⟩ := Int.eq_ofNat_of_zero_le (show 0 ≤ id by omega)
    rw [in_some (List.getElem?_eq_getElem (show i < m.ts.length by omega))]; simp
  have hd : demandI m id ticks = (match loadM m id with | (some l, _) => (l.demand ticks, 0) | (none, e) => (0, e)) := by
    unfold demandI
    have hno : ¬ ((taskI m.ts id).isNone = true ∨ ticks < 1 ∨ 1048576 < ticks) := by
      rintro (e | e | e)
      · cases hq : taskI m.ts id with
        | none => exact hin hq
        | some z => rw [hq] at e; cases e
      · omega
      · omega
    rw [if_neg hno]
    all_goals rfl
  obtain ⟨⟨D1, D2⟩, hD⟩ : ∃ D, demandI m id ticks = D := ⟨_, rfl⟩
  rw [hD] at hd ⊢
  simp only
  have HD := hid hd
  have Hm := hid hm
  have HL := hid (loadOf_any hm h id)
  unfold LoadTold at HL
  clear h hm hd hD hin h0 h1
  go_enter Tryd.func7, Tryd.ntmps7
  go_wp2_with fail
  refine HN.out.mono ?_; rintro e w1 ⟨rfl, rfl⟩
  go_wp2_with fail
  refine HL.out.mono ?_; rintro e w1 ⟨k1, ⟨l, a, c, hl, rfl, hr⟩ | ⟨k, hk, hl, rfl⟩⟩
  · have hlo := (load_of Hm.out hl).1
    have hd := HD.out
    rw [hl] at hd
    cases hd
    have Hlo := hid hlo
    have K1 := hid (k1.alloc (.cells #[.int .i64 l.own, .int .i64 l.gap, .slice a l.others.length c] TLo))
    have hown := hlo.ok.own
    have ht := term_le Hm.out id
    have hc := cost_le m.ts id
    have h1 := hlo.own
    have HDm := hid (demand_any (ticks := ticks) (by omega) (by omega) (by omega) hlo.few hlo.parts (hr.new ((Keeps.refl (fun _ => False) w1).alloc (.cells #[.int .i64 l.own, .int .i64 l.gap, .slice a l.others.length c] TLo))))
    clear hlo hl hr k1 HL HD h1 ht hc hown
    go_wp2_with fail
    refine HDm.out.mono ?_; rintro e w3 ⟨rfl, k3⟩
    have K3 := hid (K1.out.trans k3)
    clear k3 HDm K1
    go_wp2_with fail
    go_ret2
    exact ⟨rfl, K3.out⟩
  · have hd := HD.out
    rw [hl] at hd
    cases hd
    have c0 : (D2 != 0) = true := by simpa using hk
    have K1 := hid (k1.alloc (.cells #[.int .i64 0, .int .i64 0, .slice none 0 0] TLo))
    clear hk hl k1 HL HD
    go_wp2_with fail
    go_ret2
    exact ⟨rfl, K1.out⟩
end
end Go.Proofs.YtnkjjhenfhnajaaDoor
