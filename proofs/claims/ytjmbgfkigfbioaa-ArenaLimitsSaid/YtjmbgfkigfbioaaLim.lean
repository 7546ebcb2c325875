/-
  ArenaLimits, walked.
-/
import Derived.Test.YtjmbgfkigfbioaaRuns
namespace Go.Proofs.Ytjmbgfkigfbioaa
open Go.RowKit Go.Kw Go.Kreg Go.Arm

set_option maxRecDepth 100000 in
set_option maxHeartbeats 2000000 in
theorem limits_any (w : World) (n : Int) (hn : -9223372036854775808 ≤ n ∧ n ≤ 9223372036854775807) :
    Calls Try.prog 6 #[.int .i64 n] w fun e w' => e = .returned (.bool true) ∧ Keeps (fun _ => False) w w' := by
  have hb := within_bd n (-2) 2 (by omega)
  have hc := within_any w n (-2) 2 (by omega) (by omega) (by omega) hn.1 hn.2
  generalize within n (-2) 2 = d at *
  by_cases hd : 0 < d
  · have b1 : decide (0 < d) = true := by simpa using hd
    go_enter Try.func6, Try.ntmps6
    go_wp2_with fail
    refine hc.mono ?_; rintro e w1 ⟨rfl, rfl⟩
    go_wp2_with fail
    refine (new_no _ (65536 + d) (by omega)).mono ?_; rintro e w1 ⟨rfl, n1, rfl⟩
    go_wp2_with fail
    refine (runs_any _).mono ?_; rintro e w2 ⟨rfl, k2⟩
    go_wp2_with fail
    go_ret
    exact ⟨rfl, ((Keeps.refl _ _).drewN _).trans k2⟩
  · have b1 : decide (0 < d) = false := by simpa using hd
    obtain ⟨N, hN⟩ : ∃ N : Nat, (N : Int) = 65536 + d := ⟨(65536 + d).toNat, by omega⟩
    have HN := hid hN
    have hN1 : N ≤ 65536 := by omega
    have hN0 : 65534 ≤ N := by omega
    clear hN
    go_enter Try.func6, Try.ntmps6
    go_wp2_with fail
    refine hc.mono ?_; rintro e w1 ⟨rfl, rfl⟩
    go_wp2_with fail
    rw [show (65536 + d : Int) = (N : Int) from HN.out.symm]
    refine (new_m _ N hN1).mono ?_; rintro e w1 ⟨p, F1, rfl, h1, k1⟩
    go_wp2_with fail
    refine (open_r h1 (s := 65537 + d) (r := 11) (m' := AM.new N) (opens_full (by omega) (by have := HN.out; simp only [AM.new, AM.used, sizes, List.map_nil, List.sum_nil]; omega)) (by simp [AM.new])).mono ?_; rintro e w2 ⟨rfl, F2, h2, k2⟩
    go_wp2_with fail
    rw [show (65536 + d : Int) = (N : Int) from HN.out.symm]
    refine (open_r h2 (s := N) (r := 0) (m' := ⟨N, [⟨N, []⟩], N⟩) (by simp [AM.opens, AM.new, AM.used, sizes]) (by simp [AM.new])).mono ?_; rintro e w3 ⟨rfl, F3, h3, k3⟩
    go_wp2_with fail
    refine (open_r h3 (s := 1) (r := 11) (m' := ⟨N, [⟨N, []⟩], N⟩) (by simp [AM.opens, AM.used, sizes]) (by simp)).mono ?_; rintro e w4 ⟨rfl, F4, h4, k4⟩
    go_wp2_with fail
    refine (open_r h4 (s := 0) (r := 0) (m' := ⟨N, [⟨N, []⟩, ⟨0, []⟩], N⟩) (by simp [AM.opens, AM.used, sizes]) (by simp)).mono ?_; rintro e w5 ⟨rfl, F5, h5, k5⟩
    go_wp2_with fail
    refine (push_r h5 (v := 1) (r := 12) (m' := ⟨N, [⟨N, []⟩, ⟨0, []⟩], N⟩) (by simp [AM.push])).mono ?_; rintro e w6 ⟨rfl, F6, h6, k6⟩
    go_wp2_with fail
    refine (room_m h6).mono ?_; rintro e w7 ⟨rfl, n7, rfl⟩
    have hroom : ((AM.mk N [⟨N, []⟩, ⟨0, []⟩] N).n : Int) - (AM.used ⟨N, [⟨N, []⟩, ⟨0, []⟩], N⟩) = 0 := by simp [AM.used, sizes]
    rw [hroom]
    go_wp2_with fail
    refine (high_m (h6.drewN n7)).mono ?_; rintro e w8 ⟨rfl, rfl⟩
    go_wp2_with fail
    refine (depth_m (h6.drewN n7)).mono ?_; rintro e w9 ⟨rfl, rfl⟩
    go_wp2_with fail
    refine (words_m (h6.drewN n7)).mono ?_; rintro e w10 ⟨v, rfl, r10⟩
    obtain ⟨g, rfl, hg, hb10, k10⟩ := r10
    have h10 := (h6.drewN n7).new k10
    go_wp2_with fail
    refine (open_r h10 (s := 9223372036854775807) (r := 11) (m' := ⟨N, [⟨N, []⟩, ⟨0, []⟩], N⟩) (opens_full (by omega) (by simp only [AM.used, sizes, List.map_cons, List.map_nil, List.sum_cons, List.sum_nil]; omega)) (by simp)).mono ?_; rintro e w11 ⟨rfl, F11, h11, k11⟩
    go_wp2_with fail
    refine (runs_any _).mono ?_; rintro e w12 ⟨rfl, k12⟩
    go_wp2_with fail
    go_ret
    refine ⟨rfl, ?_⟩
    exact (((((((((k1.trans k2).trans k3).trans k4).trans k5).trans k6).new ((Keeps.refl (fun _ => False) _).drewN n7)).new k10).trans k11).new k12).1
end Go.Proofs.Ytjmbgfkigfbioaa
