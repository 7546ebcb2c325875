/-
  The closed sentence of layer 2, walked.
-/
import Derived.Test.YtjmbgfkigfbioaaArc
import Derived.Test.YtjmbgfkigfbioaaBook
namespace Go.Proofs.Ytjmbgfkigfbioaa
open Go.RowKit Go.Kw Go.Kreg Go.Arm

section
variable {w : World} {p : Nat} {m m' : AM} {F : Nat → Prop}
theorem open_r (h : AObj w p m F) {s r : Int} (e : m.opens s = (r, m')) (hfew : m.frs.length < 1000000) :
    Calls Try.prog 14 #[.pointer (some ⟨p, 0, none⟩), .int .i64 s] w fun e w' => e = .returned (.int .i64 r) ∧ ∃ F', AObj w' p m' F' ∧ Moves F F' w w' := by
  have := open_m h hfew s; rw [e] at this; exact this
theorem close_r (h : AObj w p m F) {r : Int} (e : m.closes = (r, m')) :
    Calls Try.prog 13 #[.pointer (some ⟨p, 0, none⟩)] w fun e w' => e = .returned (.int .i64 r) ∧ ∃ F', AObj w' p m' F' ∧ Moves F F' w w' := by
  have := close_m h; rw [e] at this; exact this
theorem push_r (h : AObj w p m F) {v r : Int} (e : m.push v = (r, m')) :
    Calls Try.prog 12 #[.pointer (some ⟨p, 0, none⟩), .int .i64 v] w fun e w' => e = .returned (.int .i64 r) ∧ ∃ F', AObj w' p m' F' ∧ Moves F F' w w' := by
  have := push_m h v; rw [e] at this; exact this
theorem pop_r (h : AObj w p m F) {v r : Int} (e : m.pop = (v, r, m')) :
    Calls Try.prog 21 #[.pointer (some ⟨p, 0, none⟩)] w fun e w' => e = .returned (.tuple #[.int .i64 v, .int .i64 r]) ∧ ∃ F', AObj w' p m' F' ∧ Moves F F' w w' := by
  have := pop_m h; rw [e] at this; exact this
end

set_option maxRecDepth 100000 in
set_option maxHeartbeats 4000000 in
theorem runs_any (w : World) : Calls Try.prog 3 #[] w fun e w' => e = .returned (.bool true) ∧ Keeps (fun _ => False) w w' := by
  go_enter Try.func3, Try.ntmps3
  go_wp2_with fail
  refine (new_no _ (-1) (by omega)).mono ?_; rintro e w1 ⟨rfl, n1, rfl⟩
  go_wp2_with fail
  refine (new_no _ 65537 (by omega)).mono ?_; rintro e w1 ⟨rfl, n2, rfl⟩
  go_wp2_with fail
  refine (new_m _ 4 (by omega)).mono ?_; rintro e w0 ⟨p, F0, rfl, h0, k0⟩
  go_wp2_with fail
  refine (push_r h0 (v := 1) (r := 6) (m' := ⟨4, [], 0⟩) rfl).mono ?_; rintro e w1 ⟨rfl, F1, h1, k1⟩
  go_wp2_with fail
  refine (close_r h1 (r := 6) (m' := ⟨4, [], 0⟩) rfl).mono ?_; rintro e w2 ⟨rfl, F2, h2, k2⟩
  go_wp2_with fail
  refine (open_r h2 (s := -1) (r := 1) (m' := ⟨4, [], 0⟩) rfl (by simp)).mono ?_; rintro e w3 ⟨rfl, F3, h3, k3⟩
  go_wp2_with fail
  refine (open_r h3 (s := 3) (r := 0) (m' := ⟨4, [⟨3, []⟩], 3⟩) rfl (by simp)).mono ?_; rintro e w4 ⟨rfl, F4, h4, k4⟩
  go_wp2_with fail
  refine (push_r h4 (v := 7) (r := 0) (m' := ⟨4, [⟨3, [7]⟩], 3⟩) rfl).mono ?_; rintro e w5 ⟨rfl, F5, h5, k5⟩
  go_wp2_with fail
  refine (push_r h5 (v := 8) (r := 0) (m' := ⟨4, [⟨3, [7, 8]⟩], 3⟩) rfl).mono ?_; rintro e w6 ⟨rfl, F6, h6, k6⟩
  go_wp2_with fail
  refine (open_r h6 (s := 2) (r := 11) (m' := ⟨4, [⟨3, [7, 8]⟩], 3⟩) rfl (by simp)).mono ?_; rintro e w7 ⟨rfl, F7, h7, k7⟩
  go_wp2_with fail
  refine (open_r h7 (s := 1) (r := 0) (m' := ⟨4, [⟨3, [7, 8]⟩, ⟨1, []⟩], 4⟩) rfl (by simp)).mono ?_; rintro e w8 ⟨rfl, F8, h8, k8⟩
  go_wp2_with fail
  refine (push_r h8 (v := 9) (r := 0) (m' := ⟨4, [⟨3, [7, 8]⟩, ⟨1, [9]⟩], 4⟩) rfl).mono ?_; rintro e w9 ⟨rfl, F9, h9, k9⟩
  go_wp2_with fail
  refine (push_r h9 (v := 1) (r := 12) (m' := ⟨4, [⟨3, [7, 8]⟩, ⟨1, [9]⟩], 4⟩) rfl).mono ?_; rintro e w10 ⟨rfl, F10, h10, k10⟩
  go_wp2_with fail
  refine (frame_some h10 (i := 0) (f := ⟨3, [7, 8]⟩) rfl).mono ?_; rintro e w11 ⟨v, rfl, r11⟩
  have s11 : SlI w11 v [7, 8] := Fresh.sl (xs := [7, 8]) r11 (by simp)
  have h11 := h10.new (by obtain ⟨_, _, _, _, k⟩ := r11; exact k)
  have k11 := k10.new (by obtain ⟨_, _, _, _, k⟩ := r11; exact k)
  obtain ⟨g, rfl, -, -, -⟩ := r11
  go_wp2_with fail
  refine (words_m h11).mono ?_; rintro e w12 ⟨v2, rfl, r12⟩
  have s12 : SlI w12 v2 [7, 8, 0, 9] := Fresh.sl (xs := [7, 8, 0, 9]) r12 (by simp)
  have s11b := s11.new (by obtain ⟨_, _, _, _, k⟩ := r12; exact k)
  have h12 := h11.new (by obtain ⟨_, _, _, _, k⟩ := r12; exact k)
  have k12 := k11.new (by obtain ⟨_, _, _, _, k⟩ := r12; exact k)
  go_wp2_with fail
  refine (same_any (xs := [7, 8, 0, 9]) (ys := [7, 8, 0, 9]) (by exact s12.new ((Keeps.refl _ _).alloc _)) (by exact SlI.lit [7, 8, 0, 9] TI _ 4 rfl rfl (by simp) (by simp))).mono ?_; rintro e w13 ⟨rfl, n13, rfl⟩
  go_wp2_with fail
  have kk : Keeps (fun _ => False) w12 (((w12.alloc (.cells #[.int .i64 7, .int .i64 8, .int .i64 0, .int .i64 9] TI)).drewN n13).alloc (.cells #[.int .i64 7, .int .i64 8] TI)) := (((Keeps.refl _ _).alloc _).drewN _).alloc _
  have h13 := h12.new kk
  have k13 := k12.new kk
  refine (same_any (xs := [7, 8]) (ys := [7, 8]) (by exact s11b.new kk) (by exact SlI.lit [7, 8] TI _ 2 rfl (by simp) (by simp) (by simp))).mono ?_; rintro e w14 ⟨rfl, n14, rfl⟩
  have h14 := h13.drewN n14
  have k14 := k13.new ((Keeps.refl (fun _ => False) _).drewN n14)
  generalize hw : (((w12.alloc (.cells #[.int .i64 7, .int .i64 8, .int .i64 0, .int .i64 9] TI)).drewN n13).alloc (.cells #[.int .i64 7, .int .i64 8] TI)).drewN n14 = w14 at *
  clear hw
  go_wp2_with fail
  refine (used_m h14).mono ?_; rintro e w15 ⟨rfl, rfl⟩
  go_wp2_with fail
  refine (room_m h14).mono ?_; rintro e w15 ⟨rfl, n15, rfl⟩
  go_wp2_with fail
  refine (high_m (h14.drewN n15)).mono ?_; rintro e w15 ⟨rfl, rfl⟩
  go_wp2_with fail
  refine (pop_r (h14.drewN n15) (v := 9) (r := 0) (m' := ⟨4, [⟨3, [7, 8]⟩, ⟨1, []⟩], 4⟩) rfl).mono ?_; rintro e w16 ⟨rfl, F16, h16, k16⟩
  go_wp2_with fail
  refine (pop_r h16 (v := 0) (r := 10) (m' := ⟨4, [⟨3, [7, 8]⟩, ⟨1, []⟩], 4⟩) rfl).mono ?_; rintro e w17 ⟨rfl, F17, h17, k17⟩
  go_wp2_with fail
  refine (close_r h17 (r := 0) (m' := ⟨4, [⟨3, [7, 8]⟩], 4⟩) rfl).mono ?_; rintro e w18 ⟨rfl, F18, h18, k18⟩
  go_wp2_with fail
  refine (pop_r h18 (v := 8) (r := 0) (m' := ⟨4, [⟨3, [7]⟩], 4⟩) rfl).mono ?_; rintro e w19 ⟨rfl, F19, h19, k19⟩
  go_wp2_with fail
  refine (words_m h19).mono ?_; rintro e w20 ⟨v3, rfl, r20⟩
  have s20 : SlI w20 v3 [7, 0, 0, 0] := Fresh.sl (xs := [7, 0, 0, 0]) r20 (by simp)
  have k20 : Keeps (fun _ => False) w19 w20 := by obtain ⟨_, _, _, _, k⟩ := r20; exact k
  go_wp2_with fail
  refine (same_any (xs := [7, 0, 0, 0]) (ys := [7, 0, 0, 0]) (by exact s20.new ((Keeps.refl _ _).alloc _)) (by exact SlI.lit [7, 0, 0, 0] TI _ 4 rfl rfl (by simp) (by simp))).mono ?_; rintro e w21 ⟨rfl, n21, rfl⟩
  go_wp2_with fail
  go_ret
  refine ⟨rfl, ?_⟩
  have q0 : Moves (fun _ => False) F0 w w0 := ⟨((Keeps.refl (fun _ => False) w).drewN (n1 + n2)).trans k0.1, fun b hb => by have := k0.2 b hb; simpa using this⟩
  exact (((((((((((((((((q0.trans k1).trans k2).trans k3).trans k4).trans k5).trans k6).trans k7).trans k8).trans k9).trans k14).new ((Keeps.refl (fun _ => False) _).drewN n15)).trans k16).trans k17).trans k18).trans k19).new k20).new (((Keeps.refl (fun _ => False) _).alloc _).drewN _)).1
end Go.Proofs.Ytjmbgfkigfbioaa
