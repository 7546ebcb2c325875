/-
  ArenaOrder, walked.
-/
import Derived.Test.YtjmbgfkigfbioaaTwo
import Derived.Test.YtjmbgfkigfbioaaArp
namespace Go.Proofs.Ytjmbgfkigfbioaa
open Go.RowKit Go.Kw Go.Kreg Go.Arm

theorem acts_len (n : Nat) (l : List (Int × Int)) : (AM.acts (AM.new n) l).n = n ∧ (AM.acts (AM.new n) l).frs.length ≤ l.length := by
  have := acts_n l (AM.new n)
  simp only [AM.new, List.length_nil, Nat.zero_add] at this
  exact this

theorem push_lt {n hi z : Nat} {init : List Fr} {laid : List Int} (v : Int) (h : laid.length < z) : AM.push ⟨n, init ++ [⟨z, laid⟩], hi⟩ v = (0, ⟨n, init ++ [⟨z, laid ++ [v]⟩], hi⟩) := by
  unfold AM.push
  simp only [List.getLast?_append, List.getLast?_singleton, Option.some_or]
  rw [if_neg (by omega)]; simp
theorem push_eq {n hi z : Nat} {init : List Fr} {laid : List Int} (v : Int) (h : laid.length = z) : AM.push ⟨n, init ++ [⟨z, laid⟩], hi⟩ v = (12, ⟨n, init ++ [⟨z, laid⟩], hi⟩) := by
  unfold AM.push
  simp only [List.getLast?_append, List.getLast?_singleton, Option.some_or]
  rw [if_pos h]
theorem pop_last {n hi z : Nat} {init : List Fr} {laid : List Int} (v : Int) : AM.pop ⟨n, init ++ [⟨z, laid ++ [v]⟩], hi⟩ = (v, 0, ⟨n, init ++ [⟨z, laid⟩], hi⟩) := by
  unfold AM.pop
  simp
theorem top_last {n hi z : Nat} {init : List Fr} {laid : List Int} (v : Int) : AM.top ⟨n, init ++ [⟨z, laid ++ [v]⟩], hi⟩ = (v, true) := by
  unfold AM.top
  simp
theorem top_nil {n hi z : Nat} {init : List Fr} : AM.top ⟨n, init ++ [⟨z, []⟩], hi⟩ = (0, false) := by
  unfold AM.top
  simp
theorem pop_nil {n hi z : Nat} {init : List Fr} : AM.pop ⟨n, init ++ [⟨z, []⟩], hi⟩ = (0, 10, ⟨n, init ++ [⟨z, []⟩], hi⟩) := by
  unfold AM.pop
  simp
theorem top_r {w : World} {p : Nat} {m : AM} {F : Nat → Prop} (h : AObj w p m F) {v : Int} {b : Bool} (e : m.top = (v, b)) :
    Calls Try.prog 32 #[.pointer (some ⟨p, 0, none⟩)] w fun e w' => e = .returned (.tuple #[.int .i64 v, .bool b]) ∧ ∃ n, w' = w.drewN n := by
  have := top_m h; rw [e] at this; exact this

/-- A number's cell, in a later world. -/
theorem SlI.at {w : World} {ao : Option Addr} {c : Nat} {l : List Int} (h : SlI w (.slice ao l.length c) l) {k : Nat} (hk : k < l.length) :
    ∃ b o x, ao = some ⟨b, o, none⟩ ∧ l[k]? = some x ∧ w.cell? ⟨b, o + k, none⟩ = some (.int .i64 x) := by
  obtain ⟨_, _, e, _, _, hc⟩ := h
  cases e
  obtain ⟨b, o, rfl, h1⟩ := hc k l[k] (List.getElem?_eq_getElem hk)
  exact ⟨b, o, l[k], rfl, List.getElem?_eq_getElem hk, h1⟩
theorem take_next {l : List Int} {k : Nat} {x : Int} (h : l[k]? = some x) : l.take (k + 1) = l.take k ++ [x] := by
  rw [List.take_add_one, h]; rfl

set_option maxRecDepth 100000 in
set_option maxHeartbeats 4000000 in
theorem order_full {w : World} {words size : Int} (hw : -9223372036854775808 ≤ words ∧ words ≤ 9223372036854775807) {v : Value} {l : List (Int × Int)} (h : SlOp w v l) (hs : -9223372036854775808 ≤ size ∧ size ≤ 9223372036854775807) {v2 : Value}
    {N z : Nat} (hN : within words 0 400 = N) (hN4 : N ≤ 400) (hz : within size 0 40 = z) (hfull : N < (AM.acts (AM.new N) (l.take 150)).used + z) :
    Calls Try.prog 8 #[.int .i64 words, v, .int .i64 size, v2] w fun e w' => e = .returned (.bool true) ∧ Keeps (fun _ => False) w w' := by
  have hc := within_any w words 0 400 (by omega) (by omega) (by omega) hw.1 hw.2
  have hc2 := fun w => within_any w size 0 40 (by omega) (by omega) (by omega) hs.1 hs.2
  rw [hN] at hc
  rw [hz] at hc2
  have hlen : (l.take 150).length ≤ 1000 := by simp; omega
  obtain ⟨hn0, hf0⟩ := acts_len N (l.take 150)
  simp only [List.length_take] at hf0
  generalize hm : AM.acts (AM.new N) (l.take 150) = m0 at *
  have Hm := hid hm
  have Hn := hid hn0
  clear hm hN hz
  have hroom : decide (((m0.n : Int) - m0.used) < z) = true := by rw [hn0]; simp; omega
  have hfull' : (m0.n : Int) - m0.used < z := by rw [hn0]; omega
  clear hn0
  go_enter Try.func8, Try.ntmps8
  go_wp2_with fail
  refine hc.mono ?_; rintro e w1 ⟨rfl, rfl⟩
  go_wp2_with fail
  refine (few_any h 150 (by omega)).mono ?_; rintro e w2 ⟨⟨v', rfl, h'⟩, rfl⟩
  have h' := h' _ h
  go_wp2_with fail
  refine (made_any h' hlen N (by omega)).mono ?_; rintro e w3 ⟨p, F, rfl, hA, hM⟩
  rw [Hm.out] at hA
  go_wp2_with fail
  refine (hc2 _).mono ?_; rintro e w4 ⟨rfl, rfl⟩
  go_wp2_with fail
  refine (open_r hA (s := z) (r := 11) (m' := m0) (opens_full (by omega) hfull') (by omega)).mono ?_; rintro e w5 ⟨rfl, F5, hA5, hM5⟩
  go_wp2_with fail
  refine (room_m hA5).mono ?_; rintro e w6 ⟨rfl, n6, rfl⟩
  go_wp2_with fail
  refine (runs_any _).mono ?_; rintro e w7 ⟨rfl, k7⟩
  go_wp2_with fail
  go_ret
  exact ⟨rfl, (((hM.trans hM5).new ((Keeps.refl (fun _ => False) _).drewN n6)).new k7).1⟩

set_option maxRecDepth 100000 in
set_option maxHeartbeats 8000000 in
theorem order_yes {w : World} {words size : Int} (hw : -9223372036854775808 ≤ words ∧ words ≤ 9223372036854775807) {v : Value} {l : List (Int × Int)} (h : SlOp w v l) (hs : -9223372036854775808 ≤ size ∧ size ≤ 9223372036854775807) {v2 : Value} {L : List Int} (h2 : SlI w v2 L)
    {N z : Nat} (hN : within words 0 400 = N) (hN4 : N ≤ 400) (hz : within size 0 40 = z) (hz4 : z ≤ 40) (hfits : (AM.acts (AM.new N) (l.take 150)).used + z ≤ N) :
    Calls Try.prog 8 #[.int .i64 words, v, .int .i64 size, v2] w fun e w' => e = .returned (.bool true) ∧ Keeps (fun _ => False) w w' := by
  have hc := within_any w words 0 400 (by omega) (by omega) (by omega) hw.1 hw.2
  have hc2 := fun w => within_any w size 0 40 (by omega) (by omega) (by omega) hs.1 hs.2
  rw [hN] at hc
  rw [hz] at hc2
  have hlen : (l.take 150).length ≤ 1000 := by simp; omega
  obtain ⟨hn0, hf0⟩ := acts_len N (l.take 150)
  simp only [List.length_take] at hf0
  generalize hm : AM.acts (AM.new N) (l.take 150) = m0 at *
  have Hm := hid hm
  have H2 := hid h2
  obtain ⟨ao, c, rfl, hL, hLc, _⟩ := h2
  clear hm hN hz
  obtain ⟨n0, init, hi0⟩ := m0
  simp only at hn0 hf0; subst hn0
  have ho : AM.opens ⟨n0, init, hi0⟩ z = (0, ⟨n0, init ++ [⟨z, []⟩], max hi0 (sizes init + z)⟩) := open_few hfits
  have hfits' : sizes init + z ≤ n0 := hfits
  generalize max hi0 (sizes init + z) = hi at *
  have Ho := hid ho
  clear hfits ho
  go_enter Try.func8, Try.ntmps8
  go_wp2_with fail
  refine hc.mono ?_; rintro e w1 ⟨rfl, rfl⟩
  go_wp2_with fail
  refine (few_any h 150 (by omega)).mono ?_; rintro e w2 ⟨⟨v', rfl, h'⟩, rfl⟩
  have h' := h' _ h
  go_wp2_with fail
  refine (made_any h' hlen n0 (by omega)).mono ?_; rintro e w3 ⟨p, F, rfl, hA, hM⟩
  rw [Hm.out] at hA
  go_wp2_with fail
  refine (hc2 _).mono ?_; rintro e w4 ⟨rfl, rfl⟩
  go_wp2_with fail
  refine (open_r hA (s := z) (r := 0) (m' := ⟨n0, init ++ [⟨z, []⟩], hi⟩) Ho.out (by simp only; omega)).mono ?_; rintro e w5 ⟨rfl, F5, hA5, hM5⟩
  have hM5' := hM.trans hM5
  clear hM hM5 hA
  go_wp2_with fail
  go_loopw [10, 11] (fun n i wr => ∃ (k : Nat) (F : Nat → Prop), k ≤ L.length ∧ k ≤ 60 ∧ i = .int .i64 k ∧ n = .int .i64 (min k z : Nat) ∧ AObj wr p ⟨n0, init ++ [⟨z, L.take (min k z)⟩], hi⟩ F ∧ Moves (fun _ => False) F w wr) (fun _ i _ => L.length - (intOf i).toNat)
  case atStart => exact ⟨0, F5, Nat.zero_le _, Nat.zero_le _, rfl, by simp, by simpa using hA5, hM5'⟩
  case round =>
    clear hA5 hM5'
    obtain ⟨k, F, hkL, hk60, rfl, rfl, hA, hM⟩ := hrel
    by_cases hgo : k < L.length ∧ k < 60
    · obtain ⟨hkl, hk6⟩ := hgo
      obtain ⟨b, o, x, rfl, hx, cx⟩ := (H2.out.new hM.1).at hkl
      have Hx := hid hx
      clear hx
      have i0 : (0 : Int) ≤ (k : Int) := by omega
      have i1 : (k : Int) < (L.length : Int) := by omega
      have t1 : decide ((k : Int) < (L.length : Int)) = true := by simp; omega
      have t2 : decide ((k : Int) < 60) = true := by simp; omega
      by_cases hkz : k < z
      · have emin : min k z = k := by omega
        rw [emin] at hA ⊢
        have hle : (L.take k).length < z := by simp; omega
        have t3 : decide ((k : Int) < (z : Int)) = true := by simp; omega
        clear emin
        go_wp2_with fail
        refine (push_r hA (push_lt x hle)).mono ?_; rintro e w6 ⟨rfl, F6, hA6, hM6⟩
        go_wp2_with fail
        go_roundw
        case rel => exact ⟨k + 1, F6, by omega, by omega, by go_num, by rw [show min (k + 1) z = k + 1 by omega]; go_num, by rw [show min (k + 1) z = k + 1 by omega, take_next Hx.out]; exact hA6, hM.trans hM6⟩
        case measure => simp [intOf]; omega
      · have emin : min k z = z := by omega
        rw [emin] at hA ⊢
        have hle : (L.take z).length = z := by simp; omega
        have t3 : decide ((z : Int) < (z : Int)) = false := by simp
        clear emin
        go_wp2_with fail
        refine (push_r hA (push_eq x hle)).mono ?_; rintro e w6 ⟨rfl, F6, hA6, hM6⟩
        go_wp2_with fail
        go_roundw
        case rel => exact ⟨k + 1, F6, by omega, by omega, by go_num, by rw [show min (k + 1) z = z by omega], by rw [show min (k + 1) z = z by omega]; exact hA6, hM.trans hM6⟩
        case measure => simp [intOf]; omega
    · have hJ : min k z ≤ L.length := by omega
      have hJ60 : min k z ≤ 60 := by omega
      generalize min k z = J at *
      have hends : (¬ k < L.length) ∨ (k < L.length ∧ decide ((k : Int) < 60) = false) := by
        by_cases h1 : k < L.length
        · right; simp; omega
        · left; exact h1
      clear hgo
      rcases hends with t1 | ⟨t1, t2⟩
      all_goals
        go_wp2_with fail
        go_loopw [13] (fun i wr => ∃ (j : Nat) (F : Nat → Prop), j ≤ J ∧ i = .int .i64 ((j : Int) - 1) ∧ AObj wr p ⟨n0, init ++ [⟨z, L.take j⟩], hi⟩ F ∧ Moves (fun _ => False) F w wr) (fun i _ => (intOf i + 1).toNat)
        case atStart => exact ⟨J, F, Nat.le_refl _, rfl, hA, hM⟩
        case round =>
          clear hA hM
          obtain ⟨j, F, hj, rfl, hA, hM⟩ := hrel
          cases j with
          | zero =>
            have t3 : decide ((0 : Int) ≤ ((0 : Nat) : Int) - 1) = false := by simp
            simp only [List.take_zero] at hA
            go_wp2_with fail
            refine (pop_r hA pop_nil).mono ?_; rintro e w7 ⟨rfl, F7, hA7, hM7⟩
            go_wp2_with fail
            refine (top_r hA7 top_nil).mono ?_; rintro e w8 ⟨rfl, n8, rfl⟩
            go_wp2_with fail
            refine (close_r (hA7.drewN n8) (r := 0) (m' := ⟨n0, init, hi⟩) (by simp [AM.closes])).mono ?_; rintro e w9 ⟨rfl, F9, hA9, hM9⟩
            go_wp2_with fail
            refine (runs_any _).mono ?_; rintro e w10 ⟨rfl, k10⟩
            go_wp2_with fail
            go_ret
            exact ⟨rfl, ((((hM.trans hM7).new ((Keeps.refl (fun _ => False) _).drewN n8)).trans hM9).new k10).1⟩
          | succ j =>
            obtain ⟨b, o, x, rfl, hx, cx⟩ := (H2.out.new hM.1).at (show j < L.length by omega)
            rw [take_next hx] at hA
            have e1 : (((j + 1 : Nat) : Int) - 1) = (j : Int) := by omega
            rw [e1]
            have i0 : (0 : Int) ≤ (j : Int) := by omega
            have i1 : (j : Int) < (L.length : Int) := by omega
            have t3 : decide ((0 : Int) ≤ (j : Int)) = true := by simp
            have t4 : (x != x) = false := by simp
            clear hx e1
            go_wp2_with fail
            refine (top_r hA (top_last x)).mono ?_; rintro e w8 ⟨rfl, n8, rfl⟩
            go_wp2_with fail
            refine (pop_r (hA.drewN n8) (pop_last x)).mono ?_; rintro e w7 ⟨rfl, F7, hA7, hM7⟩
            have cx7 : w7.cell? ⟨b, o + j, none⟩ = some (.int .i64 x) := by
              have hlt := World.block_lt_of_cell? wr _ cx
              rw [← cx]
              refine World.cell?_of_block (w := wr) (hM7.1.block b hlt fun hb => ?_)
              have h2' := H2.out
              obtain ⟨_, _, e, _, _, hc0⟩ := h2'
              cases e
              obtain ⟨b', o', e', c0⟩ := hc0 j L[j] (List.getElem?_eq_getElem (by omega))
              cases e'
              have h3 : b < w.heap.size := World.block_lt_of_cell? w _ c0
              have hb' : F b := hb
              rcases hM.2 b hb' with h1 | h1
              · exact h1
              · omega
            go_wp2_with fail
            go_roundw
            case rel => exact ⟨j, F7, by omega, rfl, hA7, (hM.new ((Keeps.refl (fun _ => False) _).drewN n8)).trans hM7⟩
            case measure => simp [intOf]

theorem order_any (w : World) (words : Int) (hw : -9223372036854775808 ≤ words ∧ words ≤ 9223372036854775807) (v : Value) (l : List (Int × Int)) (h : SlOp w v l) (size : Int) (hs : -9223372036854775808 ≤ size ∧ size ≤ 9223372036854775807) (v2 : Value) (l2 : List Int) (h2 : SlI w v2 l2) :
    Calls Try.prog 8 #[.int .i64 words, v, .int .i64 size, v2] w fun e w' => e = .returned (.bool true) ∧ Keeps (fun _ => False) w w' := by
  obtain ⟨N, hN, hN4⟩ := within_nat words 400
  obtain ⟨z, hz, hz4⟩ := within_nat size 40
  by_cases hf : (AM.acts (AM.new N) (l.take 150)).used + z ≤ N
  · exact order_yes hw h hs h2 hN hN4 hz hz4 hf
  · exact order_full hw h hs hN hN4 hz (by omega)
end Go.Proofs.Ytjmbgfkigfbioaa
