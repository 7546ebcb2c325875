/-
  ArenaApart, walked.
-/
import Derived.Test.YtjmbgfkigfbioaaOps
import Derived.Test.YtjmbgfkigfbioaaRuns
import Derived.Test.YtjmbgfkigfbioaaArp
namespace Go.Proofs.Ytjmbgfkigfbioaa
open Go.RowKit Go.Kw Go.Kreg Go.Arm

theorem nat_within (n : Int) (hi : Nat) : ∃ k : Nat, within n 0 hi = k ∧ k ≤ hi := by
  have := within_bd n 0 hi (by omega)
  exact ⟨(within n 0 hi).toNat, by omega, by omega⟩

/-- One of two things is done to the arena. -/
theorem AM.acts_ok (n : Nat) (l : List (Int × Int)) : (AM.acts (AM.new n) l).n = n ∧ (AM.acts (AM.new n) l).frs.length ≤ l.length := by
  have := acts_n l (AM.new n)
  simp only [AM.new, List.length_nil, Nat.zero_add] at this
  exact this

set_option maxRecDepth 100000 in
set_option maxHeartbeats 4000000 in
theorem apart_full {w : World} {words size : Int} (hw : -9223372036854775808 ≤ words ∧ words ≤ 9223372036854775807) {v : Value} {l : List (Int × Int)} (h : SlOp w v l) (hs : -9223372036854775808 ≤ size ∧ size ≤ 9223372036854775807) {v2 : Value}
    {N z : Nat} (hN : within words 0 400 = N) (hN4 : N ≤ 400) (hz : within size 0 40 = z) (hfull : N < (AM.acts (AM.new N) (l.take 200)).used + z) :
    Calls Try.prog 4 #[.int .i64 words, v, .int .i64 size, v2] w fun e w' => e = .returned (.bool true) ∧ Keeps (fun _ => False) w w' := by
  have hc := within_any w words 0 400 (by omega) (by omega) (by omega) hw.1 hw.2
  have hc2 := fun w => within_any w size 0 40 (by omega) (by omega) (by omega) hs.1 hs.2
  rw [hN] at hc
  rw [hz] at hc2
  have hlen : (l.take 200).length ≤ 1000 := by simp; omega
  obtain ⟨hn0, hf0⟩ := AM.acts_ok N (l.take 200)
  simp only [List.length_take] at hf0
  generalize hm : AM.acts (AM.new N) (l.take 200) = m0 at *
  have Hm := hid hm
  have Hn := hid hn0
  clear hm hN hz
  have hroom : decide (((m0.n : Int) - m0.used) < z) = true := by rw [hn0]; simp; omega
  have hfull' : (m0.n : Int) - m0.used < z := by rw [hn0]; omega
  clear hn0
  go_enter Try.func4, Try.ntmps4
  go_wp2_with fail
  refine hc.mono ?_; rintro e w1 ⟨rfl, rfl⟩
  go_wp2_with fail
  refine (few_any h 200 (by omega)).mono ?_; rintro e w2 ⟨⟨v', rfl, h'⟩, rfl⟩
  have h' := h' _ h
  go_wp2_with fail
  refine (made_any h' hlen N (by omega)).mono ?_; rintro e w3 ⟨p, F, rfl, hA, hM⟩
  rw [Hm.out] at hA
  go_wp2_with fail
  refine (hc2 _).mono ?_; rintro e w4 ⟨rfl, rfl⟩
  go_wp2_with fail
  refine (open_r hA (s := z) (r := 11) (m' := m0) (opens_full (by omega) hfull') (by omega)).mono ?_; rintro e w5 ⟨rfl, F5, hA5, hM5⟩
  go_wp2_with fail
  refine (room_m hA5).mono ?_; rintro e w6 ⟨rfl, n6, rfl⟩
  go_wp2_with fail
  refine (runs_any _).mono ?_; rintro e w7 ⟨rfl, k7⟩
  go_wp2_with fail
  go_ret
  exact ⟨rfl, (((hM.trans hM5).new ((Keeps.refl (fun _ => False) _).drewN n6)).new k7).1⟩

set_option maxRecDepth 100000 in
set_option maxHeartbeats 8000000 in
theorem apart_yes {w : World} {words size : Int} (hw : -9223372036854775808 ≤ words ∧ words ≤ 9223372036854775807) {v : Value} {l : List (Int × Int)} (h : SlOp w v l) (hs : -9223372036854775808 ≤ size ∧ size ≤ 9223372036854775807) {v2 : Value} {l2 : List (Int × Int)} (h2 : SlOp w v2 l2)
    {N z : Nat} (hN : within words 0 400 = N) (hN4 : N ≤ 400) (hz : within size 0 40 = z) (hz4 : z ≤ 40) (hfits : (AM.acts (AM.new N) (l.take 200)).used + z ≤ N) :
    Calls Try.prog 4 #[.int .i64 words, v, .int .i64 size, v2] w fun e w' => e = .returned (.bool true) ∧ Keeps (fun _ => False) w w' := by
  have hc := within_any w words 0 400 (by omega) (by omega) (by omega) hw.1 hw.2
  have hc2 := fun w => within_any w size 0 40 (by omega) (by omega) (by omega) hs.1 hs.2
  rw [hN] at hc
  rw [hz] at hc2
  have hlen : (l.take 200).length ≤ 1000 := by simp; omega
  obtain ⟨hn0, hf0⟩ := AM.acts_ok N (l.take 200)
  simp only [List.length_take] at hf0
  generalize hm : AM.acts (AM.new N) (l.take 200) = m0 at *
  have Hm := hid hm
  have Hn := hid hn0
  have H2 := hid h2
  clear hm hN hz h2
  obtain ⟨n0, init, hi0⟩ := m0
  simp only at hn0 hf0; subst hn0
  have ho : AM.opens ⟨n0, init, hi0⟩ z = (0, ⟨n0, init ++ [⟨z, []⟩], max hi0 (sizes init + z)⟩) := open_few hfits
  have hfits' : sizes init + z ≤ n0 := hfits
  generalize max hi0 (sizes init + z) = hi at *
  have Ho := hid ho
  have Hf := hid hfits
  clear hfits ho
  go_enter Try.func4, Try.ntmps4
  go_wp2_with fail
  refine hc.mono ?_; rintro e w1 ⟨rfl, rfl⟩
  go_wp2_with fail
  refine (few_any h 200 (by omega)).mono ?_; rintro e w2 ⟨⟨v', rfl, h'⟩, rfl⟩
  have h' := h' _ h
  go_wp2_with fail
  refine (made_any h' hlen n0 (by omega)).mono ?_; rintro e w3 ⟨p, F, rfl, hA, hM⟩
  rw [Hm.out] at hA
  go_wp2_with fail
  refine (hc2 _).mono ?_; rintro e w4 ⟨rfl, rfl⟩
  go_wp2_with fail
  refine (open_r hA (s := z) (r := 0) (m' := ⟨n0, init ++ [⟨z, []⟩], hi⟩) Ho.out (by simp only; omega)).mono ?_; rintro e w5 ⟨rfl, F5, hA5, hM5⟩
  have hu : AM.used ⟨n0, init ++ [⟨z, []⟩], hi⟩ = sizes init + z := by simp [AM.used, sizes_append, sizes_one]
  go_wp2_with fail
  refine (used_m hA5).mono ?_; rintro e w6 ⟨rfl, rfl⟩
  rw [hu]
  clear hu
  go_wp2_with fail
  refine (words_m hA5).mono ?_; rintro e w6 ⟨_, rfl, gw, rfl, hgw, hbw, hk6⟩
  have hsep : ∀ b, F5 b → b ≠ gw := fun b hb e => by have := hA5.lt b hb; omega
  have hA6 := hA5.new hk6
  have hM6 := (hM.trans hM5).new hk6
  go_wp2_with fail
  refine (few_any (H2.out.new hM6.1) 100 (by omega)).mono ?_; rintro e w7 ⟨⟨v2', rfl, h2'⟩, rfl⟩
  have h2' := h2' _ H2.out
  have hL2 : (l2.take 100).length ≤ 100 := by simp; omega
  generalize l2.take 100 = L2 at *
  have HS := hid h2'
  have hS2 := h2'
  obtain ⟨ao, c, rfl, hl2, hlc2, hcm2, _, _⟩ := hS2
  clear h2'
  go_wp2_with fail
  go_loopw [12] (fun i wr => ∃ (k : Nat) (F : Nat → Prop) (laid : List Int), k ≤ L2.length ∧ i = .int .i64 k ∧ AObj wr p ⟨n0, init ++ [⟨z, laid⟩], hi⟩ F ∧ Moves (fun _ => False) F w wr ∧ (∀ b, F b → b ≠ gw) ∧ Blk wr gw TI (ints (AM.words ⟨n0, init ++ [⟨z, []⟩], hi⟩))) (fun i _ => L2.length - (intOf i).toNat)
  case atStart => exact ⟨0, F5, [], Nat.zero_le _, rfl, hA6, hM6, hsep, hbw⟩
  case round =>
    obtain ⟨k, F, laid, hk, rfl, hA, hM, hsep, hbw⟩ := hrel
    by_cases hlt : k < L2.length
    · obtain ⟨_, _, e, _, _, _, hcells, hbd⟩ := HS.out.new hM.1
      cases e
      obtain ⟨b, o, rfl, c1, c2⟩ := hcells k L2[k] (List.getElem?_eq_getElem hlt)
      have hbx := hbd _ (List.getElem_mem hlt)
      generalize L2[k] = x at *
      clear hcells hbd
      have i0 : (0 : Int) ≤ (k : Int) := by omega
      have i1 : (k : Int) < (L2.length : Int) := by omega
      have b1 : decide ((k : Int) < (L2.length : Int)) = true := by simp; omega
      have hb2 : (x.1.tmod 2 == 0) = true ∨ (x.1.tmod 2 == 0) = false := by cases (x.1.tmod 2 == 0) <;> simp
      rcases hb2 with b2 | b2
      case' inl =>
        obtain ⟨laid2, hl⟩ := push_keep n0 hi z init laid x.2
        have Hl := hid hl
        clear hl
        go_wp2_with fail
        refine (push_m hA x.2).mono ?_; rintro e w2 ⟨rfl, F2, hA2, hM2⟩
        rw [Hl.out] at hA2
        clear Hl
      case' inr =>
        obtain ⟨laid2, hl⟩ := pop_keep n0 hi z init laid
        have Hl := hid hl
        clear hl
        go_wp2_with fail
        refine (pop_m hA).mono ?_; rintro e w2 ⟨rfl, F2, hA2, hM2⟩
        rw [Hl.out] at hA2
        clear Hl
      all_goals
        go_wp2_with fail
        refine (depth_m hA2).mono ?_; rintro e w3 ⟨rfl, rfl⟩
        have hf : AM.frame ⟨n0, init ++ [⟨z, laid2⟩], hi⟩ (init.length : Int) = some ⟨z, laid2⟩ := by
          unfold AM.frame; rw [if_neg (by omega)]; simp
        have Hf2 := hid hf
        clear hf
        go_wp2_with fail
        refine (frame_some hA2 Hf2.out).mono ?_; rintro e w3 ⟨_, rfl, gl, rfl, hgl, hbl, hk3⟩
        go_wp2_with fail
        refine (words_m (hA2.new hk3)).mono ?_; rintro e w4 ⟨_, rfl, gn, rfl, hgn, hbn, hk4⟩
        have hok := hA2.ok
        have hll : laid2.length ≤ z := by have := hok.laid_le ⟨z, laid2⟩ (by simp); simpa using this
        have b3 : decide ((z : Int) < (laid2.length : Int)) = false := by simp; omega
        have b4 : ((n0 : Int) != (n0 : Int)) = false := by simp
        have hbw4 : Blk w4 gw TI _ := hk4.blk (hk3.blk (hM2.1.blk hbw (fun hb => hsep _ hb rfl)) id) id
        have hbl4 : Blk w4 gl TI _ := hk4.blk hbl id
        have hnl : (AM.words ⟨n0, init ++ [⟨z, laid2⟩], hi⟩).length = n0 := AM.words_len hok
        have hwl : (AM.words ⟨n0, init ++ [⟨z, []⟩], hi⟩).length = n0 := AM.words_len hA5.ok
        have hout := fun (q : Nat) => words_out (k := q) hok
        have hin := fun (q : Nat) => words_in (k := q) hok
        generalize AM.words ⟨n0, init ++ [⟨z, laid2⟩], hi⟩ = NOW at *
        generalize hW : AM.words ⟨n0, init ++ [⟨z, []⟩], hi⟩ = WAS at *
        have HW := hid hW
        clear hW
        have Hout := hid hout
        have Hin := hid hin
        have Hnl := hid hnl
        have Hwl := hid hwl
        clear hout hin hnl hwl
        go_wp2_with fail
        go_loop [16] (fun i => ∃ q : Nat, q ≤ n0 ∧ i = .int .i64 q) (fun i => n0 - (intOf i).toNat)
        case atStart => exact ⟨0, Nat.zero_le _, rfl⟩
        case round =>
          obtain ⟨q, hq, rfl⟩ := hrel
          by_cases hq2 : q < n0
          · have hqn : q < NOW.length := by rw [Hnl.out]; exact hq2
            have hqw : q < WAS.length := by rw [Hwl.out]; exact hq2
            obtain ⟨y, hy⟩ : ∃ y, NOW[q]? = some y := ⟨_, List.getElem?_eq_getElem hqn⟩
            obtain ⟨y0, hy0⟩ : ∃ y, WAS[q]? = some y := ⟨_, List.getElem?_eq_getElem hqw⟩
            have cn : w4.cell? ⟨gn, q, none⟩ = some (.int .i64 y) := hbn.at (by rw [ints, List.getElem?_map, hy]; rfl)
            have cw : w4.cell? ⟨gw, q, none⟩ = some (.int .i64 y0) := hbw4.at (by rw [ints, List.getElem?_map, hy0]; rfl)
            have Hy := hid hy
            have Hy0 := hid hy0
            clear hy hy0 hqn hqw
            have j0 : (0 : Int) ≤ (q : Int) := by omega
            have j1 : (q : Int) < (n0 : Int) := by omega
            have t1 : decide ((q : Int) < (n0 : Int)) = true := by simp; omega
            by_cases hA1 : q < sizes init
            · have e : y = y0 := by
                have := Hout.out q (.inl hA1); rw [Hy.out, Hy0.out] at this; exact Option.some.inj this
              subst e
              have t2 : decide ((sizes init : Int) ≤ (q : Int)) = false := by simp; omega
              have t3 : (y != y) = false := by simp
              go_wp2
              go_round
              case rel => exact ⟨q + 1, by omega, by go_num⟩
              case measure => simp [intOf]; omega
            · by_cases hA2' : sizes init + z ≤ q
              · have e : y = y0 := by
                  have := Hout.out q (.inr hA2'); rw [Hy.out, Hy0.out] at this; exact Option.some.inj this
                subst e
                have t2 : decide ((sizes init : Int) ≤ (q : Int)) = true := by simp; omega
                have t4 : decide ((q : Int) < (sizes init : Int) + (z : Int)) = false := by simp; omega
                have t3 : (y != y) = false := by simp
                go_wp2
                go_round
                case rel => exact ⟨q + 1, by omega, by go_num⟩
                case measure => simp [intOf]; omega
              · obtain ⟨d, rfl⟩ : ∃ d, q = sizes init + d := ⟨q - sizes init, by omega⟩
                have hin := Hin.out (sizes init + d) (by omega) (by omega)
                rw [Hy.out, show sizes init + d - sizes init = d by omega] at hin
                have t2 : decide ((sizes init : Int) ≤ ((sizes init + d : Nat) : Int)) = true := by simp; omega
                have t4 : decide (((sizes init + d : Nat) : Int) < (sizes init : Int) + (z : Int)) = true := by simp; omega
                have j2 : (0 : Int) ≤ (d : Int) := by omega
                by_cases hd : d < laid2.length
                · rw [if_pos hd] at hin
                  have cl : w4.cell? ⟨gl, d, none⟩ = some (.int .i64 y) := hbl4.at (by rw [ints, List.getElem?_map, ← hin]; rfl)
                  have t5 : decide ((d : Int) < (laid2.length : Int)) = true := by simp; omega
                  have j3 : (d : Int) < (laid2.length : Int) := by omega
                  have t3 : (y != y) = false := by simp
                  clear hin
                  go_wp2
                  go_round
                  case rel => exact ⟨sizes init + d + 1, by omega, by go_num⟩
                  case measure => simp [intOf]; omega
                · rw [if_neg hd] at hin
                  obtain rfl : y = 0 := Option.some.inj hin
                  have t5 : decide ((d : Int) < (laid2.length : Int)) = false := by simp; omega
                  clear hin
                  go_wp2
                  go_round
                  case rel => exact ⟨sizes init + d + 1, by omega, by go_num⟩
                  case measure => simp [intOf]; omega
          · have t1 : decide ((q : Int) < (n0 : Int)) = false := by simp; omega
            go_wp2
            go_roundw
            case rel => exact ⟨k + 1, F2, laid2, by omega, by go_num, (hA2.new hk3).new hk4, ((hM.trans hM2).new hk3).new hk4, fun b hb e => (by rcases hM2.2 b hb with h1 | h1; exact hsep b h1 e; have := hbw.lt; omega), by rw [HW.out]; exact hbw4⟩
            case measure => simp [intOf]; omega
    · have b1 : decide ((k : Int) < (L2.length : Int)) = false := by simp; omega
      go_wp2_with fail
      refine (runs_any _).mono ?_; rintro e w7 ⟨rfl, k7⟩
      go_wp2_with fail
      go_ret
      exact ⟨rfl, (hM.new k7).1⟩

theorem apart_any (w : World) (words : Int) (hw : -9223372036854775808 ≤ words ∧ words ≤ 9223372036854775807) (v : Value) (l : List (Int × Int)) (h : SlOp w v l) (size : Int) (hs : -9223372036854775808 ≤ size ∧ size ≤ 9223372036854775807) (v2 : Value) (l2 : List (Int × Int)) (h2 : SlOp w v2 l2) :
    Calls Try.prog 4 #[.int .i64 words, v, .int .i64 size, v2] w fun e w' => e = .returned (.bool true) ∧ Keeps (fun _ => False) w w' := by
  obtain ⟨N, hN, hN4⟩ := nat_within words 400
  obtain ⟨z, hz, hz4⟩ := nat_within size 40
  by_cases hf : (AM.acts (AM.new N) (l.take 200)).used + z ≤ N
  · exact apart_yes hw h hs h2 hN hN4 hz hz4 hf
  · exact apart_full hw h hs hN hN4 hz (by omega)
end Go.Proofs.Ytjmbgfkigfbioaa
