/-
  ArenaBack, walked.
-/
import Derived.Test.YtjmbgfkigfbioaaOrd
namespace Go.Proofs.Ytjmbgfkigfbioaa
open Go.RowKit Go.Kw Go.Kreg Go.Arm

section
variable (n hi : Nat) (init top : List Fr)
theorem app_last (h : top ≠ []) : ∃ t f, top = t ++ [f] ∧ init ++ top = (init ++ t) ++ [f] := by
  obtain ⟨t, f, rfl⟩ := last_of h
  exact ⟨t, f, rfl, by simp⟩
theorem back_push (h : top ≠ []) (v : Int) : ∃ top', top'.length = top.length ∧ (AM.push ⟨n, init ++ top, hi⟩ v).2 = ⟨n, init ++ top', hi⟩ := by
  obtain ⟨t, f, rfl, e⟩ := app_last init top h
  obtain ⟨s, l⟩ := f
  obtain ⟨l', hl⟩ := push_keep n hi s (init ++ t) l v
  exact ⟨t ++ [⟨s, l'⟩], by simp, by rw [e, hl]; simp⟩
theorem back_pop (h : top ≠ []) : ∃ top', top'.length = top.length ∧ (AM.pop ⟨n, init ++ top, hi⟩).2.2 = ⟨n, init ++ top', hi⟩ := by
  obtain ⟨t, f, rfl, e⟩ := app_last init top h
  obtain ⟨s, l⟩ := f
  obtain ⟨l', hl⟩ := pop_keep n hi s (init ++ t) l
  exact ⟨t ++ [⟨s, l'⟩], by simp, by rw [e, hl]; simp⟩
theorem back_open (s : Nat) : (AM.opens ⟨n, init ++ top, hi⟩ s = (11, ⟨n, init ++ top, hi⟩)) ∨ ∃ f hi', hi ≤ hi' ∧ AM.opens ⟨n, init ++ top, hi⟩ s = (0, ⟨n, init ++ (top ++ [f]), hi'⟩) := by
  by_cases h : AM.used ⟨n, init ++ top, hi⟩ + s ≤ n
  · right
    refine ⟨⟨s, []⟩, max hi (AM.used ⟨n, init ++ top, hi⟩ + s), by omega, ?_⟩
    rw [open_few h]; simp
  · left; exact opens_full (by omega) (by simp only; omega)
theorem back_close (h : top ≠ []) : ∃ top', top'.length + 1 = top.length ∧ AM.closes ⟨n, init ++ top, hi⟩ = (0, ⟨n, init ++ top', hi⟩) := by
  obtain ⟨t, f, rfl, e⟩ := app_last init top h
  refine ⟨t, by simp, ?_⟩
  rw [e]; simp [AM.closes]
end

set_option maxRecDepth 100000 in
set_option maxHeartbeats 4000000 in
theorem back_full {w : World} {words size : Int} (hw : -9223372036854775808 ≤ words ∧ words ≤ 9223372036854775807) {v : Value} {l : List (Int × Int)} (h : SlOp w v l) (hs : -9223372036854775808 ≤ size ∧ size ≤ 9223372036854775807) {v2 : Value}
    {N z : Nat} (hN : within words 0 400 = N) (hN4 : N ≤ 400) (hz : within size 0 40 = z) (hfull : N < (AM.acts (AM.new N) (l.take 200)).used + z) :
    Calls Try.prog 9 #[.int .i64 words, v, .int .i64 size, v2] w fun e w' => e = .returned (.bool true) ∧ Keeps (fun _ => False) w w' := by
  have hc := within_any w words 0 400 (by omega) (by omega) (by omega) hw.1 hw.2
  have hc2 := fun w => within_any w size 0 40 (by omega) (by omega) (by omega) hs.1 hs.2
  rw [hN] at hc
  rw [hz] at hc2
  have hlen : (l.take 200).length ≤ 1000 := by simp; omega
  obtain ⟨hn0, hf0⟩ := acts_len N (l.take 200)
  simp only [List.length_take] at hf0
  generalize hm : AM.acts (AM.new N) (l.take 200) = m0 at *
  have Hm := hid hm
  have Hn := hid hn0
  clear hm hN hz
  have hroom : decide (((m0.n : Int) - m0.used) < z) = true := by rw [hn0]; simp; omega
  have hfull' : (m0.n : Int) - m0.used < z := by rw [hn0]; omega
  clear hn0
  go_enter Try.func9, Try.ntmps9
  go_wp2_with fail
  refine hc.mono ?_; rintro e w1 ⟨rfl, rfl⟩
  go_wp2_with fail
  refine (few_any h 200 (by omega)).mono ?_; rintro e w2 ⟨⟨v', rfl, h'⟩, rfl⟩
  have h' := h' _ h
  go_wp2_with fail
  refine (made_any h' hlen N (by omega)).mono ?_; rintro e w3 ⟨p, F, rfl, hA, hM⟩
  rw [Hm.out] at hA
  have hwl := AM.words_len hA.ok
  have hnn := hA.ok.n_le
  go_wp2_with fail
  refine (words_m hA).mono ?_; rintro e w4 ⟨_, rfl, g4, rfl, hg4, hb4, hk4⟩
  have hA4 := hA.new hk4
  have hM4 := hM.new hk4
  have hsep : ∀ b, F b → b ≠ g4 := fun b hb e => by have := hA.lt b hb; omega
  have s4 := Blk.sl' hb4 hwl.symm (by omega) m0.n (Nat.le_refl _)
  have Hwl := hid hwl
  clear hwl
  go_wp2_with fail
  refine (depth_m hA4).mono ?_; rintro e w5 ⟨rfl, rfl⟩
  go_wp2_with fail
  refine (used_m hA4).mono ?_; rintro e w5 ⟨rfl, rfl⟩
  go_wp2_with fail
  refine (high_m hA4).mono ?_; rintro e w5 ⟨rfl, rfl⟩
  go_wp2_with fail
  refine (top_m hA4).mono ?_; rintro e w5 ⟨rfl, n5, rfl⟩
  go_wp2_with fail
  refine (hc2 _).mono ?_; rintro e w6 ⟨rfl, rfl⟩
  go_wp2_with fail
  refine (open_r (hA4.drewN n5) (s := z) (r := 11) (m' := m0) (opens_full (by omega) hfull') (by omega)).mono ?_; rintro e w6 ⟨rfl, F6, hA6, hM6⟩
  have s6 : SlI w6 _ m0.words := (s4.drewN n5).keeps hM6.1 (fun b ⟨_, _, _, e⟩ hb => hsep b hb (by cases e; rfl))
  go_wp2_with fail
  refine (room_m hA6).mono ?_; rintro e w7 ⟨rfl, n7, rfl⟩
  have hA7 := hA6.drewN n7
  go_wp2_with fail
  refine (depth_m hA7).mono ?_; rintro e w8 ⟨rfl, rfl⟩
  go_wp2_with fail
  refine (words_m hA7).mono ?_; rintro e w8 ⟨_, rfl, g8, rfl, hg8, hb8, hk8⟩
  have s8 := Blk.sl' hb8 Hwl.out.symm (by have := Hwl.out; omega) m0.n (Nat.le_refl _)
  go_wp2_with fail
  refine (same_yes s8 ((s6.drewN n7).new hk8)).mono ?_; rintro e w9 ⟨rfl, n9, rfl⟩
  have k9 := hk8.drewN n9
  have hA9 := hA7.new k9
  go_wp2_with fail
  refine (high_m hA9).mono ?_; rintro e w10 ⟨rfl, rfl⟩
  go_wp2_with fail
  refine (runs_any _).mono ?_; rintro e w11 ⟨rfl, k11⟩
  go_wp2_with fail
  go_ret
  exact ⟨rfl, (((((hM4.new ((Keeps.refl (fun _ => False) _).drewN n5)).trans hM6).new ((Keeps.refl (fun _ => False) _).drewN n7)).new k9).new k11).1⟩

set_option maxRecDepth 100000 in
set_option maxHeartbeats 8000000 in
theorem back_yes {w : World} {words size : Int} (hw : -9223372036854775808 ≤ words ∧ words ≤ 9223372036854775807) {v : Value} {l : List (Int × Int)} (h : SlOp w v l) (hs : -9223372036854775808 ≤ size ∧ size ≤ 9223372036854775807) {v2 : Value} {l2 : List (Int × Int)} (h2 : SlOp w v2 l2)
    {N z : Nat} (hN : within words 0 400 = N) (hN4 : N ≤ 400) (hz : within size 0 40 = z) (hfits : (AM.acts (AM.new N) (l.take 200)).used + z ≤ N) :
    Calls Try.prog 9 #[.int .i64 words, v, .int .i64 size, v2] w fun e w' => e = .returned (.bool true) ∧ Keeps (fun _ => False) w w' := by
  have hc := within_any w words 0 400 (by omega) (by omega) (by omega) hw.1 hw.2
  have hc2 := fun w => within_any w size 0 40 (by omega) (by omega) (by omega) hs.1 hs.2
  rw [hN] at hc
  rw [hz] at hc2
  have hlen : (l.take 200).length ≤ 1000 := by simp; omega
  obtain ⟨hn0, hf0⟩ := acts_len N (l.take 200)
  simp only [List.length_take] at hf0
  generalize hm : AM.acts (AM.new N) (l.take 200) = m0 at *
  have Hm := hid hm
  have H2 := hid h2
  clear hm hN hz h2
  obtain ⟨n0, init, hi0⟩ := m0
  simp only at hn0 hf0; subst hn0
  have ho : AM.opens ⟨n0, init, hi0⟩ z = (0, ⟨n0, init ++ [⟨z, []⟩], max hi0 (sizes init + z)⟩) := open_few hfits
  have hfits' : sizes init + z ≤ n0 := hfits
  have hmax : hi0 ≤ max hi0 (sizes init + z) ∧ sizes init + z ≤ max hi0 (sizes init + z) := by omega
  generalize max hi0 (sizes init + z) = hi at *
  have Ho := hid ho
  clear hfits ho
  go_enter Try.func9, Try.ntmps9
  go_wp2_with fail
  refine hc.mono ?_; rintro e w1 ⟨rfl, rfl⟩
  go_wp2_with fail
  refine (few_any h 200 (by omega)).mono ?_; rintro e w2 ⟨⟨v', rfl, h'⟩, rfl⟩
  have h' := h' _ h
  go_wp2_with fail
  refine (made_any h' hlen n0 (by omega)).mono ?_; rintro e w3 ⟨p, F, rfl, hA, hM⟩
  rw [Hm.out] at hA
  have hwl := AM.words_len hA.ok
  simp only at hwl
  have Hwl := hid hwl
  clear hwl
  go_wp2_with fail
  refine (words_m hA).mono ?_; rintro e w4 ⟨_, rfl, gw, rfl, hg4, hb4, hk4⟩
  have hA4 := hA.new hk4
  have hM4 := hM.new hk4
  have hsep : ∀ b, F b → b ≠ gw := fun b hb e => by have := hA.lt b hb; omega
  go_wp2_with fail
  refine (depth_m hA4).mono ?_; rintro e w5 ⟨rfl, rfl⟩
  go_wp2_with fail
  refine (used_m hA4).mono ?_; rintro e w5 ⟨rfl, rfl⟩
  go_wp2_with fail
  refine (high_m hA4).mono ?_; rintro e w5 ⟨rfl, rfl⟩
  go_wp2_with fail
  refine (top_m hA4).mono ?_; rintro e w5 ⟨rfl, n5, rfl⟩
  have htop : ∀ hi', AM.top ⟨n0, init, hi'⟩ = AM.top ⟨n0, init, hi0⟩ := fun _ => rfl
  have Htop := hid htop
  clear htop
  generalize AM.top ⟨n0, init, hi0⟩ = tp at *
  obtain ⟨tx, tb⟩ := tp
  have hu0 : AM.used ⟨n0, init, hi0⟩ = sizes init := rfl
  rw [hu0]
  go_wp2_with fail
  refine (hc2 _).mono ?_; rintro e w6 ⟨rfl, rfl⟩
  go_wp2_with fail
  refine (open_r (hA4.drewN n5) (s := z) (r := 0) (m' := ⟨n0, init ++ [⟨z, []⟩], hi⟩) Ho.out (by simp only; omega)).mono ?_; rintro e w6 ⟨rfl, F6, hA6, hM6⟩
  have hM6' := (hM4.new ((Keeps.refl (fun _ => False) _).drewN n5)).trans hM6
  have hb6 : Blk w6 gw TI _ := hM6.1.blk (hb4.drewN n5) (fun hb => hsep _ hb rfl)
  have hsep6 : ∀ b, F6 b → b ≠ gw := fun b hb e => by
    rcases hM6.2 b hb with h1 | h1
    · exact hsep b h1 e
    · have := hb4.lt; simp at h1; omega
  have hu6 : AM.used ⟨n0, init ++ [⟨z, []⟩], hi⟩ = sizes init + z := by simp [AM.used, sizes_append, sizes_one]
  clear hA hM hA4 hM4 hM6 hb4 hsep
  go_wp2_with fail
  refine (used_m hA6).mono ?_; rintro e w7 ⟨rfl, rfl⟩
  rw [hu6]
  have q1 : ((sizes init : Int) + z != ((sizes init : Int) + z)) = false := by simp
  go_wp2_with fail
  refine (used_m hA6).mono ?_; rintro e w7 ⟨rfl, rfl⟩
  rw [hu6]
  go_wp2_with fail
  refine (room_m hA6).mono ?_; rintro e w7 ⟨rfl, n7, rfl⟩
  rw [hu6]
  simp only
  have q2 : ((sizes init : Int) + z + ((n0 : Int) - ((sizes init + z : Nat) : Int)) != (n0 : Int)) = false := by simp; omega
  go_wp2_with fail
  have hA7 := hA6.drewN n7
  have hM7 := hM6'.new ((Keeps.refl (fun _ => False) _).drewN n7)
  have hb7 := hb6.drewN n7
  clear hA6 hM6' hb6
  generalize w6.drewN n7 = w7 at *
  have q3 : ¬ hi < hi0 := by omega
  have q4 : ¬ (hi : Int) < (sizes init : Int) + (z : Int) := by omega
  refine (high_m hA7).mono ?_; rintro e w8 ⟨rfl, rfl⟩
  go_wp2_with fail
  refine (high_m hA7).mono ?_; rintro e w8 ⟨rfl, rfl⟩
  go_wp2_with fail
  refine (used_m hA7).mono ?_; rintro e w8 ⟨rfl, rfl⟩
  rw [hu6]
  have q5 : ¬ hi < sizes init + z := by omega
  go_wp2_with fail
  refine (few_any (H2.out.new hM7.1) 100 (by omega)).mono ?_; rintro e w8 ⟨⟨v2', rfl, h2'⟩, rfl⟩
  have h2' := h2' _ H2.out
  have hL2 : (l2.take 100).length ≤ 100 := by simp; omega
  generalize l2.take 100 = L2 at *
  have HS := hid h2'
  obtain ⟨ao, c, rfl, hl2, hlc2, hcm2, _, _⟩ := h2'
  clear q1 q2 q3 q4 q5 hu6 hu0
  go_wp2_with fail
  go_loopw [16, 17] (fun u i wr => ∃ (k : Nat) (F : Nat → Prop) (top : List Fr) (hi' : Nat), k ≤ L2.length ∧ i = .int .i64 k ∧ u = .int .i64 top.length ∧ 1 ≤ top.length ∧ top.length ≤ k + 1 ∧ hi0 ≤ hi' ∧ AObj wr p ⟨n0, init ++ top, hi'⟩ F ∧ Moves (fun _ => False) F w wr ∧ (∀ b, F b → b ≠ gw) ∧ Blk wr gw TI (ints (AM.words ⟨n0, init, hi0⟩))) (fun _ i _ => L2.length - (intOf i).toNat)
  case atStart => exact ⟨0, F6, [⟨z, []⟩], hi, Nat.zero_le _, rfl, rfl, by simp, by simp, hmax.1, hA7, hM7, hsep6, hb7⟩
  case round =>
    clear hA7 hM7 hsep6 hb7
    obtain ⟨k, F, top, hi', hk, rfl, rfl, htop1, htopk, hhi, hA, hM, hsep, hbw⟩ := hrel
    have hne : top ≠ [] := by intro e; subst e; simp at htop1
    have keep : ∀ (w2 : World) (F2 : Nat → Prop), Moves F F2 wr w2 → (∀ b, F2 b → b ≠ gw) ∧ Blk w2 gw TI (ints (AM.words ⟨n0, init, hi0⟩)) := fun w2 F2 hM2 =>
      ⟨fun b hb e => by
        rcases hM2.2 b hb with h1 | h1
        · exact hsep b h1 e
        · have := hbw.lt; omega, hM2.1.blk hbw fun hb => hsep _ hb rfl⟩
    have Keep := hid keep
    clear keep
    by_cases hlt : k < L2.length
    · obtain ⟨b, o, x, rfl, hx, c1, c2, hx1, hx2⟩ := (HS.out.new hM.1).at hlt
      obtain ⟨kd, nn⟩ := x
      clear hx
      simp only at c1 c2 hx1 hx2
      have i0 : (0 : Int) ≤ (k : Int) := by omega
      have i1 : (k : Int) < (L2.length : Int) := by omega
      have hfew : (init ++ top).length < 1000000 := by simp; omega
      by_cases e0 : kd = 0
      · subst e0
        obtain ⟨s, hsn, hs9⟩ := within_nat nn 9
        have hcn : ∀ w, _ := fun w => within_any w nn 0 9 (by omega) (by omega) (by omega) hx2.1 hx2.2
        have hsn' : within nn 0 9 = s := hsn
        rw [hsn'] at hcn
        clear hsn hsn'
        rcases back_open n0 hi' init top s with he | ⟨f, hi2, hhi2, he⟩
        all_goals
          have He := hid he
          clear he
          go_wp2_with fail
          refine (hcn _).mono ?_; rintro e w8 ⟨rfl, rfl⟩
          go_wp2_with fail
        · refine (open_r hA He.out hfew).mono ?_; rintro e w9 ⟨rfl, F9, hA9, hM9⟩
          go_wp2_with fail
          go_roundw
          case rel => exact ⟨k + 1, F9, top, hi', by omega, by go_num, rfl, htop1, by omega, hhi, hA9, hM.trans hM9, (Keep.out _ _ hM9).1, (Keep.out _ _ hM9).2⟩
          case measure => simp [intOf]; omega
        · refine (open_r hA He.out hfew).mono ?_; rintro e w9 ⟨rfl, F9, hA9, hM9⟩
          go_wp2_with fail
          go_roundw
          case rel => exact ⟨k + 1, F9, top ++ [f], hi2, by omega, by go_num, by simp, by simp, by simp; omega, by omega, hA9, hM.trans hM9, (Keep.out _ _ hM9).1, (Keep.out _ _ hM9).2⟩
          case measure => simp [intOf]; omega
      · have b0 : (kd == 0) = false := by simpa using e0
        by_cases e1 : kd = 1
        · subst e1
          clear e0
          by_cases hup : 1 < top.length
          · obtain ⟨top', hl', he⟩ := back_close n0 hi' init top hne
            have He := hid he
            clear he
            have b1 : decide ((1 : Int) < (top.length : Int)) = true := by simp; omega
            go_wp2_with fail
            refine (close_r hA He.out).mono ?_; rintro e w9 ⟨rfl, F9, hA9, hM9⟩
            go_wp2_with fail
            go_roundw
            case rel => exact ⟨k + 1, F9, top', hi', by omega, by go_num, by rw [← hl']; go_num, by omega, by omega, hhi, hA9, hM.trans hM9, (Keep.out _ _ hM9).1, (Keep.out _ _ hM9).2⟩
            case measure => simp [intOf]; omega
          · have b1 : decide ((1 : Int) < (top.length : Int)) = false := by simp; omega
            go_wp2_with fail
            go_roundw
            case rel => exact ⟨k + 1, F, top, hi', by omega, by go_num, rfl, htop1, by omega, hhi, hA, hM, hsep, hbw⟩
            case measure => simp [intOf]; omega
        · have b1 : (kd == 1) = false := by simpa using e1
          by_cases e2 : kd = 2
          · subst e2
            clear e0 e1
            obtain ⟨top', hl', he⟩ := back_push n0 hi' init top hne nn
            have He := hid he
            clear he
            go_wp2_with fail
            refine (push_m hA nn).mono ?_; rintro e w9 ⟨rfl, F9, hA9, hM9⟩
            rw [He.out] at hA9
            go_wp2_with fail
            go_roundw
            case rel => exact ⟨k + 1, F9, top', hi', by omega, by go_num, by rw [hl'], by omega, by omega, hhi, hA9, hM.trans hM9, (Keep.out _ _ hM9).1, (Keep.out _ _ hM9).2⟩
            case measure => simp [intOf]; omega
          · have b2 : (kd == 2) = false := by simpa using e2
            clear e0 e1 e2
            obtain ⟨top', hl', he⟩ := back_pop n0 hi' init top hne
            have He := hid he
            clear he
            go_wp2_with fail
            refine (pop_m hA).mono ?_; rintro e w9 ⟨rfl, F9, hA9, hM9⟩
            rw [He.out] at hA9
            go_wp2_with fail
            go_roundw
            case rel => exact ⟨k + 1, F9, top', hi', by omega, by go_num, by rw [hl'], by omega, by omega, hhi, hA9, hM.trans hM9, (Keep.out _ _ hM9).1, (Keep.out _ _ hM9).2⟩
            case measure => simp [intOf]; omega
    · clear Keep
      go_wp2_with fail
      go_loopw [16] (fun u wr => ∃ (F : Nat → Prop) (top : List Fr), u = .int .i64 top.length ∧ top.length ≤ 200 ∧ AObj wr p ⟨n0, init ++ top, hi'⟩ F ∧ Moves (fun _ => False) F w wr ∧ (∀ b, F b → b ≠ gw) ∧ Blk wr gw TI (ints (AM.words ⟨n0, init, hi0⟩))) (fun u _ => (intOf u).toNat)
      case atStart => exact ⟨F, top, rfl, by omega, hA, hM, hsep, hbw⟩
      case round =>
        clear hA hM hsep hbw
        obtain ⟨F, top, rfl, ht2, hA, hM, hsep, hbw⟩ := hrel
        by_cases hz0 : top = []
        · subst hz0
          simp only [List.append_nil] at hA
          go_wp2_with fail
          refine (top_r hA (Htop.out hi')).mono ?_; rintro e w9 ⟨rfl, n9, rfl⟩
          have hA9 := hA.drewN n9
          have hbw9 := hbw.drewN n9
          go_wp2_with fail
          refine (words_m hA9).mono ?_; rintro e w10 ⟨_, rfl, g10, rfl, hg10, hb10, hk10⟩
          have hA10 := hA9.new hk10
          have hwe : AM.words ⟨n0, init, hi'⟩ = AM.words ⟨n0, init, hi0⟩ := rfl
          rw [hwe] at hb10
          have s10 := Blk.sl' hb10 Hwl.out.symm (by have := Hwl.out; omega) n0 (Nat.le_refl _)
          have s9 := Blk.sl' (hk10.blk hbw9 id) Hwl.out.symm (by have := Hwl.out; omega) n0 (Nat.le_refl _)
          clear hwe
          go_wp2_with fail
          refine (same_yes s10 s9).mono ?_; rintro e w11 ⟨rfl, n11, rfl⟩
          have hA11 := hA10.drewN n11
          have hK11 := ((hM.new ((Keeps.refl (fun _ => False) _).drewN n9)).new hk10).new ((Keeps.refl (fun _ => False) _).drewN n11)
          generalize w10.drewN n11 = w11 at *
          have q1 : ((init.length : Int) == (init.length : Int)) = true := by simp
          have q2 : ((sizes init : Int) == (sizes init : Int)) = true := by simp
          have q3 : (tx == tx) = true := by simp
          have q4 : (tb == tb) = true := by simp
          have hu11 : AM.used ⟨n0, init, hi'⟩ = sizes init := rfl
          go_wp2_with fail
          refine (depth_m hA11).mono ?_; rintro e w12 ⟨rfl, rfl⟩
          go_wp2_with fail
          refine (used_m hA11).mono ?_; rintro e w12 ⟨rfl, rfl⟩
          rw [hu11]
          clear hu11
          go_wp2_with fail
          refine (high_m hA11).mono ?_; rintro e w12 ⟨rfl, rfl⟩
          go_wp2_with fail
          refine (runs_any _).mono ?_; rintro e w13 ⟨rfl, k13⟩
          go_wp2_with fail
          go_ret
          exact ⟨rfl, (hK11.new k13).1⟩
        · obtain ⟨top', hl', he⟩ := back_close n0 hi' init top hz0
          have He := hid he
          clear he
          have b1 : 0 < top.length := by omega
          have b2 : decide ((0 : Int) < (top.length : Int)) = true := by simp; omega
          go_wp2_with fail
          refine (close_r hA He.out).mono ?_; rintro e w9 ⟨rfl, F9, hA9, hM9⟩
          have hsep9 : ∀ b, F9 b → b ≠ gw := fun b hb e => by
            rcases hM9.2 b hb with h1 | h1
            · exact hsep b h1 e
            · have := hbw.lt; omega
          have hbw9 := hM9.1.blk hbw fun hb => hsep _ hb rfl
          go_wp2_with fail
          go_roundw
          case rel => exact ⟨F9, top', by rw [← hl']; go_num, by omega, hA9, hM.trans hM9, hsep9, hbw9⟩
          case measure => simp [intOf]; omega

theorem back_any (w : World) (words : Int) (hw : -9223372036854775808 ≤ words ∧ words ≤ 9223372036854775807) (v : Value) (l : List (Int × Int)) (h : SlOp w v l) (size : Int) (hs : -9223372036854775808 ≤ size ∧ size ≤ 9223372036854775807) (v2 : Value) (l2 : List (Int × Int)) (h2 : SlOp w v2 l2) :
    Calls Try.prog 9 #[.int .i64 words, v, .int .i64 size, v2] w fun e w' => e = .returned (.bool true) ∧ Keeps (fun _ => False) w w' := by
  obtain ⟨N, hN, hN4⟩ := within_nat words 400
  obtain ⟨z, hz, _⟩ := within_nat size 40
  by_cases hf : (AM.acts (AM.new N) (l.take 200)).used + z ≤ N
  · exact back_yes hw h hs h2 hN hN4 hz hf
  · exact back_full hw h hs hN hN4 hz (by omega)
end Go.Proofs.Ytjmbgfkigfbioaa
