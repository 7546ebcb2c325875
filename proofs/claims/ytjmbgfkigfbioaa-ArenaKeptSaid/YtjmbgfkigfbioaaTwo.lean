/-
  ArenaTwo, walked.
-/
import Derived.Test.YtjmbgfkigfbioaaOps
import Derived.Test.YtjmbgfkigfbioaaRuns
namespace Go.Proofs.Ytjmbgfkigfbioaa
open Go.RowKit Go.Kw Go.Kreg Go.Arm

theorem within_nat (n : Int) (hi : Nat) : ∃ k : Nat, within n 0 hi = k ∧ k ≤ hi := by
  have := within_bd n 0 hi (by omega)
  exact ⟨(within n 0 hi).toNat, by omega, by omega⟩

theorem acts_more (m : AM) (l : List (Int × Int)) (k : Nat) (h : l.length ≤ k) : AM.acts m (l.take (k + 1)) = AM.acts m (l.take k) := by
  rw [List.take_of_length_le (by omega), List.take_of_length_le h]

theorem Moves.other {w w' : World} {p : Nat} {m : AM} {F F' G : Nat → Prop} (hm : Moves F F' w w') (h : AObj w p m G) (hs : Sep F G) : AObj w' p m G ∧ Sep F' G :=
  ⟨h.keeps hm.1 hs.symm, hm.sep hs h.lt⟩
theorem Keeps.on {w w1 w2 : World} {F F' : Nat → Prop} (h : Keeps (fun _ => False) w w1) (hm : Moves F F' w1 w2) (hF : ∀ b, F b → w.heap.size ≤ b) : Keeps (fun _ => False) w w2 ∧ ∀ b, F' b → w.heap.size ≤ b :=
  ⟨h.trans' hm.1 fun b hb => .inr (hF b hb), fun b hb => by
    rcases hm.2 b hb with h1 | h1
    · exact hF b h1
    · exact Nat.le_trans h.size h1⟩

theorem Blk.sl' {w : World} {g T n : Nat} {xs : List Int} (h : Blk w g T (ints xs)) (hn : n = xs.length) (hl : xs.length ≤ 140737488351232) (c : Nat) (hlc : n ≤ c) : SlI w (.slice (some ⟨g, 0, none⟩) n c) xs := by
  subst hn; exact Blk.sl h hl c hlc

/-- A call's cells, in a later world. -/
theorem SlOp.at {w : World} {ao : Option Addr} {c : Nat} {l : List (Int × Int)} (h : SlOp w (.slice ao l.length c) l) {k : Nat} (hk : k < l.length) :
    ∃ b o x, ao = some ⟨b, o, none⟩ ∧ l[k]? = some x ∧ w.cell? ⟨b, o + k * 2, none⟩ = some (.int .i64 x.1) ∧ w.cell? ⟨b, o + k * 2 + 1, none⟩ = some (.int .i64 x.2) ∧ (-9223372036854775808 ≤ x.1 ∧ x.1 ≤ 9223372036854775807) ∧ (-9223372036854775808 ≤ x.2 ∧ x.2 ≤ 9223372036854775807) := by
  obtain ⟨_, _, e, _, _, _, hc, hx⟩ := h
  cases e
  obtain ⟨b, o, rfl, h1, h2⟩ := hc k l[k] (List.getElem?_eq_getElem hk)
  have := hx _ (List.getElem_mem hk)
  exact ⟨b, o, l[k], rfl, List.getElem?_eq_getElem hk, h1, h2, this.1, this.2⟩

set_option maxRecDepth 100000 in
set_option maxHeartbeats 8000000 in
theorem two_any (w : World) (words : Int) (hw : -9223372036854775808 ≤ words ∧ words ≤ 9223372036854775807) (va : Value) (la : List (Int × Int)) (ha : SlOp w va la) (vb : Value) (lb : List (Int × Int)) (hb : SlOp w vb lb) :
    Calls Try.prog 7 #[.int .i64 words, va, vb] w fun e w' => e = .returned (.bool true) ∧ Keeps (fun _ => False) w w' := by
  obtain ⟨N, hN0, hN4⟩ := within_nat words 200
  have hN : within words 0 200 = N := hN0
  clear hN0
  have hc := within_any w words 0 200 (by omega) (by omega) (by omega) hw.1 hw.2
  rw [hN] at hc
  clear hN
  go_enter Try.func7, Try.ntmps7
  go_wp2_with fail
  refine hc.mono ?_; rintro e w1 ⟨rfl, rfl⟩
  go_wp2_with fail
  refine (few_any ha 80 (by omega)).mono ?_; rintro e w2 ⟨⟨va', rfl, ha'⟩, rfl⟩
  have hA := ha' _ ha
  have hLA : (la.take 80).length ≤ 80 := by simp; omega
  generalize la.take 80 = A at *
  clear ha'
  go_wp2_with fail
  refine (few_any hb 80 (by omega)).mono ?_; rintro e w2 ⟨⟨vb', rfl, hb'⟩, rfl⟩
  have hB := hb' _ hb
  have hLB : (lb.take 80).length ≤ 80 := by simp; omega
  generalize lb.take 80 = B at *
  clear hb'
  have HA := hid hA
  have HB := hid hB
  obtain ⟨aoA, cA, rfl, hlA, hcA, hmA, _, _⟩ := hA
  obtain ⟨aoB, cB, rfl, hlB, hcB, hmB, _, _⟩ := hB
  go_wp2_with fail
  refine (made_any (SlOp.nil _) (by simp) N (by omega)).mono ?_; rintro e w3 ⟨p, Fx, rfl, hX, hMx⟩
  go_wp2_with fail
  refine (made_any (SlOp.nil _) (by simp) N (by omega)).mono ?_; rintro e w4 ⟨q, Fy, rfl, hY, hMy⟩
  have hX4 := hX.new hMy.1
  have hsep : Sep Fx Fy := fun b h1 h2 => by
    have := hX.lt b h1
    rcases hMy.2 b h2 with h3 | h3
    · exact h3
    · omega
  have hK : Keeps (fun _ => False) w w4 := hMx.1.trans hMy.1
  have hFx : ∀ b, Fx b → w.heap.size ≤ b := fun b h => by have := hMx.2 b h; simpa using this
  have hFy : ∀ b, Fy b → w.heap.size ≤ b := fun b h => by
    rcases hMy.2 b h with h3 | h3
    · exact h3.elim
    · exact Nat.le_trans hMx.1.size h3
  go_wp2_with fail
  go_loopw [9] (fun i wr => ∃ (k : Nat) (Fx Fy : Nat → Prop), k ≤ A.length + B.length ∧ i = .int .i64 k ∧ AObj wr p (AM.acts (AM.new N) (A.take k)) Fx ∧ AObj wr q (AM.acts (AM.new N) (B.take k)) Fy ∧ Sep Fx Fy ∧ Keeps (fun _ => False) w wr ∧ (∀ b, Fx b → w.heap.size ≤ b) ∧ (∀ b, Fy b → w.heap.size ≤ b)) (fun i _ => A.length + B.length - (intOf i).toNat)
  case atStart => exact ⟨0, Fx, Fy, Nat.zero_le _, rfl, hX4, hY, hsep, hK, hFx, hFy⟩
  case round =>
    clear hX hMx hX4 hY hMy hsep hK hFx hFy
    obtain ⟨k, Fx, Fy, hk, rfl, hX, hY, hsep, hK, hFx, hFy⟩ := hrel
    have hfA := (acts_n (A.take k) (AM.new N)).2
    have hfB := (acts_n (B.take k) (AM.new N)).2
    simp only [AM.new, List.length_nil, List.length_take] at hfA hfB
    by_cases hkA : k < A.length
    · obtain ⟨ba, oa, xa, rfl, hxa, ca1, ca2, _, _⟩ := (HA.out.new hK).at hkA
      have Hxa := hid hxa
      clear hxa
      have i0 : (0 : Int) ≤ (k : Int) := by omega
      have i1 : (k : Int) < (A.length : Int) := by omega
      have t1 : decide ((k : Int) < (A.length : Int)) = true := by simp; omega
      by_cases hkB : k < B.length
      · have i2 : (k : Int) < (B.length : Int) := by omega
        have t2 : decide ((k : Int) < (B.length : Int)) = true := by simp; omega
        go_wp2_with fail
        refine (act_m hX (by simp only [AM.new]; omega) xa.1 xa.2).mono ?_; rintro e w5 ⟨rfl, Fx5, hX5, hM5⟩
        obtain ⟨hY5, hsep5⟩ := Moves.other hM5 hY hsep
        obtain ⟨hK5, hFx5⟩ := Keeps.on hK hM5 hFx
        obtain ⟨bb, ob, xb, rfl, hxb, cb1, cb2, _, _⟩ := (HB.out.new hK5).at hkB
        have Hxb := hid hxb
        clear hxb
        go_wp2_with fail
        refine (act_m hY5 (by simp only [AM.new]; omega) xb.1 xb.2).mono ?_; rintro e w6 ⟨rfl, Fy6, hY6, hM6⟩
        obtain ⟨hX6, hsep6⟩ := Moves.other hM6 hX5 hsep5.symm
        obtain ⟨hK6, hFy6⟩ := Keeps.on hK5 hM6 hFy
        go_wp2_with fail
        go_roundw
        case rel => exact ⟨k + 1, Fx5, Fy6, by omega, by go_num, by rw [acts_take _ _ _ Hxa.out]; exact hX6, by rw [acts_take _ _ _ Hxb.out]; exact hY6, hsep6.symm, hK6, hFx5, hFy6⟩
        case measure => simp [intOf]; omega
      · have t2 : decide ((k : Int) < (B.length : Int)) = false := by simp; omega
        go_wp2_with fail
        refine (act_m hX (by simp only [AM.new]; omega) xa.1 xa.2).mono ?_; rintro e w5 ⟨rfl, Fx5, hX5, hM5⟩
        obtain ⟨hY5, hsep5⟩ := Moves.other hM5 hY hsep
        obtain ⟨hK5, hFx5⟩ := Keeps.on hK hM5 hFx
        go_wp2_with fail
        go_roundw
        case rel => exact ⟨k + 1, Fx5, Fy, by omega, by go_num, by rw [acts_take _ _ _ Hxa.out]; exact hX5, by rw [acts_more _ _ _ (by omega)]; exact hY5, hsep5, hK5, hFx5, hFy⟩
        case measure => simp [intOf]; omega
    · have t1 : decide ((k : Int) < (A.length : Int)) = false := by simp; omega
      by_cases hkB : k < B.length
      · have i0 : (0 : Int) ≤ (k : Int) := by omega
        have i2 : (k : Int) < (B.length : Int) := by omega
        have t2 : decide ((k : Int) < (B.length : Int)) = true := by simp; omega
        obtain ⟨bb, ob, xb, rfl, hxb, cb1, cb2, _, _⟩ := (HB.out.new hK).at hkB
        have Hxb := hid hxb
        clear hxb
        go_wp2_with fail
        refine (act_m hY (by simp only [AM.new]; omega) xb.1 xb.2).mono ?_; rintro e w6 ⟨rfl, Fy6, hY6, hM6⟩
        obtain ⟨hX6, hsep6⟩ := Moves.other hM6 hX hsep.symm
        obtain ⟨hK6, hFy6⟩ := Keeps.on hK hM6 hFy
        go_wp2_with fail
        go_roundw
        case rel => exact ⟨k + 1, Fx, Fy6, by omega, by go_num, by rw [acts_more _ _ _ (by omega)]; exact hX6, by rw [acts_take _ _ _ Hxb.out]; exact hY6, hsep6.symm, hK6, hFx, hFy6⟩
        case measure => simp [intOf]; omega
      · have t2 : decide ((k : Int) < (B.length : Int)) = false := by simp; omega
        have eA : A.take k = A := List.take_of_length_le (by omega)
        have eB : B.take k = B := List.take_of_length_le (by omega)
        rw [eA] at hX
        rw [eB] at hY
        clear eA eB
        go_wp2_with fail
        refine (made_any (HA.out.new hK) (by omega) N (by omega)).mono ?_; rintro e w5 ⟨p2, Fp, rfl, hP, hMp⟩
        have hX5 := hX.new hMp.1
        have hY5 := hY.new hMp.1
        have hK5 := hK.trans hMp.1
        go_wp2_with fail
        refine (made_any (HB.out.new hK5) (by omega) N (by omega)).mono ?_; rintro e w6 ⟨q2, Fq, rfl, hQ, hMq⟩
        have hX6 := hX5.new hMq.1
        have hY6 := hY5.new hMq.1
        have hP6 := hP.new hMq.1
        have hK6 := hK5.trans hMq.1
        have hn1 := (acts_n A (AM.new N)).1
        have hn2 := (acts_n B (AM.new N)).1
        simp only [AM.new] at hn1 hn2
        have hwA := AM.words_len hX.ok
        have hwB := AM.words_len hY.ok
        generalize AM.acts (AM.new N) A = mA at *
        generalize AM.acts (AM.new N) B = mB at *
        have HwA := hid hwA
        have HwB := hid hwB
        clear hwA hwB
        have b1 : ((mA.high : Int) == (mA.high : Int)) = true := by simp
        have b2 : ((mB.high : Int) == (mB.high : Int)) = true := by simp
        have b3 : ((mA.frs.length : Int) == (mA.frs.length : Int)) = true := by simp
        clear hn1 hn2
        go_wp2_with fail
        refine (words_m hX6).mono ?_; rintro e w7 ⟨_, rfl, g7, rfl, hg7, hb7, hk7⟩
        go_wp2_with fail
        refine (words_m (hP6.new hk7)).mono ?_; rintro e w8 ⟨_, rfl, g8, rfl, hg8, hb8, hk8⟩
        have s7 := Blk.sl' hb7 HwA.out.symm (by have := hX.ok.n_le; have := HwA.out; omega) mA.n (Nat.le_refl _)
        have s8 := Blk.sl' hb8 HwA.out.symm (by have := hX.ok.n_le; have := HwA.out; omega) mA.n (Nat.le_refl _)
        go_wp2_with fail
        refine (same_yes (s7.new hk8) s8).mono ?_; rintro e w9 ⟨rfl, n9, rfl⟩
        have k9 : Keeps (fun _ => False) w6 (w8.drewN n9) := (hk7.trans hk8).drewN n9
        have hX9 := hX6.new k9
        have hY9 := hY6.new k9
        have hP9 := hP6.new k9
        have hQ9 := hQ.new k9
        have hK9 := hK6.trans k9
        generalize w8.drewN n9 = w9 at *
        go_wp2_with fail
        refine (words_m hY9).mono ?_; rintro e w10 ⟨_, rfl, g10, rfl, hg10, hb10, hk10⟩
        go_wp2_with fail
        refine (words_m (hQ9.new hk10)).mono ?_; rintro e w11 ⟨_, rfl, g11, rfl, hg11, hb11, hk11⟩
        have s10 := Blk.sl' hb10 HwB.out.symm (by have := hY.ok.n_le; have := HwB.out; omega) mB.n (Nat.le_refl _)
        have s11 := Blk.sl' hb11 HwB.out.symm (by have := hY.ok.n_le; have := HwB.out; omega) mB.n (Nat.le_refl _)
        go_wp2_with fail
        refine (same_yes (s10.new hk11) s11).mono ?_; rintro e w12 ⟨rfl, n12, rfl⟩
        have k12 : Keeps (fun _ => False) w9 (w11.drewN n12) := (hk10.trans hk11).drewN n12
        have hX12 := hX9.new k12
        have hY12 := hY9.new k12
        have hP12 := hP9.new k12
        have hQ12 := hQ9.new k12
        have hK12 := hK9.trans k12
        generalize w11.drewN n12 = w12 at *
        go_wp2_with fail
        refine (high_m hX12).mono ?_; rintro e w13 ⟨rfl, rfl⟩
        go_wp2_with fail
        refine (high_m hP12).mono ?_; rintro e w13 ⟨rfl, rfl⟩
        go_wp2_with fail
        refine (high_m hY12).mono ?_; rintro e w13 ⟨rfl, rfl⟩
        go_wp2_with fail
        refine (high_m hQ12).mono ?_; rintro e w13 ⟨rfl, rfl⟩
        go_wp2_with fail
        refine (depth_m hX12).mono ?_; rintro e w13 ⟨rfl, rfl⟩
        go_wp2_with fail
        refine (depth_m hP12).mono ?_; rintro e w13 ⟨rfl, rfl⟩
        go_wp2_with fail
        refine (runs_any _).mono ?_; rintro e w14 ⟨rfl, k14⟩
        go_wp2_with fail
        go_ret
        exact ⟨rfl, hK12.trans k14⟩
end Go.Proofs.Ytjmbgfkigfbioaa
