/-
  ArenaKept, walked.
-/
import Derived.Test.YtjmbgfkigfbioaaShelf
namespace Go.Proofs.Ytjmbgfkigfbioaa
open Go.RowKit Go.Kw Go.Kreg Go.Arm

def bothC (p q : Nat) (m : AM) : Ch :=
  ⟨fun F w => ∃ F1 G1, Both w p q m F1 G1 ∧ ∀ b, F b ↔ F1 b ∨ G1 b, fun _ _ ⟨_, _, h, e⟩ b hb => ((e b).1 hb).elim (h.a.lt b) (h.r.lt b),
    fun _ _ _ _ ⟨F1, G1, h, e⟩ hk hn => ⟨F1, G1, ⟨h.a.keeps hk fun b hb => hn b ((e b).2 (.inl hb)), h.r.keeps hk fun b hb => hn b ((e b).2 (.inr hb)), h.sep⟩, e⟩⟩

section
variable {w : World} {p q : Nat} {m : AM} {F : Nat → Prop}
theorem done_S (h : (bothC p q m).holds F w) (hfew : m.frs.length < 1000000) (k n : Int) :
    Calls Try.prog 26 #[.pointer (some ⟨p, 0, none⟩), .pointer (some ⟨q, 0, none⟩), .agg #[.int .i64 k, .int .i64 n]] w fun e w' =>
      e = .returned (.bool true) ∧ St F w [bothC p q (AM.act m (k, n))] w' := by
  obtain ⟨F1, G1, h, e⟩ := h
  have hF : F = fun b => F1 b ∨ G1 b := funext fun b => propext (e b)
  subst hF
  refine (done_any h hfew k n).mono fun e w' ⟨he, F', G', hB, hk, h1, h2⟩ => ⟨he, fun b => F' b ∨ G' b, Sts.one ⟨F', G', hB, fun _ => Iff.rfl⟩, hk, ?_⟩
  rintro b (hb | hb)
  · exact (h1 b hb).imp .inl id
  · exact (h2 b hb).imp .inr id
end

theorem frame_len {m : AM} (hok : m.ok) {f : Fr} (hf : f ∈ m.frs) : f.laid.length ≤ m.n := by
  obtain ⟨i, hi⟩ := List.getElem?_of_mem hf
  have h1 := hok.laid_le f hf
  have h2 := sizes_take hi
  have h3 := sizes_take_le m.frs (i + 1)
  have h4 := hok.used_n
  unfold AM.used at h4
  omega

set_option maxRecDepth 100000 in
set_option maxHeartbeats 4000000 in
theorem kept_any (w : World) (words : Int) (hw : -9223372036854775808 ≤ words ∧ words ≤ 9223372036854775807) (v : Value) (l : List (Int × Int)) (hv : SlOp w v l) :
    Calls Try.prog 5 #[.int .i64 words, v] w fun e w' => e = .returned (.bool true) ∧ Keeps (fun _ => False) w w' := by
  have hwb := within_bd words 0 60 (by omega)
  go_enter Try.func5, Try.ntmps5
  go_wp2_with fail
  refine (within_any w words 0 60 (by omega) (by omega) (by omega) hw.1 hw.2).mono ?_; rintro e w1 ⟨rfl, rfl⟩
  obtain ⟨N, hN⟩ := Int.eq_ofNat_of_zero_le hwb.1
  rw [hN] at hwb ⊢
  clear hN hw
  go_wp2_with fail
  refine (few_any hv 60 (by omega)).mono ?_; rintro e w1 ⟨⟨v', rfl, hv'⟩, rfl⟩
  have hS := hv' _ hv
  have hL : (l.take 60).length ≤ 60 := by simp; omega
  generalize l.take 60 = L at *
  clear hv' hv
  have HSl := hid hS
  obtain ⟨ao, c, rfl, hl0, hlc, hmc, _, _⟩ := hS
  go_wp2_with fail
  refine (new_m w N (by omega)).mono ?_; rintro e w2 ⟨p, F0, rfl, hA0, hM0⟩
  go_wp2_with fail
  have hS : St (fun _ => False) w [bothC p w2.heap.size (AM.new N)] (w2.alloc (.cells #[.int .i64 N, .slice none 0 0, .slice none 0 0, .int .i64 0] TR)) := by
    refine ⟨fun b => F0 b ∨ b = w2.heap.size, Sts.one ⟨F0, fun b => b = w2.heap.size, ⟨hA0.new ((Keeps.refl (fun _ => False) w2).alloc _), RObj.start w2 N (by omega), fun b hb e => by have := hA0.lt b hb; omega⟩, fun _ => Iff.rfl⟩, hM0.1.alloc _, ?_⟩
    rintro b (hb | hb)
    · exact hM0.2 b hb
    · exact .inr (by rw [hb]; exact hM0.1.size)
  have hS := (hS.new TBk [.slice none 0 0, .slice none 0 0, .int .i64 0, .bool false]).imp 1 (bookC _ []) (fun F h => book_start h)
  simp only [Kw.red] at hS
  rw [show (w2.alloc (.cells #[.int .i64 N, .slice none 0 0, .slice none 0 0, .int .i64 0] TR)).heap.size = w2.heap.size + 1 by simp] at hS
  have hS := hid hS
  clear hM0 hA0
  generalize ((w2.alloc (.cells #[.int .i64 N, .slice none 0 0, .slice none 0 0, .int .i64 0] TR)).alloc (.cells [.slice none 0 0, .slice none 0 0, .int .i64 0, .bool false].toArray TBk)) = w3 at *
  go_loopw [9] (fun i wr => ∃ (k : Nat) (es : List Ent), k ≤ L.length ∧ i = .int .i64 k ∧ es.length = 2 * k ∧ held es ≤ 122 * k ∧ numsOk es ∧ St (fun _ => False) w [bothC p w2.heap.size (AM.acts (AM.new N) (L.take k)), bookC (w2.heap.size + 1) es] wr) (fun i _ => L.length - (intOf i).toNat)
  case atStart => exact ⟨0, [], Nat.zero_le _, rfl, rfl, Nat.le_refl _, by simp [numsOk], hS.out⟩
  case round =>
    clear hS
    obtain ⟨k, es, hk, rfl, hes, hhd, hok, hS⟩ := hrel
    have hfew := (acts_n (L.take k) (AM.new N)).2
    have hnn := (acts_n (L.take k) (AM.new N)).1
    simp only [AM.new, List.length_nil, List.length_take] at hfew
    have Hnn := hid hnn
    clear hnn
    have hK := hS.keeps
    by_cases hlt : k < L.length
    · obtain ⟨b, o, x, rfl, hx, x1, x2, _, _⟩ := (HSl.out.new hK).at hlt
      have Hx := hid hx
      clear hx
      have i0 : (0 : Int) ≤ (k : Int) := by omega
      have i1 : (k : Int) < (L.length : Int) := by omega
      have b3 : decide ((k : Int) < (L.length : Int)) = true := by simp; omega
      have HS := hid hS
      clear hS hK
      go_wp2_with fail
      obtain ⟨F1, h1, _, back⟩ := HS.out.at 0 rfl
      refine (done_S h1 (by simp only [AM.new]; omega) x.1 x.2).mono ?_; rintro e w4 ⟨rfl, hS1⟩
      have hS := back hS1
      rw [show (x.1, x.2) = x from rfl, ← acts_take _ _ _ Hx.out] at hS
      have Hnn' := hid (show (AM.acts (AM.new N) (L.take (k + 1))).n = N from (acts_n (L.take (k + 1)) (AM.new N)).1)
      have hfew' : (AM.acts (AM.new N) (L.take (k + 1))).frs.length ≤ 60 := by
        have h1 := (acts_n (L.take (k + 1)) (AM.new N)).2
        have h2 : (AM.new N).frs.length = 0 := rfl
        rw [List.length_take] at h1
        omega
      generalize hM : AM.acts (AM.new N) (L.take (k + 1)) = M at *
      have HM := hid hM
      clear hM
      simp only [Kw.red] at hS
      have HS1 := hid hS
      clear HS h1 back hS1 hS x1 x2
      go_wp2_with fail
      obtain ⟨F2, ⟨F3, G3, hB, _⟩, _⟩ := HS1.out.at 0 rfl
      refine (words_m hB.a).mono ?_; rintro e w5 ⟨_, rfl, g5, rfl, hg5, hb5, hk5⟩
      have hwl := AM.words_len hB.a.ok
      have hMn : M.n ≤ 60 := by have := Hnn'.out; omega
      have hS5 := HS1.out.add hk5 (G := fun b => b = g5) (c := .lst TI 1 (some g5) M.n (ints M.words)) ⟨⟨by rw [ints_len, hwl]; omega, hb5⟩, fun b => by simp [eq_comm]⟩ (fun b hb => by rw [hb]; exact hg5)
      simp only [Kw.red] at hS5
      have HS5 := hid hS5
      clear HS1 hB hS5 hb5 hk5 hg5 hwl
      go_wp2_with fail
      obtain ⟨F6, h6, _, _, back⟩ := HS5.out.sel [1, 2]
      simp only [Kw.red] at h6
      refine (keep_any (blk := some g5) (n := M.n) h6 (by intro u hu; simp only [ints, List.mem_map] at hu; obtain ⟨_, _, rfl⟩ := hu; rfl) (by omega) (by omega) (by omega)).mono ?_; rintro e w6 ⟨rfl, was, hS6⟩
      have hS6 := back hS6
      simp only [Kw.red] at hS6
      have HS6 := hid hS6
      clear HS5 h6 back hS6
      go_wp2_with fail
      obtain ⟨F7, ⟨F8, G8, hB, _⟩, _⟩ := HS6.out.at 0 rfl
      refine (depth_m hB.a).mono ?_; rintro e w7 ⟨rfl, rfl⟩
      have HB := hid hB
      clear hB
      have hfr : (∃ f, f.laid.length ≤ 60 ∧ AM.frame M ((M.frs.length : Int) - 1) = some f) ∨ AM.frame M ((M.frs.length : Int) - 1) = none := by
        cases hf : AM.frame M ((M.frs.length : Int) - 1) with
        | none => exact .inr rfl
        | some f =>
          refine .inl ⟨f, ?_, rfl⟩
          unfold AM.frame at hf
          split at hf
          · cases hf
          · have := frame_len HB.out.a.ok (List.mem_of_getElem? hf); omega
      have fin : ∀ (es' : List Ent) (wb : World), es'.length = 2 * (k + 1) → held es' ≤ 122 * (k + 1) → numsOk es' → St (fun _ => False) w [bothC p w2.heap.size M, bookC (w2.heap.size + 1) es'] wb → ∃ es', es'.length = 2 * (k + 1) ∧ held es' ≤ 122 * (k + 1) ∧ numsOk es' ∧ St (fun _ => False) w [bothC p w2.heap.size M, bookC (w2.heap.size + 1) es'] wb := fun es' wb h1 h2 h3 h4 => ⟨es', h1, h2, h3, h4⟩
      have Fin := hid fin
      clear fin
      rcases hfr with ⟨f, hfl, hf⟩ | hf
      case' inl =>
        have Hf := hid hf
        clear hf
        go_wp2_with fail
        refine (frame_some HB.out.a Hf.out).mono ?_; rintro e w8 ⟨_, rfl, g8, rfl, hg8, hb8, hk8⟩
        have HS8 := hid (HS6.out.add hk8 (G := fun b => b = g8) (c := .lst TI 1 (some g8) f.laid.length (ints f.laid)) ⟨⟨by rw [ints_len]; omega, hb8⟩, fun b => by simp [eq_comm]⟩ (fun b hb => by rw [hb]; exact hg8))
        clear HS6 HB hb8 hk8 hg8
        go_wp2_with fail
        obtain ⟨F9, h9, _, _, back⟩ := HS8.out.sel [1, 3]
        simp only [Kw.red] at h9
        refine (keep_any (blk := some g8) (n := f.laid.length) h9 (by intro u hu; simp only [ints, List.mem_map] at hu; obtain ⟨_, _, rfl⟩ := hu; rfl) (by omega) (by simp; omega) (by rw [held_app]; simp only; omega)).mono ?_; rintro e w9 ⟨rfl, was2, hS9⟩
        have hS9 := (back hS9).sub [0, 1]
        simp only [Kw.red] at hS9
        obtain ⟨es', q1, q2, q3, q4⟩ := Fin.out _ _ (by simp; omega) (by rw [held_app, held_app]; simp only; omega) ((hok.app (by simp only; omega) _ rfl).app (by simp only; omega) _ rfl) hS9
        have HS9 := hid q4
        clear hS9 HS8 h9 back q4 Hf hfl
      case' inr =>
        have Hf := hid hf
        clear hf
        go_wp2_with fail
        refine (frame_none HB.out.a Hf.out).mono ?_; rintro e w8 ⟨rfl, n8, rfl⟩
        have HS8 := hid ((HS6.out.drewN n8).add (Keeps.refl _ _) (G := fun _ => False) (c := .lst TI 1 none 0 []) ⟨⟨rfl, rfl⟩, fun b => by simp⟩ (fun b hb => hb.elim))
        clear HS6 HB
        go_wp2_with fail
        obtain ⟨F9, h9, _, _, back⟩ := HS8.out.sel [1, 3]
        simp only [Kw.red] at h9
        refine (keep_any (blk := none) (n := 0) h9 (by intro u hu; cases hu) (by omega) (by simp; omega) (by rw [held_app]; simp only; omega)).mono ?_; rintro e w9 ⟨rfl, was2, hS9⟩
        have hS9 := (back hS9).sub [0, 1]
        simp only [Kw.red] at hS9
        obtain ⟨es', q1, q2, q3, q4⟩ := Fin.out _ _ (by simp; omega) (by rw [held_app, held_app]; simp only; omega) ((hok.app (by simp only; omega) _ rfl).app (by simp only; omega) [] rfl) hS9
        have HS9 := hid q4
        clear hS9 HS8 h9 back q4 Hf
      all_goals
        go_wp2_with fail
        obtain ⟨F10, ⟨F11, G11, hB, _⟩, _⟩ := HS9.out.at 0 rfl
        refine (words_m hB.a).mono ?_; rintro e w10 ⟨_, rfl, g10, rfl, hg10, hb10, hk10⟩
        have hwl := AM.words_len hB.a.ok
        have hS10 := HS9.out.add hk10 (G := fun b => b = g10) (c := .lst TI 1 (some g10) M.n (ints M.words)) ⟨⟨by rw [ints_len, hwl]; omega, hb10⟩, fun b => by simp [eq_comm]⟩ (fun b hb => by rw [hb]; exact hg10)
        simp only [Kw.red] at hS10
        have HS10 := hid hS10
        clear HS9 hB hS10 hb10 hk10 hg10 hwl
        go_wp2_with fail
        go_loopw [13] (fun i wr => ∃ (j : Nat) (xs : List Value), j ≤ M.n ∧ i = .int .i64 j ∧ St (fun _ => False) w [bothC p w2.heap.size M, bookC (w2.heap.size + 1) es', .lst TI 1 (some g10) M.n xs] wr) (fun i _ => M.n - (intOf i).toNat)
        case atStart => exact ⟨0, _, Nat.zero_le _, rfl, HS10.out⟩
        case round =>
          clear HS10
          obtain ⟨j, xs, hj, rfl, hS⟩ := hrel
          have HS := hid hS
          by_cases hjl : j < M.n
          · have b2 : decide ((j : Int) < (M.n : Int)) = true := by simp; omega
            have hl := hS.lst 2
            have hxl := hl.1
            have d0 : wr.cell? ⟨g10, j, none⟩ = some (xs.getD j undef) := hl.2.at (by simp [List.getD_eq_getElem?_getD, List.getElem?_eq_getElem (show j < xs.length by omega)])
            have dz : ∀ o, wr.frozen? ⟨g10, o, none⟩ = false := hl.2.fz
            have Hset := hid (hS.setLst 2 j (.int .i64 (-7)))
            have i2 : (0 : Int) ≤ (j : Int) := by omega
            have i3 : (j : Int) < (M.n : Int) := by omega
            clear hS hl hxl
            go_wp2_with fail
            go_roundw
            case rel => exact ⟨j + 1, _, by omega, by go_num, Hset.out⟩
            case measure => simp [intOf]; omega
          · have b2 : decide ((j : Int) < (M.n : Int)) = false := by simp; omega
            clear hS
            go_wp2_with fail
            go_roundw
            case rel => exact ⟨k + 1, es', by omega, by go_num, q1, q2, q3, by rw [HM.out]; exact HS.out.sub [0, 1]⟩
            case measure => simp [intOf]; omega
    · have b3 : decide ((k : Int) < (L.length : Int)) = false := by simp; omega
      have HS := hid hS
      clear hS hK
      go_wp2_with fail
      obtain ⟨F1, h1, _, _, back⟩ := HS.out.sel [1]
      simp only [Kw.red] at h1
      refine (apart_any h1 (by omega) hok).mono ?_; rintro e w4 ⟨rfl, hS1⟩
      have hS1 := back hS1
      simp only [Kw.red] at hS1
      have HS1 := hid hS1
      clear HS h1 back hS1
      go_wp2_with fail
      obtain ⟨F2, ⟨F3, G3, hB, _⟩, _⟩ := HS1.out.at 0 rfl
      have HB := hid hB
      clear hB
      refine (words_m HB.out.a).mono ?_; rintro e w7 ⟨_, rfl, g7, rfl, hg7, hb7, hk7⟩
      go_wp2_with fail
      refine (rwords_m (HB.out.r.new hk7)).mono ?_; rintro e w8 ⟨_, rfl, g8, rfl, hg8, hb8, hk8⟩
      have hwl := AM.words_len HB.out.a.ok
      have hMn : (AM.acts (AM.new N) (L.take k)).n ≤ 60 := by have := Hnn.out; simp only [AM.new] at this ⊢; omega
      have s7 := hid (Blk.sl' (hk8.blk hb7 id) hwl.symm (by omega) _ (Nat.le_refl _))
      have s8 := hid (Blk.sl' hb8 hwl.symm (by omega) _ (Nat.le_refl _))
      have K8 := hid ((HS1.out.keeps.trans hk7).trans hk8)
      clear hwl hMn hb7 hk7 hg7 hb8 hk8 hg8
      go_wp2_with fail
      refine (same_yes s7.out s8.out).mono ?_; rintro e w9 ⟨rfl, n9, rfl⟩
      go_wp2_with fail
      refine (runs_any _).mono ?_; rintro e w10 ⟨rfl, hk10⟩
      go_wp2_with fail
      go_ret
      exact ⟨rfl, (K8.out.drewN n9).trans hk10⟩
end Go.Proofs.Ytjmbgfkigfbioaa
