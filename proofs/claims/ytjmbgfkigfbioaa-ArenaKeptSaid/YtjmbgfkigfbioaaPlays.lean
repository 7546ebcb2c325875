/-
  ArenaPlays, walked.
-/
import Derived.Test.YtjmbgfkigfbioaaRefc
import Derived.Test.YtjmbgfkigfbioaaTwo
namespace Go.Proofs.Ytjmbgfkigfbioaa
open Go.RowKit Go.Kw Go.Kreg Go.Arm

section
variable {w : World} {q p : Nat} {m : AM} {F G : Nat → Prop}
theorem RObj.ok (h : RObj w q m G) : m.ok := by obtain ⟨_, _, _, h, _⟩ := h; exact h.ok
theorem RObj.lt (h : RObj w q m G) : ∀ b, G b → b < w.heap.size := by obtain ⟨_, _, _, h, rfl⟩ := h; exact h.lt
theorem RObj.keeps {w' : World} {H : Nat → Prop} (h : RObj w q m G) (hk : Keeps H w w') (hs : ∀ b, G b → ¬ H b) : RObj w' q m G := by
  obtain ⟨sv, lv, vals, h, rfl⟩ := h; exact ⟨sv, lv, vals, h.keeps hk hs, rfl⟩
theorem RObj.new {w' : World} (h : RObj w q m G) (hk : Keeps (fun _ => False) w w') : RObj w' q m G := h.keeps hk fun _ _ => id
theorem RObj.drewN (h : RObj w q m G) (n : Nat) : RObj (w.drewN n) q m G := h.new ((Keeps.refl (fun _ => False) w).drewN n)

theorem ropen_m (h : RObj w q m G) (hfew : m.frs.length < 1000000) (s : Int) :
    Calls Try.prog 35 #[.pointer (some ⟨q, 0, none⟩), .int .i64 s] w fun e w' => e = .returned (.int .i64 (m.opens s).1) ∧ ∃ G', RObj w' q (m.opens s).2 G' ∧ Moves G G' w w' := by
  obtain ⟨sv, lv, vals, h, rfl⟩ := h
  by_cases h1 : s < 0
  · have e1 : m.opens s = (1, m) := by unfold AM.opens; rw [if_pos h1]
    rw [e1]; exact ropen_neg h s h1
  · by_cases h2 : (m.n : Int) - m.used < s
    · have e1 : m.opens s = (11, m) := by unfold AM.opens; rw [if_neg h1, if_pos h2]
      rw [e1]; exact ropen_full h s (by omega) h2
    · obtain ⟨k, rfl⟩ := Int.eq_ofNat_of_zero_le (show 0 ≤ s by omega)
      have hk : m.used + k ≤ m.n := by omega
      rw [open_few hk]
      exact ropen_yes h k hk hfew
theorem rclose_m (h : RObj w q m G) :
    Calls Try.prog 36 #[.pointer (some ⟨q, 0, none⟩)] w fun e w' => e = .returned (.int .i64 m.closes.1) ∧ ∃ G', RObj w' q m.closes.2 G' ∧ Moves G G' w w' := by
  obtain ⟨sv, lv, vals, h, rfl⟩ := h; exact rclose_any h
theorem rpush_m (h : RObj w q m G) (y : Int) :
    Calls Try.prog 37 #[.pointer (some ⟨q, 0, none⟩), .int .i64 y] w fun e w' => e = .returned (.int .i64 (m.push y).1) ∧ ∃ G', RObj w' q (m.push y).2 G' ∧ Moves G G' w w' := by
  obtain ⟨sv, lv, vals, h, rfl⟩ := h; exact rpush_any h y
theorem rpop_m (h : RObj w q m G) :
    Calls Try.prog 38 #[.pointer (some ⟨q, 0, none⟩)] w fun e w' => e = .returned (.tuple #[.int .i64 m.pop.1, .int .i64 m.pop.2.1]) ∧ ∃ G', RObj w' q m.pop.2.2 G' ∧ Moves G G' w w' := by
  obtain ⟨sv, lv, vals, h, rfl⟩ := h; exact rpop_any h
theorem rhead_m (h : RObj w q m G) :
    Calls Try.prog 40 #[.pointer (some ⟨q, 0, none⟩)] w fun e w' => e = .returned (.tuple #[.int .i64 m.top.1, .bool m.top.2]) ∧ ∃ n, w' = w.drewN n := by
  obtain ⟨sv, lv, vals, h, rfl⟩ := h; exact rhead_any h
theorem rused_m (h : RObj w q m G) :
    Calls Try.prog 41 #[.pointer (some ⟨q, 0, none⟩)] w fun e w' => e = .returned (.int .i64 m.used) ∧ w = w' := by
  obtain ⟨sv, lv, vals, h, rfl⟩ := h; exact rused_any h
theorem rwords_m (h : RObj w q m G) :
    Calls Try.prog 30 #[.pointer (some ⟨q, 0, none⟩)] w fun e w' => ∃ v, e = .returned v ∧ Fresh w w' TI v m.n (ints m.words) := by
  obtain ⟨sv, lv, vals, h, rfl⟩ := h; exact rwords_any h

/-- Two arenas, the program's and the reference's, that hold the same. -/
structure Both (w : World) (p q : Nat) (m : AM) (F G : Nat → Prop) : Prop where
  a : AObj w p m F
  r : RObj w q m G
  sep : Sep F G
theorem Both.new {w' : World} (h : Both w p q m F G) (hk : Keeps (fun _ => False) w w') : Both w' p q m F G := ⟨h.a.new hk, h.r.new hk, h.sep⟩
/-- What a call on both does. -/
theorem Both.step {w1 w2 : World} {m' : AM} {F' G' : Nat → Prop} (h : Both w p q m F G) (ha : AObj w1 p m' F') (hm : Moves F F' w w1) (hr : RObj w2 q m' G') (hm2 : Moves G G' w1 w2) :
    Both w2 p q m' F' G' ∧ Keeps (fun b => F b ∨ G b) w w2 ∧ (∀ b, F' b → F b ∨ w.heap.size ≤ b) ∧ (∀ b, G' b → G b ∨ w.heap.size ≤ b) := by
  have hs1 : Sep F' G := hm.sep h.sep h.r.lt
  have hs2 : Sep G' F' := hm2.sep hs1.symm ha.lt
  refine ⟨⟨ha.keeps hm2.1 hs1, hr, hs2.symm⟩, (hm.1.mono fun b h => .inl h).trans (hm2.1.mono fun b h => .inr h), hm.2, fun b hb => ?_⟩
  rcases hm2.2 b hb with h | h
  · exact .inl h
  · exact .inr (Nat.le_trans hm.1.size h)

set_option maxRecDepth 100000 in
set_option maxHeartbeats 2000000 in
theorem done_any (h : Both w p q m F G) (hfew : m.frs.length < 1000000) (k n : Int) :
    Calls Try.prog 26 #[.pointer (some ⟨p, 0, none⟩), .pointer (some ⟨q, 0, none⟩), .agg #[.int .i64 k, .int .i64 n]] w fun e w' =>
      e = .returned (.bool true) ∧ ∃ F' G', Both w' p q (AM.act m (k, n)) F' G' ∧ Keeps (fun b => F b ∨ G b) w w' ∧ (∀ b, F' b → F b ∨ w.heap.size ≤ b) ∧ (∀ b, G' b → G b ∨ w.heap.size ≤ b) := by
  have k0 : Keeps (fun _ => False) w (w.alloc (.cells #[.int .i64 k, .int .i64 n] TOp)) := (Keeps.refl (fun _ => False) w).alloc _
  have h0 := h.new k0
  have hB : Blk (w.alloc (.cells #[.int .i64 k, .int .i64 n] TOp)) w.heap.size TOp [.int .i64 k, .int .i64 n] := Blk.new _ _ _
  have hF : ¬ F w.heap.size := fun hf => by have := h.a.lt _ hf; omega
  have hG : ¬ G w.heap.size := fun hf => by have := h.r.lt _ hf; omega
  have fin : ∀ (wb w2 : World) (m' : AM) (F' G' : Nat → Prop), Keeps (fun _ => False) w wb → (Both w2 p q m' F' G' ∧ Keeps (fun b => F b ∨ G b) wb w2 ∧ (∀ b, F' b → F b ∨ wb.heap.size ≤ b) ∧ (∀ b, G' b → G b ∨ wb.heap.size ≤ b)) →
      ∃ F' G', Both w2 p q m' F' G' ∧ Keeps (fun b => F b ∨ G b) w w2 ∧ (∀ b, F' b → F b ∨ w.heap.size ≤ b) ∧ (∀ b, G' b → G b ∨ w.heap.size ≤ b) := fun wb w2 m' F' G' k0 ⟨h1, h2, h3, h4⟩ =>
    ⟨F', G', h1, (k0.mono fun _ h => h.elim).trans h2, fun b hb => (h3 b hb).imp id (fun h => Nat.le_trans k0.size h), fun b hb => (h4 b hb).imp id (fun h => Nat.le_trans k0.size h)⟩
  have Fin := hid fin
  have K0 := hid k0
  clear fin h
  by_cases e0 : k = 0
  · subst e0
    have he : AM.act m (0, n) = (m.opens n).2 := by simp [AM.act]
    rw [he]
    have b1 : ((m.opens n).1 == (m.opens n).1) = true := by simp
    clear he
    have h1 := h0.new (Keeps.refl (fun _ => False) _).drew
    clear h0
    go_enter Try.func26, Try.ntmps26
    go_wp2_with fail
    refine wp_region_mix [true, true, true, false, true, true, true, false, false, false] 1 (F) (by kernel_rfl) (by decide +kernel) ?_
    simp only [front, back, List.take_succ_cons, List.take_zero, List.drop_succ_cons, List.drop_zero]
    repeat ((first | refine wpFront_load rfl ?_ | refine wpFront_other rfl ?_); (first | go_big_quiet_step (fail) | quiet_step (fail)); refine wpQuiet_nil ?_)
    refine wpFront_nil ?_
    simp only [wpSegs]
    go_wp2_with fail
    refine (open_m h1.a hfew n).mono ?_; rintro e w1 ⟨rfl, F1, hA1, hM1⟩
    go_wp2_with fail
    refine segQ_normal (((Keeps.refl F _).drew).trans hM1.1) ?_
    go_wp2_with fail
    refine (ropen_m (h1.r.keeps hM1.1 h1.sep.symm) hfew n).mono ?_; rintro e w2 ⟨rfl, G1, hR2, hM2⟩
    go_wp2_with fail
    refine NoPanic.normal ?_
    go_wp2_with fail
    go_ret
    exact ⟨rfl, Fin.out _ _ _ _ _ K0.out.drew (h1.step hA1 hM1 hR2 hM2)⟩
  · by_cases e1 : k = 1
    · subst e1
      have he : AM.act m (1, n) = m.closes.2 := by simp [AM.act]
      rw [he]
      have b1 : (m.closes.1 == m.closes.1) = true := by simp
      clear he e0
      go_enter Try.func26, Try.ntmps26
      go_wp2_with fail
      refine (close_m h0.a).mono ?_; rintro e w1 ⟨rfl, F1, hA1, hM1⟩
      go_wp2_with fail
      refine (rclose_m (h0.r.keeps hM1.1 h0.sep.symm)).mono ?_; rintro e w2 ⟨rfl, G1, hR2, hM2⟩
      go_wp2_with fail
      go_ret
      exact ⟨rfl, Fin.out _ _ _ _ _ K0.out (h0.step hA1 hM1 hR2 hM2)⟩
    · by_cases e2 : k = 2
      · subst e2
        have he : AM.act m (2, n) = (m.push n).2 := by simp [AM.act]
        rw [he]
        have b1 : ((m.push n).1 == (m.push n).1) = true := by simp
        clear he e0 e1
        have h1 := h0.new (Keeps.refl (fun _ => False) _).drew
        clear h0
        go_enter Try.func26, Try.ntmps26
        go_wp2_with fail
        refine wp_region_mix [true, true, true, false, true, true, true, false, false, false] 1 (F) (by kernel_rfl) (by decide +kernel) ?_
        simp only [front, back, List.take_succ_cons, List.take_zero, List.drop_succ_cons, List.drop_zero]
        repeat ((first | refine wpFront_load rfl ?_ | refine wpFront_other rfl ?_); (first | go_big_quiet_step (fail) | quiet_step (fail)); refine wpQuiet_nil ?_)
        refine wpFront_nil ?_
        simp only [wpSegs]
        go_wp2_with fail
        refine (push_m h1.a n).mono ?_; rintro e w1 ⟨rfl, F1, hA1, hM1⟩
        go_wp2_with fail
        refine segQ_normal (((Keeps.refl F _).drew).trans hM1.1) ?_
        go_wp2_with fail
        refine (rpush_m (h1.r.keeps hM1.1 h1.sep.symm) n).mono ?_; rintro e w2 ⟨rfl, G1, hR2, hM2⟩
        go_wp2_with fail
        refine NoPanic.normal ?_
        go_wp2_with fail
        go_ret
        exact ⟨rfl, Fin.out _ _ _ _ _ K0.out.drew (h1.step hA1 hM1 hR2 hM2)⟩
      · by_cases e3 : k = 3
        · subst e3
          have he : AM.act m (3, n) = m.pop.2.2 := by simp [AM.act]
          rw [he]
          have b1 : (m.pop.1 == m.pop.1) = true := by simp
          have b2 : (m.pop.2.1 == m.pop.2.1) = true := by simp
          clear he e0 e1 e2
          go_enter Try.func26, Try.ntmps26
          go_wp2_with fail
          refine (pop_m h0.a).mono ?_; rintro e w1 ⟨rfl, F1, hA1, hM1⟩
          go_wp2_with fail
          refine (rpop_m (h0.r.keeps hM1.1 h0.sep.symm)).mono ?_; rintro e w2 ⟨rfl, G1, hR2, hM2⟩
          go_wp2_with fail
          go_ret
          exact ⟨rfl, Fin.out _ _ _ _ _ K0.out (h0.step hA1 hM1 hR2 hM2)⟩
        · have he : AM.act m (k, n) = m := by simp [AM.act, e0, e1, e2, e3]
          rw [he]
          have b0 : (k == 0) = false := by simpa using e0
          have b1 : (k == 1) = false := by simpa using e1
          have b2 : (k == 2) = false := by simpa using e2
          have b3 : (k == 3) = false := by simpa using e3
          clear e0 e1 e2 e3 he
          go_enter Try.func26, Try.ntmps26
          go_wp2_with fail
          go_ret
          exact ⟨rfl, Fin.out _ _ _ _ _ K0.out ⟨h0, Keeps.refl _ _, fun _ h => .inl h, fun _ h => .inl h⟩⟩

theorem Vec.sl {n : Nat} {v : Value} {xs : List Int} (h : Vec w TI 1 v n (ints xs)) (hl : xs.length ≤ 140737488351232) : SlI w v xs := by
  have hn : xs.length = n := by have := h.1; rw [ints_len] at this; omega
  subst hn
  rcases h.2 with ⟨rfl, h0⟩ | ⟨g, cap, cur, rfl, _, hc, _⟩
  · have : xs = [] := List.eq_nil_of_length_eq_zero h0
    subst this; exact SlI.nil w
  · exact ⟨_, cap, rfl, hl, hc, fun j y hj => ⟨g, 0, rfl, by rw [Nat.zero_add]; exact h.cells' rfl (by simp [ints, hj])⟩⟩

set_option maxRecDepth 100000 in
set_option maxHeartbeats 2000000 in
theorem shows_any (h : Both w p q m F G) (i : Int) (all : Bool) :
    Calls Try.prog 33 #[.pointer (some ⟨p, 0, none⟩), .pointer (some ⟨q, 0, none⟩), .int .i64 i, .bool all] w fun e w' => e = .returned (.bool true) ∧ Keeps (fun _ => False) w w' := by
  have t1 : (m.top.1 != m.top.1) = false := by simp
  have t2 : (m.top.2 != m.top.2) = false := by simp
  have t3 : ((m.frs.length : Int) != (m.frs.length : Int)) = false := by simp
  have t4 : ((m.used : Int) != (m.used : Int)) = false := by simp
  have t5 : ((m.high : Int) != (m.high : Int)) = false := by simp
  have t6 : ((m.n : Int) - (m.used : Int) != (m.n : Int) - (m.used : Int)) = false := by simp
  have hn := h.a.ok.n_le
  have hu := h.a.ok.used_n
  have hlen : m.frs.length ≤ 1000000 := by obtain ⟨_, _, _, hr, _⟩ := h.r; exact hr.few
  have H := hid h
  clear h
  go_enter Try.func33, Try.ntmps33
  go_wp2_with fail
  refine (top_m H.out.a).mono ?_; rintro e w1 ⟨rfl, n1, rfl⟩
  go_wp2_with fail
  refine (rhead_m (H.out.r.drewN _)).mono ?_; rintro e w2 ⟨rfl, n2, rfl⟩
  have K0 := hid (((Keeps.refl (fun _ => False) w).drewN n1).drewN n2)
  have H2 := hid (H.out.new K0.out)
  obtain ⟨sv, lv, vals, hr, _⟩ := H2.out.r
  have HR := hid hr
  obtain ⟨c0, c1, c2, c3, fz⟩ := hr.cells
  obtain ⟨sa, sc, rfl, _⟩ := hr.sz.shape
  clear hr
  generalize (w.drewN n1).drewN n2 = w2 at *
  go_wp2_with fail
  go_quiet (first
    | exact (depth_m (by exact H2.out.a.drewN _)).mono fun e w' h => ⟨h.1, _, h.2.symm⟩
    | exact (used_m (by exact H2.out.a.drewN _)).mono fun e w' h => ⟨h.1, _, h.2.symm⟩
    | exact (rused_m (by exact H2.out.r.drewN _)).mono fun e w' h => ⟨h.1, _, h.2.symm⟩
    | exact (high_m (by exact H2.out.a.drewN _)).mono fun e w' h => ⟨h.1, _, h.2.symm⟩
    | exact (room_m (by exact H2.out.a.drewN _)).mono fun e w' h => ⟨h.1, by obtain ⟨n', e⟩ := h.2; rw [e]; exact dn2 _ _ _⟩)
  have K3 := hid (K0.out.drewN nq)
  have H3 := hid (H2.out.new ((Keeps.refl (fun _ => False) w2).drewN nq))
  have HR3 := hid (HR.out.drewN nq)
  clear K0 H2 HR
  generalize w2.drewN nq = w3 at *
  have hcase : (AM.frame m i = none ∧ i < 0) ∨ (AM.frame m i = none ∧ 0 ≤ i ∧ (m.frs.length : Int) ≤ i) ∨ ∃ (k : Nat) (f : Fr), i = (k : Int) ∧ m.frs[k]? = some f := by
    unfold AM.frame
    by_cases h1 : i < 0
    · exact .inl ⟨if_pos h1, h1⟩
    · obtain ⟨k, rfl⟩ := Int.eq_ofNat_of_zero_le (show 0 ≤ i by omega)
      by_cases h2 : k < m.frs.length
      · exact .inr (.inr ⟨k, m.frs[k], rfl, List.getElem?_eq_getElem h2⟩)
      · exact .inr (.inl ⟨by rw [if_neg h1]; simp; omega, by omega, by omega⟩)
  rcases hcase with ⟨hfr, hi⟩ | ⟨hfr, hi0, hi⟩ | ⟨k, f, rfl, hf⟩
  case' inr.inr =>
    have hkl : k < m.frs.length := (List.getElem?_eq_some_iff.1 hf).1
    have hfr : AM.frame m (k : Int) = some f := by unfold AM.frame; rw [if_neg (by omega)]; simpa using hf
    have Hfr := hid hfr
    have Hf := hid hf
    clear hfr hf
    go_wp2_with fail
    refine (size_some H3.out.a Hfr.out).mono ?_; rintro e w4 ⟨rfl, n4, rfl⟩
    go_wp2_with fail
    refine (frame_some (H3.out.a.drewN _) Hfr.out).mono ?_; rintro e w5 ⟨_, rfl, g5, rfl, hg5, hb5, hk5⟩
    have k5 : Keeps (fun _ => False) w3 w5 := Keeps.of_drewN n4 hk5
    have K5 := hid (K3.out.trans k5)
    have H5 := hid (H3.out.new k5)
    have hr5 := HR3.out.keeps k5 fun _ _ => id
    have hll : f.laid.length ≤ 65536 := by
      have h1 := H3.out.a.ok.laid_le f (List.mem_of_getElem? Hf.out)
      have h2 := sizes_take Hf.out
      have h3 := sizes_take_le m.frs (k + 1)
      unfold AM.used at hu
      omega
    clear c0 c1 c2 c3 fz
    obtain ⟨c0, c1, c2, c3, fz⟩ := hr5.cells
    obtain ⟨g, gc, e, _, _⟩ := hr5.sz.form (by omega)
    simp only [Value.slice.injEq, true_and] at e
    obtain ⟨rfl, rfl⟩ := e
    obtain ⟨l, llc, rfl, _, _⟩ := hr5.la.form (by omega)
    obtain ⟨v, hv1, hv2, _⟩ := hr5.rows k f Hf.out
    have d1 := hr5.sz.cells' (g := g) rfl (szs_at Hf.out)
    have d2 := hr5.la.cells' (g := l) rfl hv1
    have s1 := hid (Blk.sl' hb5 rfl (by omega) f.laid.length (Nat.le_refl _))
    have s2 := hid (Vec.sl hv2 (by omega))
    have i0 : (0 : Int) ≤ (k : Int) := by omega
    have i1 : (k : Int) < (m.frs.length : Int) := by omega
    have j1 : decide ((k : Int) < (m.frs.length : Int)) = true := by simp; omega
    have j2 : ((f.size : Int) != (f.size : Int)) = false := by simp
    clear hr5 hv1 hv2 hb5 hk5 k5 hg5
    go_wp2_with fail
    refine (same_yes s1.out s2.out).mono ?_; rintro e w6 ⟨rfl, n6, rfl⟩
    have K6 := hid (K5.out.drewN n6)
    have H6 := hid (H5.out.new ((Keeps.refl (fun _ => False) w5).drewN n6))
    clear c0 c1 c2 c3 fz d1 d2
    generalize w5.drewN n6 = w6 at *
  case' inl =>
    have Hfr := hid hfr
    clear hfr
    go_wp2_with fail
    refine (size_none H3.out.a Hfr.out).mono ?_; rintro e w4 ⟨rfl, n4, rfl⟩
    go_wp2_with fail
    refine (frame_none (H3.out.a.drewN _) Hfr.out).mono ?_; rintro e w5 ⟨rfl, n5, rfl⟩
    have j1 : decide (0 ≤ i) = false := by simp; omega
    have K6 := hid ((K3.out.drewN n4).drewN n5)
    have H6 := hid (H3.out.new (((Keeps.refl (fun _ => False) w3).drewN n4).drewN n5))
    clear c0 c1 c2 c3 fz
    generalize (w3.drewN n4).drewN n5 = w6 at *
  case' inr.inl =>
    have Hfr := hid hfr
    clear hfr
    go_wp2_with fail
    refine (size_none H3.out.a Hfr.out).mono ?_; rintro e w4 ⟨rfl, n4, rfl⟩
    go_wp2_with fail
    refine (frame_none (H3.out.a.drewN _) Hfr.out).mono ?_; rintro e w5 ⟨rfl, n5, rfl⟩
    have j1 : decide (0 ≤ i) = true := by simp; omega
    have j2 : decide (i < (m.frs.length : Int)) = false := by simp; omega
    have K6 := hid ((K3.out.drewN n4).drewN n5)
    have H6 := hid (H3.out.new (((Keeps.refl (fun _ => False) w3).drewN n4).drewN n5))
    have c1' := ((HR3.out.drewN n4).drewN n5).cells.2.1
    clear c0 c1 c2 c3 fz
    generalize (w3.drewN n4).drewN n5 = w6 at *
  all_goals
    cases all
    · go_wp2_with fail
      go_ret
      exact ⟨rfl, K6.out⟩
    · go_wp2_with fail
      refine (words_m H6.out.a).mono ?_; rintro e w7 ⟨_, rfl, g7, rfl, hg7, hb7, hk7⟩
      go_wp2_with fail
      refine (rwords_m (H6.out.r.new hk7)).mono ?_; rintro e w8 ⟨_, rfl, g8, rfl, hg8, hb8, hk8⟩
      have hwl := AM.words_len H6.out.a.ok
      have s7 := Blk.sl' hb7 hwl.symm (by omega) m.n (Nat.le_refl _)
      have s8 := Blk.sl' hb8 hwl.symm (by omega) m.n (Nat.le_refl _)
      clear hwl
      go_wp2_with fail
      refine (same_yes (s7.new hk8) s8).mono ?_; rintro e w9 ⟨rfl, n9, rfl⟩
      go_wp2_with fail
      go_ret
      exact ⟨rfl, (K6.out.trans (hk7.trans hk8)).drewN _⟩
end

theorem RObj.start (w : World) (n : Nat) (hn : n ≤ 65536) : RObj (w.alloc (.cells #[.int .i64 n, .slice none 0 0, .slice none 0 0, .int .i64 0] TR)) w.heap.size (AM.new n) (fun b => b = w.heap.size) := by
  refine ⟨.slice none 0 0, .slice none 0 0, [], ⟨AM.ok.new hn, by simp [AM.new], Blk.new w TR [.int .i64 n, .slice none 0 0, .slice none 0 0, .int .i64 0], ⟨rfl, .inl ⟨rfl, rfl⟩⟩, ⟨rfl, .inl ⟨rfl, rfl⟩⟩, fun i f hf => by simp [AM.new] at hf⟩, ?_⟩
  funext b
  simp [rfoot, Value.ownBlock]

set_option maxRecDepth 100000 in
set_option maxHeartbeats 4000000 in
theorem plays_any (w : World) (words : Int) (hw : -9223372036854775808 ≤ words ∧ words ≤ 9223372036854775807) (v : Value) (l : List (Int × Int)) (hv : SlOp w v l) :
    Calls Try.prog 10 #[.int .i64 words, v] w fun e w' => e = .returned (.bool true) ∧ Keeps (fun _ => False) w w' := by
  go_enter Try.func10, Try.ntmps10
  go_wp2_with fail
  refine (few_any hv 300 (by omega)).mono ?_; rintro e w1 ⟨⟨v', rfl, hv'⟩, rfl⟩
  have hS := hv' _ hv
  have hL : (l.take 300).length ≤ 300 := by simp; omega
  generalize l.take 300 = L at *
  clear hv' hv
  have HS := hid hS
  obtain ⟨ao, c, rfl, hl0, hlc, hmc, _, _⟩ := hS
  by_cases hbad : words < 0 ∨ 65536 < words
  · go_wp2_with fail
    refine (new_no w words hbad).mono ?_; rintro e w2 ⟨rfl, n2, rfl⟩
    have b1 : (decide (words < 0) = true) ∨ (decide (words < 0) = false ∧ decide (65536 < words) = true) := by
      by_cases h : words < 0
      · exact .inl (by simp; omega)
      · exact .inr ⟨by simp; omega, by simp; omega⟩
    rcases b1 with b1 | ⟨b1, b2⟩
    all_goals
      go_wp2_with fail
      refine (runs_any _).mono ?_; rintro e w3 ⟨rfl, k3⟩
      go_wp2_with fail
      go_ret
      exact ⟨rfl, ((Keeps.refl _ w).drewN n2).trans k3⟩
  · obtain ⟨N, rfl⟩ := Int.eq_ofNat_of_zero_le (show 0 ≤ words by omega)
    have hN : N ≤ 65536 := by omega
    clear hbad hw
    have b1 : decide ((N : Int) < 0) = false := by simp
    have b2 : decide ((65536 : Int) < (N : Int)) = false := by simp; omega
    go_wp2_with fail
    refine (new_m w N hN).mono ?_; rintro e w2 ⟨p, F0, rfl, hA0, hM0⟩
    go_wp2_with fail
    have hBoth : Both (w2.alloc (.cells #[.int .i64 N, .slice none 0 0, .slice none 0 0, .int .i64 0] TR)) p w2.heap.size (AM.new N) F0 (fun b => b = w2.heap.size) :=
      ⟨hA0.new ((Keeps.refl (fun _ => False) w2).alloc _), RObj.start w2 N hN, fun b hb e => by have := hA0.lt b hb; omega⟩
    have hK0 : Keeps (fun _ => False) w (w2.alloc (.cells #[.int .i64 N, .slice none 0 0, .slice none 0 0, .int .i64 0] TR)) := hM0.1.alloc _
    have hF0 : ∀ b, F0 b → w.heap.size ≤ b := fun b hb => (hM0.2 b hb).elim False.elim id
    have hG0 : ∀ b, b = w2.heap.size → w.heap.size ≤ b := fun b hb => by rw [hb]; exact hM0.1.size
    go_loopw [8] (fun i wr => ∃ (k : Nat) (F G : Nat → Prop), k ≤ L.length ∧ i = .int .i64 k ∧ Both wr p w2.heap.size (AM.acts (AM.new N) (L.take k)) F G ∧ Keeps (fun _ => False) w wr ∧ (∀ b, F b → w.heap.size ≤ b) ∧ (∀ b, G b → w.heap.size ≤ b)) (fun i _ => L.length - (intOf i).toNat)
    case atStart => exact ⟨0, F0, _, Nat.zero_le _, rfl, hBoth, hK0, hF0, hG0⟩
    case round =>
      clear hBoth hK0 hF0 hG0 hA0 hM0
      obtain ⟨k, F, G, hk, rfl, hB, hK, hF, hG⟩ := hrel
      have hfew := (acts_n (L.take k) (AM.new N)).2
      simp only [AM.new, List.length_nil, List.length_take] at hfew
      by_cases hlt : k < L.length
      · obtain ⟨b, o, x, rfl, hx, x1, x2, _, _⟩ := (HS.out.new hK).at hlt
        have Hx := hid hx
        clear hx
        have i0 : (0 : Int) ≤ (k : Int) := by omega
        have i1 : (k : Int) < (L.length : Int) := by omega
        have b3 : decide ((k : Int) < (L.length : Int)) = true := by simp; omega
        go_wp2_with fail
        refine (done_any hB (by simp only [AM.new]; omega) x.1 x.2).mono ?_; rintro e w3 ⟨rfl, F3, G3, hB3, hk3, hF3, hG3⟩
        have hK3 : Keeps (fun _ => False) w w3 := hK.trans' hk3 fun b hb => .inr (hb.elim (hF b) (hG b))
        have hF3' : ∀ b, F3 b → w.heap.size ≤ b := fun b hb => (hF3 b hb).elim (hF b) (Nat.le_trans hK.size)
        have hG3' : ∀ b, G3 b → w.heap.size ≤ b := fun b hb => (hG3 b hb).elim (hG b) (Nat.le_trans hK.size)
        obtain ⟨_, _, x, e, hx', x1, x2, _, _⟩ := (HS.out.new hK3).at hlt
        cases e
        obtain rfl : _ = x := Option.some.inj (Hx.out.symm.trans hx')
        clear hx'
        have hcase : decide ((N : Int) ≤ 500) = true ∨ (decide ((N : Int) ≤ 500) = false ∧ ((k : Int) + 1 == (L.length : Int)) = true) ∨ (decide ((N : Int) ≤ 500) = false ∧ ((k : Int) + 1 == (L.length : Int)) = false) := by
          by_cases h1 : (N : Int) ≤ 500
          · exact .inl (by simpa using h1)
          · by_cases h2 : (k : Int) + 1 = (L.length : Int)
            · exact .inr (.inl ⟨by simpa using h1, by simpa using h2⟩)
            · exact .inr (.inr ⟨by simpa using h1, by simpa using h2⟩)
        rcases hcase with h1 | ⟨h1, h2⟩ | ⟨h1, h2⟩
        all_goals
          go_wp2_with fail
          refine (shows_any hB3 _ _).mono ?_; rintro e w4 ⟨rfl, hk4⟩
          go_wp2_with fail
          go_roundw
          case rel => exact ⟨k + 1, F3, G3, by omega, by go_num, by rw [acts_take _ _ _ Hx.out]; exact hB3.new hk4, hK3.trans hk4, hF3', hG3'⟩
          case measure => simp [intOf]; omega
      · have b3 : decide ((k : Int) < (L.length : Int)) = false := by simp; omega
        generalize AM.acts (AM.new N) (L.take k) = M at *
        go_wp2_with fail
        go_loopw [9] (fun i wr => ∃ j : Nat, j ≤ M.frs.length ∧ i = .int .i64 j ∧ Both wr p w2.heap.size M F G ∧ Keeps (fun _ => False) w wr) (fun i _ => M.frs.length - (intOf i).toNat)
        case atStart => exact ⟨0, Nat.zero_le _, rfl, hB, hK⟩
        case round =>
          clear hB hK
          obtain ⟨j, hj, rfl, hB, hK⟩ := hrel
          have HB := hid hB
          obtain ⟨sv, lv, vals, hr, _⟩ := hB.r
          obtain ⟨c0, c1, c2, c3, fz⟩ := hr.cells
          obtain ⟨sa, sc, rfl, _⟩ := hr.sz.shape
          have hfew2 := hr.few
          clear hr hB
          by_cases hlt2 : j < M.frs.length
          · have b4 : decide ((j : Int) < (M.frs.length : Int)) = true := by simp; omega
            go_wp2_with fail
            refine (shows_any HB.out _ _).mono ?_; rintro e w4 ⟨rfl, hk4⟩
            go_wp2_with fail
            go_roundw
            case rel => exact ⟨j + 1, by omega, by go_num, HB.out.new hk4, hK.trans hk4⟩
            case measure => simp [intOf]; omega
          · have b4 : decide ((j : Int) < (M.frs.length : Int)) = false := by simp; omega
            go_wp2_with fail
            refine (runs_any _).mono ?_; rintro e w4 ⟨rfl, hk4⟩
            go_wp2_with fail
            go_ret
            exact ⟨rfl, hK.trans hk4⟩
end Go.Proofs.Ytjmbgfkigfbioaa
