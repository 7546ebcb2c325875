/-
  Texts Cn Cf in one.
-/
import Derived.Test.YtnkjjhenfhnajaaGreatDoorG06
import Derived.Test.YtnkjjhenfhnajaaGreatDoorLay
import Derived.Lib.AtoiAllCases
import Derived.Lib.LaidTab
import Derived.LaidEqlPtr
/-
  Package code, walked: numbers; the library's variables.
-/
namespace Go.Proofs.YtnkjjhenfhnajaaGreatDoor
open Go.RowKit Go.Kw Go.Kreg Go.Cm

def NG : Nat := 5
structure Glob (w : World) : Prop where
  tab : Lib.TabIs Tryz.prog w "internal/strconv.uint64pow10" .u64 Lib.pow10Tab
  syn : ∃ te pe, w.cell? ⟨0, 0, none⟩ = some (.iface te pe)
  rng : ∃ te pe, w.cell? ⟨1, 0, none⟩ = some (.iface te pe)
/-- The library's variables, as they stand in W. -/
def glC (W : World) : Ch :=
  ⟨fun F w => (∀ b, b < NG → w.heap[b]? = W.heap[b]?) ∧ NG ≤ w.heap.size ∧ ∀ b, F b ↔ b < NG, fun _ _ h b hb => Nat.lt_of_lt_of_le ((h.2.2 b).1 hb) h.2.1,
    fun _ _ _ _ h hk hn => ⟨fun b hb => (hk.block b (Nat.lt_of_lt_of_le hb h.2.1) (hn b ((h.2.2 b).2 hb))).trans (h.1 b hb), Nat.le_trans h.2.1 hk.size, h.2.2⟩⟩
theorem gTab : Tryz.prog.globalNamed "internal/strconv.uint64pow10" = some 2 := by kernel_rfl
theorem Glob.at {W w : World} {F : Nat → Prop} (hG : Glob W) (h : (glC W).holds F w) : Glob w := by
  obtain ⟨h1, _, _⟩ := h
  refine ⟨?_, ?_, ?_⟩
  · have := hG.tab
    unfold Lib.TabIs World.var? at *
    rw [gTab] at *
    simp only [Option.bind_some] at *
    rw [h1 _ (by decide)]; exact this
  · obtain ⟨te, pe, h⟩ := hG.syn
    exact ⟨te, pe, by rw [← h]; unfold World.cell?; rw [h1 _ (by decide)]⟩
  · obtain ⟨te, pe, h⟩ := hG.rng
    exact ⟨te, pe, by rw [← h]; unfold World.cell?; rw [h1 _ (by decide)]⟩

theorem keeps_atoi {w w' : World} {T : TypeId} (h : w' = w ∨ ∃ t, w' = Lib.bytesWorld w T t) : Keeps (fun _ => False) w w' := by
  rcases h with rfl | ⟨t, rfl⟩
  · exact Keeps.refl _ _
  · exact Keeps.of_below (Lib.bytesWorld_below _ _ _)

/-- Whatever Atoi ends in: the number, and whether there is an error. -/
theorem atoi_any {W w : World} {F : Nat → Prop} (hG : Glob W) (hg : (glC W).holds F w) (s : ByteArray) (hs : s.size ≤ 4096) :
    Calls Tryz.prog 202 #[.string s] w fun e w' => Keeps (fun _ => False) w w' ∧
      ((∃ n : Int, e = .returned (.tuple #[.int .i64 n, .nilIface]) ∧ Hid (Lib.atoiAll s.data.toList = .ok n)) ∨ (∃ (n : Int) (t : TypeId) (v : Value), e = .returned (.tuple #[.int .i64 n, .iface t v]) ∧ Hid (number s.data.toList = none))) := by
  have hG' := hG.at hg
  cases h : Lib.atoiAll s.data.toList
  · exact (Any.strconv_Atoi_ok Tryz.laysC172 s (by omega) _ h w).mono fun e w' ⟨he, hw⟩ => ⟨keeps_atoi hw, .inl ⟨_, he, hid rfl⟩⟩
  · obtain ⟨te, pe, hv⟩ := hG'.syn
    exact (Any.strconv_Atoi_syntax Tryz.laysC172 s (by omega) h _ w hv (.inr ⟨te, pe, rfl⟩)).mono fun e w' ⟨N, he, _, _, hb⟩ => ⟨Keeps.of_below hb, .inr ⟨_, _, _, he, by unfold number; rw [h]; trivial⟩⟩
  · obtain ⟨te, pe, hv⟩ := hG'.rng
    exact (Any.strconv_Atoi_range Tryz.laysC172 s (by omega) h _ w hv (.inr ⟨te, pe, rfl⟩)).mono fun e w' ⟨N, he, _, _, hb⟩ => ⟨Keeps.of_below hb, .inr ⟨_, _, _, he, by unfold number; rw [h]; trivial⟩⟩
theorem itoa_any {W w : World} {F : Nat → Prop} (hG : Glob W) (hg : (glC W).holds F w) (n : Int) (h0 : -9223372036854775808 ≤ n) (h1 : n ≤ 9223372036854775807) :
    Calls Tryz.prog 203 #[.int .i64 n] w fun e w' => e = .returned (.string ⟨(Lib.itoa n).toArray⟩) ∧ Keeps (fun _ => False) w w' :=
  (Any.strconv_Itoa Tryz.laysM171 n h0 h1 w (hG.at hg).tab).mono fun e w' ⟨he, k, os, hw⟩ => ⟨he, by
    rw [hw]
    exact ⟨rfl, rfl, rfl, by simp, fun b hb _ => Sort.heap_grow_old (w.drewN k) os hb⟩⟩

set_option maxHeartbeats 1000000 in
theorem number_any {W w : World} {F : Nat → Prop} (hG : Glob W) (hg : (glC W).holds F w) (s : ByteArray) (hs : s.size ≤ 4096) :
    Calls Tryz.prog 196 #[.string s] w fun e w' => Keeps (fun _ => False) w w' ∧ ∃ (n : Int) (ok : Bool), e = .returned (.tuple #[.int .i64 n, .bool ok]) ∧ Hid (number s.data.toList = if ok then some n else none) := by
  go_enter Tryz.func196, Tryz.ntmps196
  go_wp2_with fail
  refine (atoi_any hG hg s hs).mono ?_; rintro e w1 ⟨k1, ⟨n, rfl, hn⟩ | ⟨n, t, v, rfl, hn⟩⟩
  · have hb := Lib.atoiAll_bounds hn.out
    have hg1 := (glC W).keep F _ w w1 hg k1 fun _ _ => id
    have K1 := hid k1
    have hnum : number s.data.toList = if Lib.itoa n = s.data.toList then some n else none := by unfold number; rw [hn.out]
    have Hn := hid hnum
    clear k1 hn hnum
    by_cases hi : Lib.itoa n = s.data.toList
    · have b1 : (Lib.itoa n == s.toList) = true := by rw [ByteArray.toList_eq]; simpa using hi
      have Hi := hid hi
      clear hi
      go_wp2_with fail
      refine (itoa_any hG hg1 n hb.1 hb.2).mono ?_; rintro e w2 ⟨rfl, k2⟩
      go_wp2_with fail
      go_ret2
      exact ⟨K1.out.trans k2, n, true, rfl, hid (by rw [Hn.out, if_pos Hi.out]; rfl)⟩
    · have b1 : (Lib.itoa n == s.toList) = false := by rw [ByteArray.toList_eq]; simpa using hi
      have Hi := hid hi
      clear hi
      go_wp2_with fail
      refine (itoa_any hG hg1 n hb.1 hb.2).mono ?_; rintro e w2 ⟨rfl, k2⟩
      go_wp2_with fail
      go_ret2
      exact ⟨K1.out.trans k2, n, false, rfl, hid (by rw [Hn.out, if_neg Hi.out]; rfl)⟩
  · have K1 := hid k1
    clear k1
    go_wp2_with fail
    go_ret2
    exact ⟨K1.out, n, false, rfl, hn⟩
end Go.Proofs.YtnkjjhenfhnajaaGreatDoor

/-
  Package code, walked: a field of an operation.
-/
namespace Go.Proofs.YtnkjjhenfhnajaaGreatDoor
open Go.RowKit Go.Kw Go.Kreg Go.Cm

def offOf : Cm.Place → Nat | .r => 1 | .u => 2 | .s => 2 | .v => 3
def opC (o : Cm.Op) : List Value := [.int .i64 o.kind, .int .i64 o.res, .int .i64 o.n, .int .i64 o.v]
theorem opC_put (p : Cm.Place) (o : Cm.Op) (n : Int) : (opC o).set (offOf p) (.int .i64 n) = opC (put p o n) := by cases p <;> rfl
theorem ba_extract (s : ByteArray) (a b : Nat) : (s.extract a b).data.toList = piece s.data.toList a b := by
  unfold piece
  simp [ByteArray.data_extract, Array.toList_extract, List.extract]

/-- The word that comes next, as the list of words has it. -/
theorem next_word {s : ByteArray} {i : Nat} (hi : i ≤ s.size) : ∃ (j k : Nat) (wd : ByteArray), (wordAt s.data.toList i).2.1 = j ∧ (wordAt s.data.toList i).2.2 = k ∧ s.extract j k = wd ∧ k ≤ s.size ∧ wd.size ≤ s.size ∧
    ((wd.data.toList = [] ∧ toksAt s.data.toList i = []) ∨ (wd.data.toList ≠ [] ∧ toksAt s.data.toList i = (j, wd.data.toList) :: toksAt s.data.toList k)) := by
  have hl : s.data.toList.length = s.size := Array.length_toList
  have h1 := skip_len s.data.toList i (by omega)
  have h2 : (wordAt s.data.toList i).2.2 ≤ s.data.toList.length := end_len s.data.toList _ h1
  have h3 : (s.extract (wordAt s.data.toList i).2.1 (wordAt s.data.toList i).2.2).data.toList = (wordAt s.data.toList i).1 := ba_extract _ _ _
  refine ⟨_, _, _, rfl, rfl, rfl, by omega, by simp [ByteArray.size_extract]; omega, ?_⟩
  rw [h3]
  by_cases h : (wordAt s.data.toList i).1 = []
  · exact .inl ⟨h, toksAt_nil (by omega) h⟩
  · exact .inr ⟨h, toksAt_cons (by omega) h⟩

section
variable {W w : World} {F : Nat → Prop} {rb ob i : Nat} {s : ByteArray} {ov : Value} {opn : Int}

set_option maxRecDepth 100000 in
set_option maxHeartbeats 4000000 in
theorem field_any (hG : Glob W) (p : Cm.Place) (o : Cm.Op) (h : Sts [glC W, .pt rb TRd [.string s, .int .i64 i, ov, .int .i64 opn], .pt ob TOp (opC o)] F w) (hi : i ≤ s.size) (hs : s.size ≤ 4096) (h1 : 1 ≤ o.kind) (h2 : o.kind ≤ 11)
    (hx : ∀ n, fieldsOk (if o.kind = 1 ∧ offOf p = 1 then { put p o n with n := 1 } else put p o n) = okP p n) (hr : o.kind = 1 → p = .r ∨ p = .u) :
    Calls Tryz.prog 181 #[.pointer (some ⟨rb, 0, none⟩), .pointer (some ⟨ob, 0, none⟩), .pointer (some ⟨ob, offOf p, none⟩)] w fun e w' =>
      (∃ (at_ e1 : Int), e = .returned (.tuple #[.int .i64 at_, .int .i64 e1]) ∧ Hid (readF s.size [p] o (toksAt s.data.toList i) = .err at_ e1 ∧ (e1 != 0) = true) ∧ St F w [glC W] w') ∨
      (∃ (o' : Cm.Op) (k : Nat), e = .returned (.tuple #[.int .i64 0, .int .i64 0]) ∧ Hid (readF s.size [p] o (toksAt s.data.toList i) = .ok (o', toksAt s.data.toList k) ∧ k ≤ s.size) ∧ St F w [glC W, .pt rb TRd [.string s, .int .i64 k, ov, .int .i64 opn], .pt ob TOp (opC o')] w') := by
  have hS := hid (St.of h)
  clear h
  obtain ⟨j, k, wd, e1, e2, e3, hk, hwd, hw⟩ := next_word hi
  have E := hid (And.intro e1 (And.intro e2 e3))
  have Hx := hid hx
  have Hr := hid hr
  clear e1 e2 e3 hx hr
  go_enter Tryz.func181, Tryz.ntmps181
  go_wp2_with fail
  obtain ⟨F1, g1, _, back⟩ := hS.out.at 1 rfl
  refine (word_any (Sts.one g1) hi hs).mono ?_; rintro e w1 ⟨rfl, hS1⟩
  have hS1 := hid (back hS1)
  clear back g1 hS
  rw [E.out.1, E.out.2.1, E.out.2.2]
  have hS1 := hS1.out
  rw [E.out.2.1] at hS1
  simp only [Kw.red] at hS1
  have HS := hid hS1
  clear hS1
  rcases hw with ⟨hw, ht⟩ | ⟨hw, ht⟩
  · have b1 : (wd.toList == []) = true := by rw [ByteArray.toList_eq]; simpa using hw
    have Ht := hid ht
    clear hw ht
    obtain ⟨c0, c1, c2, c3, cz⟩ := cells4 (HS.out.blk 1)
    go_wp2_with fail
    go_ret2
    exact .inl ⟨_, _, rfl, hid ⟨by rw [Ht.out]; rfl, rfl⟩, HS.out.sub [0]⟩
  · have b1 : (wd.toList == []) = false := by rw [ByteArray.toList_eq]; simpa using hw
    have Ht := hid ht
    clear hw ht
    go_wp2_with fail
    obtain ⟨F2, g2, _⟩ := HS.out.at 0 rfl
    refine (number_any hG g2 wd (by omega)).mono ?_; rintro e w2 ⟨k2, n, ok, rfl, hn⟩
    have hS2 := HS.out.step k2
    obtain ⟨d0, d1, d2, d3, dz⟩ := cells4 (hS2.blk 2)
    have hS3 := hS2.set 2 (offOf p) (.int .i64 n)
    rw [opC_put] at hS3
    simp only [Kw.red] at hS3
    have HS3 := hid hS3
    clear k2 g2 HS hS3
    have hN : (ok = false ∧ Hid (readF s.size [p] o (toksAt s.data.toList i) = .err j 30)) ∨ (ok = true ∧ okP p n = false ∧ Hid (readF s.size [p] o (toksAt s.data.toList i) = .err j 30)) ∨ (ok = true ∧ okP p n = true ∧ Hid (readF s.size [p] o (toksAt s.data.toList i) = .ok (put p o n, toksAt s.data.toList k))) := by
      rw [Ht.out]
      cases ok
      · exact .inl ⟨rfl, by unfold readF; rw [hn.out]; exact hid rfl⟩
      · cases hp : okP p n
        · exact .inr (.inl ⟨rfl, rfl, by unfold readF; rw [hn.out]; simp only [if_true, hp]; exact hid rfl⟩)
        · exact .inr (.inr ⟨rfl, rfl, by unfold readF; rw [hn.out]; simp only [if_true, hp]; exact hid rfl⟩)
    have dk := Blk.at (hS2.blk 2) (o := offOf p) (v := (opC o).getD (offOf p) undef) (by cases p <;> rfl)
    have HK := hid (show (o.kind == 1) = true ∨ (o.kind == 1) = false by cases (o.kind == 1) <;> simp)
    have HF := hid (show ∀ x w, x.kind = o.kind → Calls Tryz.prog 197 #[opV x] w fun e w' => e = .returned (.bool (fieldsOk x)) ∧ Keeps (fun _ => False) w w' from fun x w hk => fields_any x w (by omega) (by omega))
    have hpk : (put p o n).kind = o.kind := by cases p <;> rfl
    have HPK := hid hpk
    clear hS2 hpk h1 h2
    rcases hN with ⟨rfl, hN⟩ | hN
    · go_wp2_with fail
      go_ret2
      exact .inl ⟨_, _, rfl, hid ⟨hN.out, rfl⟩, HS3.out.sub [0]⟩
    · obtain rfl : ok = true := hN.elim (·.1) (·.1)
      obtain ⟨i0, hi0, _, hz1, _⟩ := info_parts infoI
      have hsame := fun w => run_eql_ptr_same (P := Tryz.prog) (w := w) ⟨ob, 1, none⟩ Tryz.underlying278 hi0
      have hNN : (okP p n = false ∧ Hid (readF s.size [p] o (toksAt s.data.toList i) = .err j 30)) ∨ (okP p n = true ∧ Hid (readF s.size [p] o (toksAt s.data.toList i) = .ok (put p o n, toksAt s.data.toList k))) :=
        hN.elim (fun h => .inl h.2) (fun h => .inr h.2)
      have HNN := hid hNN
      have hxn := Hx.out n
      have Hxn := hid hxn
      have fin : ∀ (b : Bool) (wb : World), Hid (okP p n = b) → Keeps (fun _ => False) (w2.setCell ⟨ob, offOf p, none⟩ (.int .i64 n)) wb → (b = false → Hid (readF s.size [p] o (toksAt s.data.toList i) = .err j 30) ∧ St F w [glC W] wb) ∧ (b = true → Hid (readF s.size [p] o (toksAt s.data.toList i) = .ok (put p o n, toksAt s.data.toList k)) ∧ St F w [glC W, .pt rb TRd [.string s, .int .i64 k, ov, .int .i64 opn], .pt ob TOp (opC (put p o n))] wb) := by
        intro b wb hb hk
        have h1 := HS3.out.step hk
        constructor
        · rintro rfl
          rcases HNN.out with h | h
          · exact ⟨h.2, h1.sub [0]⟩
          · have := hb.out; rw [h.1] at this; cases this
        · rintro rfl
          rcases HNN.out with h | h
          · have := hb.out; rw [h.1] at this; cases this
          · exact ⟨h.2, h1⟩
      have Fin := hid fin
      clear hN hNN HNN hxn fin hn
      cases p
      case' r =>
        simp only [offOf] at *
        rcases HK.out with hk1 | hk1
        case' inl =>
          go_wp2_with fail
          refine (HF.out { put .r o n with n := 1 } _ HPK.out).mono ?_; rintro e w5 ⟨rfl, k5⟩
          have hb : fieldsOk { put .r o n with n := 1 } = okP .r n := by rw [← Hxn.out, if_pos (by simpa using hk1)]
        case' inr =>
          go_wp2_with fail
          refine (HF.out (put .r o n) _ HPK.out).mono ?_; rintro e w5 ⟨rfl, k5⟩
          have hb : fieldsOk (put .r o n) = okP .r n := by rw [← Hxn.out, if_neg (fun h : o.kind = 1 ∧ True => by simp [h.1] at hk1)]
        all_goals
          rw [hb]
          have K5 := hid (((Keeps.refl (fun _ => False) _).alloc _).trans k5)
          cases hq : okP .r n
          · obtain ⟨q1, q2⟩ := (Fin.out _ w5 (hid hq) K5.out).1 rfl
            have Q := hid q2
            clear hb hq q2 k5
            go_wp2_with fail
            go_ret2
            exact .inl ⟨_, _, rfl, hid ⟨q1.out, rfl⟩, Q.out⟩
          · obtain ⟨q1, q2⟩ := (Fin.out _ w5 (hid hq) K5.out).2 rfl
            have Q := hid q2
            clear hb hq q2 k5
            go_wp2_with fail
            go_ret2
            exact .inr ⟨_, _, rfl, hid ⟨q1.out, hk⟩, Q.out⟩
      case' u =>
        simp only [offOf] at *
        have hbl := Blk.alloc (HS3.out.blk 2) (.cells #[.int .i64 o.kind, .int .i64 o.res, .int .i64 n, .int .i64 o.v] TOp)
        have hoth := run_eql_ptr_other (P := Tryz.prog) (w := (w2.setCell ⟨ob, 2, none⟩ (.int .i64 n)).alloc (.cells #[.int .i64 o.kind, .int .i64 o.res, .int .i64 n, .int .i64 o.v] TOp)) (a := ⟨ob, 2, none⟩) (b := ⟨ob, 1, none⟩) Tryz.underlying278 hi0 (by rw [hz1]; decide) (by simp) hbl hbl
        clear hbl
        rcases HK.out with hk1 | hk1
        all_goals
          go_wp2_with fail
          refine (HF.out (put .u o n) _ HPK.out).mono ?_; rintro e w5 ⟨rfl, k5⟩
          have hb : fieldsOk (put .u o n) = okP .u n := by rw [← Hxn.out]; simp
          rw [hb]
          have K5 := hid (((Keeps.refl (fun _ => False) _).alloc _).trans k5)
          cases hq : okP .u n
          · obtain ⟨q1, q2⟩ := (Fin.out _ w5 (hid hq) K5.out).1 rfl
            have Q := hid q2
            clear hb hq q2 k5
            go_wp2_with fail
            go_ret2
            exact .inl ⟨_, _, rfl, hid ⟨q1.out, rfl⟩, Q.out⟩
          · obtain ⟨q1, q2⟩ := (Fin.out _ w5 (hid hq) K5.out).2 rfl
            have Q := hid q2
            clear hb hq q2 k5
            go_wp2_with fail
            go_ret2
            exact .inr ⟨_, _, rfl, hid ⟨q1.out, hk⟩, Q.out⟩
      case' s =>
        simp only [offOf] at *
        have hk1 : (o.kind == 1) = false := by
          rcases HK.out with h | h
          · have := Hr.out (by simpa using h); simp at this
          · exact h
        have hb : fieldsOk (put .s o n) = okP .s n := by rw [← Hxn.out]; simp
        have Hb := hid hb
        clear hb
        go_wp2_with fail
        refine (HF.out (put .s o n) _ HPK.out).mono ?_; rintro e w5 ⟨rfl, k5⟩
        have hb := Hb.out
        all_goals
          rw [hb]
          have K5 := hid (((Keeps.refl (fun _ => False) _).alloc _).trans k5)
          cases hq : okP .s n
          · obtain ⟨q1, q2⟩ := (Fin.out _ w5 (hid hq) K5.out).1 rfl
            have Q := hid q2
            clear hb hq q2 k5
            go_wp2_with fail
            go_ret2
            exact .inl ⟨_, _, rfl, hid ⟨q1.out, rfl⟩, Q.out⟩
          · obtain ⟨q1, q2⟩ := (Fin.out _ w5 (hid hq) K5.out).2 rfl
            have Q := hid q2
            clear hb hq q2 k5
            go_wp2_with fail
            go_ret2
            exact .inr ⟨_, _, rfl, hid ⟨q1.out, hk⟩, Q.out⟩
      case' v =>
        simp only [offOf] at *
        have hk1 : (o.kind == 1) = false := by
          rcases HK.out with h | h
          · have := Hr.out (by simpa using h); simp at this
          · exact h
        have hb : fieldsOk (put .v o n) = okP .v n := by rw [← Hxn.out]; simp
        have Hb := hid hb
        clear hb
        go_wp2_with fail
        refine (HF.out (put .v o n) _ HPK.out).mono ?_; rintro e w5 ⟨rfl, k5⟩
        have hb := Hb.out
        all_goals
          rw [hb]
          have K5 := hid (((Keeps.refl (fun _ => False) _).alloc _).trans k5)
          cases hq : okP .v n
          · obtain ⟨q1, q2⟩ := (Fin.out _ w5 (hid hq) K5.out).1 rfl
            have Q := hid q2
            clear hb hq q2 k5
            go_wp2_with fail
            go_ret2
            exact .inl ⟨_, _, rfl, hid ⟨q1.out, rfl⟩, Q.out⟩
          · obtain ⟨q1, q2⟩ := (Fin.out _ w5 (hid hq) K5.out).2 rfl
            have Q := hid q2
            clear hb hq q2 k5
            go_wp2_with fail
            go_ret2
            exact .inr ⟨_, _, rfl, hid ⟨q1.out, hk⟩, Q.out⟩
end
end Go.Proofs.YtnkjjhenfhnajaaGreatDoor
