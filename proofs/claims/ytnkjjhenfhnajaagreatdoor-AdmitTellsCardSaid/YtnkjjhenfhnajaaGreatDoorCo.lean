/-
  Package code, walked: an operation behind its first word.
-/
import Derived.Test.YtnkjjhenfhnajaaGreatDoorG07
namespace Go.Proofs.YtnkjjhenfhnajaaGreatDoor
open Go.RowKit Go.Kw Go.Kreg Go.Cm

abbrev TPI : Nat := 278
def opsC (l : List Cm.Op) : List Value := l.flatMap opC
theorem opsC_len (l : List Cm.Op) : (opsC l).length = l.length * 4 := by
  induction l with
  | nil => rfl
  | cons o l ih => simp [opsC, opC] at *; omega
theorem opsC_one (l : List Cm.Op) (h : ∀ u ∈ opsC l, u.oneCell' = true := by intro u hu; simp only [opsC, List.mem_flatMap, opC, List.mem_cons, List.not_mem_nil, or_false] at hu; obtain ⟨_, _, rfl | rfl | rfl | rfl⟩ := hu <;> rfl) : ∀ u ∈ opsC l, u.oneCell' = true := h

/-- Where an operation stands whose first fields are read. -/
def stage (kind j : Nat) (o : Cm.Op) : Prop := o.kind = kind ∧ ((j = 0 ∧ o = ⟨kind, 0, 0, 0⟩) ∨ (j = 1 ∧ kind = 1 ∧ ∃ n, okP .r n = true ∧ o = ⟨1, n, 0, 0⟩) ∨ j = (places kind).length)
theorem stage_next {kind j : Nat} {o : Cm.Op} {p : Cm.Place} {n : Int} (h : stage kind j o) (hp : (places kind)[j]? = some p) (hn : okP p n = true) : stage kind (j + 1) (put p o n) := by
  have hj := (List.getElem?_eq_some_iff.1 hp).1
  obtain ⟨hk, h⟩ := h
  refine ⟨by cases p <;> exact hk, ?_⟩
  have hlen : (places kind).length ≤ 2 := by unfold places placesH; split <;> simp
  rcases h with ⟨rfl, rfl⟩ | ⟨rfl, rfl, _⟩ | h
  · by_cases h1 : (places kind).length = 1
    · exact .inr (.inr (by omega))
    · have hk1 : kind = 1 := by
        unfold places placesH at h1 hp
        split at h1
        · rename_i heq
          unfold rowH at heq
          split at heq <;> simp_all
        all_goals simp_all
      subst hk1
      simp [places, placesH, rowH] at hp
      subst hp
      exact .inr (.inl ⟨rfl, rfl, n, hn, rfl⟩)
  · exact .inr (.inr rfl)
  · omega
theorem stage_ok {kind j : Nat} {o : Cm.Op} {p : Cm.Place} (h1 : 1 ≤ kind) (h2 : kind ≤ 11) (h : stage kind j o) (hp : (places kind)[j]? = some p) :
    (∀ n, fieldsOk (if o.kind = 1 ∧ offOf p = 1 then { put p o n with n := 1 } else put p o n) = okP p n) ∧ (o.kind = 1 → p = .r ∨ p = .u) := by
  have hj := (List.getElem?_eq_some_iff.1 hp).1
  obtain ⟨hk, h⟩ := h
  rcases h with ⟨rfl, rfl⟩ | ⟨rfl, rfl, m, hm, rfl⟩ | h
  · obtain rfl | rfl | rfl | rfl | rfl | rfl | rfl | rfl | rfl | rfl | rfl : kind = 1 ∨ kind = 2 ∨ kind = 3 ∨ kind = 4 ∨ kind = 5 ∨ kind = 6 ∨ kind = 7 ∨ kind = 8 ∨ kind = 9 ∨ kind = 10 ∨ kind = 11 := by omega
    all_goals
      simp [places, placesH, rowH] at hp
    all_goals
      subst hp
      refine ⟨fun n => ?_, by simp⟩
      simp [offOf, put, fieldsOk, fieldsH, rowH, okP, Bool.decide_and]
  · simp [places, placesH, rowH] at hp
    subst hp
    refine ⟨fun n => ?_, by simp⟩
    simp [okP] at hm
    simp [offOf, put, fieldsOk, fieldsH, rowH, okP, Bool.decide_and, hm]
  · omega

theorem readF_cons (len : Int) (p : Cm.Place) (ps : List Cm.Place) (o : Cm.Op) (i : Nat) (w : List UInt8) (ts : List Tok) : readF len (p :: ps) o ((i, w) :: ts) = match number w with
    | some n => if okP p n then readF len ps (put p o n) ts else .err i 30
    | none => .err i 30 := rfl
theorem readF_step {len : Int} {p : Cm.Place} {ps : List Cm.Place} {o : Cm.Op} {ts : List Tok} {o' : Cm.Op} {ts' : List Tok} (h : readF len [p] o ts = .ok (o', ts')) : readF len (p :: ps) o ts = readF len ps o' ts' := by
  cases ts with
  | nil => simp [readF] at h
  | cons t ts =>
    obtain ⟨i, w⟩ := t
    rw [readF_cons] at *
    cases hn : number w with
    | none => simp [hn] at h
    | some n =>
      simp only [hn] at h ⊢
      split at h
      · rename_i hp
        rw [if_pos hp]
        simp only [readF, Res.ok.injEq, Prod.mk.injEq] at h
        rw [h.1, h.2]
      · cases h
theorem readF_put {len : Int} {p : Cm.Place} {o : Cm.Op} {ts : List Tok} {o' : Cm.Op} {ts' : List Tok} (h : readF len [p] o ts = .ok (o', ts')) : ∃ n, okP p n = true ∧ o' = put p o n := by
  cases ts with
  | nil => simp [readF] at h
  | cons t ts =>
    obtain ⟨i, w⟩ := t
    rw [readF_cons] at h
    cases hn : number w with
    | none => simp [hn] at h
    | some n =>
      simp only [hn] at h
      split at h
      · rename_i hp
        simp only [readF, Res.ok.injEq, Prod.mk.injEq] at h
        exact ⟨n, hp, h.1.symm⟩
      · cases h
theorem readF_err {len : Int} {p : Cm.Place} {ps : List Cm.Place} {o : Cm.Op} {ts : List Tok} {i e : Int} (h : readF len [p] o ts = .err i e) : readF len (p :: ps) o ts = .err i e := by
  cases ts with
  | nil => exact h
  | cons t ts =>
    obtain ⟨j, w⟩ := t
    rw [readF_cons] at *
    cases hn : number w with
    | none => simp only [hn] at h ⊢; exact h
    | some n =>
      simp only [hn] at h ⊢
      split at h
      · simp [readF] at h
      · rename_i hp
        rw [if_neg hp]; exact h

theorem one_err {len : Int} {kind : Nat} {ts ts' : List Tok} {o : Cm.Op} {i e : Int} (h : readF len (places kind) ⟨kind, 0, 0, 0⟩ ts = .ok (o, ts')) (hk : kind = 10) (hb : brace len ts' = .err i e) : one len kind ts = .err i e := by
  unfold one; rw [h]; simp only []; rw [if_pos hk, hb]
theorem one_ok {len : Int} {kind : Nat} {ts ts' ts2 : List Tok} {o : Cm.Op} (h : readF len (places kind) ⟨kind, 0, 0, 0⟩ ts = .ok (o, ts')) (hk : kind = 10) (hb : brace len ts' = .ok ts2) : one len kind ts = .ok (o, ts2) := by
  unfold one; rw [h]; simp only []; rw [if_pos hk, hb]
theorem one_not {len : Int} {kind : Nat} {ts ts' : List Tok} {o : Cm.Op} (h : readF len (places kind) ⟨kind, 0, 0, 0⟩ ts = .ok (o, ts')) (hk : kind ≠ 10) : one len kind ts = .ok (o, ts') := by
  unfold one; rw [h]; simp only []; rw [if_neg hk]
theorem brace_yes {len : Int} {i : Nat} {w : List UInt8} {ts : List Tok} (h : w = [123]) : brace len ((i, w) :: ts) = .ok ts := by unfold brace; simp [h]
theorem brace_no {len : Int} {i : Nat} {w : List UInt8} {ts : List Tok} (h : w ≠ [123]) : brace len ((i, w) :: ts) = .err i 30 := by simp [brace, h]

section
variable {W w : World} {F : Nat → Prop} {rb i : Nat} {s : ByteArray} {ov : Value} {opn : Int} {ops : List Cm.Op}

/-- The list of the places of an operation's fields. -/
def ptrs (ob : Nat) (ps : List Cm.Place) : List Value := ps.map fun p => .pointer (some ⟨ob, offOf p, none⟩)




set_option maxRecDepth 100000 in
set_option maxHeartbeats 4000000 in
theorem one_any (hG : Glob W) (kind : Nat) (h : Sts [glC W, .pt rb TRd [.string s, .int .i64 i, ov, .int .i64 opn], .row TOp 4 ov ops.length (opsC ops)] F w) (hi : i ≤ s.size) (hs : s.size ≤ 4096) (h1 : 1 ≤ kind) (h2 : kind ≤ 11)
    (ho0 : -10 ≤ opn) (ho1 : opn ≤ 10) (hops : ops.length ≤ 256) :
    Calls Tryz.prog 160 #[.pointer (some ⟨rb, 0, none⟩), .int .i64 kind] w fun e w' =>
      (∃ (at_ e1 : Int), e = .returned (.tuple #[.int .i64 at_, .int .i64 e1]) ∧ Hid (one s.size kind (toksAt s.data.toList i) = .err at_ e1 ∧ (e1 != 0) = true) ∧ St F w [glC W] w') ∨
      (∃ (o : Cm.Op) (k : Nat) (ov' : Value), e = .returned (.tuple #[.int .i64 0, .int .i64 0]) ∧ Hid (one s.size kind (toksAt s.data.toList i) = .ok (o, toksAt s.data.toList k) ∧ k ≤ s.size) ∧
        St F w [glC W, .pt rb TRd [.string s, .int .i64 k, ov', .int .i64 (nextOpen kind opn)], .row TOp 4 ov' (ops.length + 1) (opsC (ops ++ [o]))] w') := by
  have hS := (St.of h).new TOp (opC ⟨kind, 0, 0, 0⟩)
  simp only [Kw.red] at hS
  have HS := hid hS
  clear h hS
  go_enter Tryz.func160, Tryz.ntmps160
  go_wp2_with fail
  refine (row_any kind _ h1 h2).mono ?_; rintro e w1 ⟨rfl, k1⟩
  have HS1 := hid (HS.out.step k1)
  clear HS k1
  unfold wordV
  generalize (⟨(rowW kind).toArray⟩ : ByteArray) = wv at *
  have hP : places kind = placesH (rowH kind) := rfl
  have hle := rowH_le kind
  have HP := hid hP
  clear hP
  generalize hhv : rowH kind = hv at *
  have Hhv := hid hhv
  clear hhv
  generalize w.heap.size = ob at *
  have HL := hid (show ∀ (lb : Nat) (ps : List Cm.Place) (wb : World), placesH hv = ps → St F w [glC W, .pt rb TRd [.string s, .int .i64 i, ov, .int .i64 opn], .row TOp 4 ov ops.length (opsC ops), .pt ob TOp (opC ⟨kind, 0, 0, 0⟩), .pt lb TPI (ptrs ob ps)] wb →
      ∃ lbo, lbo = some lb ∧ Hid (St F w [glC W, .pt rb TRd [.string s, .int .i64 i, ov, .int .i64 opn], .row TOp 4 ov ops.length (opsC ops), .pt ob TOp (opC ⟨kind, 0, 0, 0⟩), .lst TPI 1 lbo ps.length (ptrs ob (places kind))] wb) by
    intro lb ps wb hps h
    refine ⟨some lb, rfl, ?_⟩
    have := h.imp 4 (c := .pt lb TPI (ptrs ob ps)) (.lst TPI 1 (some lb) ps.length (ptrs ob ps)) (fun F hh => ⟨⟨by simp [ptrs], hh.1⟩, fun b => by rw [hh.2 b]; simp [eq_comm]⟩)
    rw [HP.out, hps]
    exact this)
  obtain rfl | rfl | rfl | rfl | rfl : hv = 1 ∨ hv = 2 ∨ hv = 3 ∨ hv = 4 ∨ hv = 0 := by omega
  · go_wp2_with fail
    have hL1 := (HS1.out.step ((Keeps.refl (fun _ => False) w1).alloc (.cells #[.string wv, .int .i64 1] TRow))).new TPI (ptrs ob [.r, .u])
    rw [show (w1.alloc (.cells #[.string wv, .int .i64 1] TRow)).heap.size = w1.heap.size + 1 by simp] at hL1
    simp only [Kw.red] at hL1
    obtain ⟨lbo, hlbo, HL⟩ := HL.out _ [.r, .u] _ rfl hL1
    have Hlbo := hid hlbo
    have Hlen := hid (show (places kind).length = 2 by rw [HP.out]; rfl)
    clear hL1 HS1 hlbo
    go_loopw [44] (fun x wr => ∃ (j : Nat) (o : Cm.Op) (k : Nat), j ≤ 2 ∧ x = .int .i64 j ∧ k ≤ s.size ∧ stage kind j o ∧ Hid (readF s.size (places kind) ⟨kind, 0, 0, 0⟩ (toksAt s.data.toList i) = readF s.size ((places kind).drop j) o (toksAt s.data.toList k)) ∧ St F w [glC W, .pt rb TRd [.string s, .int .i64 k, ov, .int .i64 opn], .row TOp 4 ov ops.length (opsC ops), .pt ob TOp (opC o), .lst TPI 1 lbo 2 (ptrs ob (places kind))] wr) (fun x _ => 2 - (intOf x).toNat)
    case atStart => exact ⟨0, ⟨kind, 0, 0, 0⟩, i, Nat.zero_le _, rfl, hi, ⟨rfl, .inl ⟨rfl, rfl⟩⟩, hid rfl, HL.out⟩
    case round =>
      clear HL
      obtain ⟨j, o, k, hj, rfl, hk, hst, HQ, hS⟩ := hrel
      have HS := hid hS
      have Hst := hid hst
      clear hS hst
      by_cases hlt : j < 2
      · have hpp := List.getElem?_eq_getElem (show j < (places kind).length by rw [Hlen.out]; exact hlt)
        generalize (places kind)[j]'(by rw [Hlen.out]; exact hlt) = p at *
        have Hpp := hid hpp
        have d0 := (HS.out.lst 4).src _ (by rw [Hlbo.out]; rfl) j (.pointer (some ⟨ob, offOf p, none⟩)) (by simp [ptrs, hpp])
        rw [add_at, Nat.zero_add] at d0
        have hdr : (places kind).drop j = p :: (places kind).drop (j + 1) := by
          rw [List.drop_eq_getElem_cons (by rw [Hlen.out]; exact hlt)]; congr 1; exact Option.some.inj ((List.getElem?_eq_getElem _).symm.trans hpp)
        have Hdr := hid hdr
        obtain ⟨q1, q2⟩ := stage_ok h1 h2 Hst.out hpp
        have Q1 := hid q1
        have Q2 := hid q2
        have i0 : (0 : Int) ≤ (j : Int) := by omega
        have i1 : (j : Int) < 2 := by omega
        have b1 : decide ((j : Int) < 2) = true := by simp; omega
        have hok := Hst.out.1
        have Hok := hid hok
        clear hpp hdr q1 q2 hok
        go_wp2_with fail
        obtain ⟨F1, g1, _, _, back⟩ := HS.out.sel [0, 1, 3]
        simp only [Kw.red] at g1
        refine (field_any hG p o g1 hk hs (by rw [Hok.out]; omega) (by rw [Hok.out]; omega) Q1.out Q2.out).mono ?_; rintro e w5 (⟨at_, e1, rfl, hr, hS5⟩ | ⟨o', k', rfl, hr, hS5⟩)
        · have hone : one s.size kind (toksAt s.data.toList i) = .err at_ e1 := by unfold one; rw [HQ.out, Hdr.out, readF_err hr.out.1]
          have b2 := hr.out.2
          have HE := hid ((back hS5).sub [0])
          have Hone := hid hone
          clear hone hS5 back g1 hr d0
          go_wp2_with fail
          go_ret2
          exact .inl ⟨_, _, rfl, hid ⟨Hone.out, b2⟩, HE.out⟩
        · have hS6 := back hS5
          simp only [Kw.red] at hS6
          have HS6 := hid hS6
          obtain ⟨m, hm, ho'⟩ := readF_put hr.out.1
          have hst' := stage_next Hst.out Hpp.out hm
          rw [← ho'] at hst'
          have HQ' := hid (show readF s.size (places kind) ⟨kind, 0, 0, 0⟩ (toksAt s.data.toList i) = readF s.size ((places kind).drop (j + 1)) o' (toksAt s.data.toList k') by rw [HQ.out, Hdr.out, readF_step hr.out.1])
          have hk' := hr.out.2
          have Hst' := hid hst'
          clear hS6 hS5 back g1 hr d0 ho' hm hst'
          go_wp2_with fail
          go_roundw
          case rel => exact ⟨j + 1, o', k', by omega, by go_num, hk', Hst'.out, HQ', HS6.out⟩
          case measure => simp [intOf]; omega
      · have hO : readF s.size (places kind) ⟨kind, 0, 0, 0⟩ (toksAt s.data.toList i) = .ok (o, toksAt s.data.toList k) := by
          rw [HQ.out, List.drop_eq_nil_of_le (by rw [Hlen.out]; omega)]; cases toksAt s.data.toList k <;> rfl
        have HO := hid hO
        have HS1 := hid (HS.out.sub [0, 1, 2, 3])
        have b1 : decide ((j : Int) < 2) = false := by simp <;> omega
        clear hO HS Hst HQ
        have hkc : kind = 10 ∨ kind = 11 ∨ (kind ≠ 10 ∧ kind ≠ 11) := by omega
        rcases hkc with hk10 | hk11 | ⟨hn10, hn11⟩
        · have b2 : ((kind : Int) == 10) = true := by simp; omega
          obtain ⟨j2, k2, wd, e1, e2, e3, hk2, hwd, hw⟩ := next_word hk
          have E := hid (And.intro e1 (And.intro e2 e3))
          have Hk10 := hid hk10
          clear e1 e2 e3 hk10
          go_wp2_with fail
          obtain ⟨F2, g2, _, back⟩ := HS1.out.at 1 rfl
          refine (word_any (Sts.one g2) hk hs).mono ?_; rintro e w6 ⟨rfl, hS6⟩
          have hS6 := back hS6
          rw [E.out.1, E.out.2.1, E.out.2.2]
          rw [E.out.2.1] at hS6
          simp only [Kw.red] at hS6
          have HS6 := hid hS6
          obtain ⟨c0, c1, c2, c3, cz⟩ := cells4 (hS6.blk 1)
          clear hS6 back g2
          rcases hw with ⟨hw, ht⟩ | ⟨hw, ht⟩
          · have b4 : (wd.toList == [123]) = false := by rw [ByteArray.toList_eq, hw]; rfl
            have b5 : (wd.toList == []) = true := by rw [ByteArray.toList_eq]; simpa using hw
            have Ht := hid ht
            clear hw ht
            go_wp2_with fail
            go_ret2
            exact .inl ⟨_, _, rfl, hid ⟨one_err HO.out Hk10.out (by rw [Ht.out]; rfl), rfl⟩, HS6.out.sub [0]⟩
          · by_cases hbr : wd.data.toList = [123]
            · have b4 : (wd.toList == [123]) = true := by rw [ByteArray.toList_eq]; simpa using hbr
              have Hone := hid (one_ok HO.out Hk10.out (ts2 := toksAt s.data.toList k2) (by rw [ht]; exact brace_yes hbr))
              clear hw ht hbr
              have hSa := HS6.out.set 1 3 (.int .i64 (opn + 1))
              simp only [Kw.red] at hSa
              have hno : nextOpen kind opn = opn + 1 := by unfold nextOpen; rw [if_pos Hk10.out]
              rw [← hno] at hSa
              have HSa := hid hSa
              have Hno := hid hno
              clear hSa hno HS6
              go_wp2_with fail
              rw [← Hno.out]
              generalize w6.setCell ⟨rb, 3, none⟩ (.int .i64 (nextOpen kind opn)) = wa at *
              clear c0 c1 c2 c3 cz
              obtain ⟨c0, c1, c2, c3, cz⟩ := cells4 (HSa.out.blk 1)
              obtain ⟨d0, d1, d2, d3, dz⟩ := cells4 (HSa.out.blk 3)
              generalize hnop : nextOpen kind opn = nopn at *
              have Hnop := hid hnop
              clear hnop
              refine wp_region_mix [true, true, true, true, true, true, false, false, false, false, false] 1 (fun _ => False) (by kernel_rfl) (by decide +kernel) ?_
              simp only [front, back, List.take_succ_cons, List.take_zero, List.drop_succ_cons, List.drop_zero]
              repeat ((first | refine wpFront_load rfl ?_ | refine wpFront_other rfl ?_); (first | go_big_quiet_step (fail) | quiet_step (fail)); refine wpQuiet_nil ?_)
              refine wpFront_nil ?_
              simp only [wpSegs]
              go_wp2_with fail
              refine segQ_normal (((Keeps.refl _ _).drew).alloc _) ?_
              have hSb := (HSa.out.drew).new TOp (opC o)
              simp only [Kw.red] at hSb
              refine wpList_appS 2 4 _ _ TOps TOp (.agg #[.int .i64 0, .int .i64 0, .int .i64 0, .int .i64 0]) 4 32 infoOp Tryz.underlying133 rfl (by decide) rfl rfl hSb rfl rfl rfl rfl rfl (by intro u hu; simp only [opC, List.mem_cons, List.not_mem_nil, or_false] at hu; rcases hu with rfl | rfl | rfl | rfl <;> rfl) (by omega) (by unfold maxLen; omega) (by omega) ?_
              intro g gc w7 hSc hat
              clear c0 c1 c2 c3 cz d0 d1 d2 d3 dz
              obtain ⟨c0, c1, c2, c3, cz⟩ := cells4 (hSc.blk 1)
              go_wp2_with fail
              refine NoPanic.normal ?_
              go_wp2_with fail
              have hSd := hSc.set 1 2 (.slice (some ⟨g, 0, none⟩) (ops.length + 1) gc)
              go_ret2
              refine .inr ⟨o, k2, .slice (some ⟨g, 0, none⟩) (ops.length + 1) gc, rfl, hid ⟨Hone.out, by assumption⟩, ?_⟩
              have hSe := hSd.sub [0, 1, 2]
              simp only [Kw.red] at hSe
              rw [show opsC (ops ++ [o]) = opsC ops ++ opC o by simp [opsC], Hnop.out]
              exact hSe
            · have b4 : (wd.toList == [123]) = false := by rw [ByteArray.toList_eq]; simpa using hbr
              have b5 : (wd.toList == []) = false := by rw [ByteArray.toList_eq]; simpa using hw
              have Hone := hid (one_err HO.out Hk10.out (i := j2) (e := 30) (by rw [ht]; exact brace_no hbr))
              clear hw ht hbr
              go_wp2_with fail
              go_ret2
              exact .inl ⟨_, _, rfl, hid ⟨Hone.out, rfl⟩, HS6.out.sub [0]⟩
        · have b2 : ((kind : Int) == 10) = false := by simp; omega
          have b3 : ((kind : Int) == 11) = true := by simp; omega
          obtain ⟨c0, c1, c2, c3, cz⟩ := cells4 (HS1.out.blk 1)
          have hSa := HS1.out.set 1 3 (.int .i64 (opn - 1))
          simp only [Kw.red] at hSa
          have hno : nextOpen kind opn = opn - 1 := by unfold nextOpen; rw [if_neg (by omega), if_pos hk11]
          rw [← hno] at hSa
          have HSa := hid hSa
          have Hno := hid hno
          have Hone := hid (one_not HO.out (by omega))
          clear hSa hno hk11
          go_wp2_with fail
          rw [← Hno.out]
          generalize wr.setCell ⟨rb, 3, none⟩ (.int .i64 (nextOpen kind opn)) = wa at *
          obtain ⟨c0, c1, c2, c3, cz⟩ := cells4 (HSa.out.blk 1)
          obtain ⟨d0, d1, d2, d3, dz⟩ := cells4 (HSa.out.blk 3)
          generalize hnop : nextOpen kind opn = nopn at *
          have Hnop := hid hnop
          clear hnop
          refine wp_region_mix [true, true, true, true, true, true, false, false, false, false, false] 1 (fun _ => False) (by kernel_rfl) (by decide +kernel) ?_
          simp only [front, back, List.take_succ_cons, List.take_zero, List.drop_succ_cons, List.drop_zero]
          repeat ((first | refine wpFront_load rfl ?_ | refine wpFront_other rfl ?_); (first | go_big_quiet_step (fail) | quiet_step (fail)); refine wpQuiet_nil ?_)
          refine wpFront_nil ?_
          simp only [wpSegs]
          go_wp2_with fail
          refine segQ_normal (((Keeps.refl _ _).drew).alloc _) ?_
          have hSb := (HSa.out.drew).new TOp (opC o)
          simp only [Kw.red] at hSb
          refine wpList_appS 2 4 _ _ TOps TOp (.agg #[.int .i64 0, .int .i64 0, .int .i64 0, .int .i64 0]) 4 32 infoOp Tryz.underlying133 rfl (by decide) rfl rfl hSb rfl rfl rfl rfl rfl (by intro u hu; simp only [opC, List.mem_cons, List.not_mem_nil, or_false] at hu; rcases hu with rfl | rfl | rfl | rfl <;> rfl) (by omega) (by unfold maxLen; omega) (by omega) ?_
          intro g gc w7 hSc hat
          clear c0 c1 c2 c3 cz d0 d1 d2 d3 dz
          obtain ⟨c0, c1, c2, c3, cz⟩ := cells4 (hSc.blk 1)
          go_wp2_with fail
          refine NoPanic.normal ?_
          go_wp2_with fail
          have hSd := hSc.set 1 2 (.slice (some ⟨g, 0, none⟩) (ops.length + 1) gc)
          go_ret2
          refine .inr ⟨o, k, .slice (some ⟨g, 0, none⟩) (ops.length + 1) gc, rfl, hid ⟨Hone.out, by assumption⟩, ?_⟩
          have hSe := hSd.sub [0, 1, 2]
          simp only [Kw.red] at hSe
          rw [show opsC (ops ++ [o]) = opsC ops ++ opC o by simp [opsC], Hnop.out]
          exact hSe
        · have b2 : ((kind : Int) == 10) = false := by simp; omega
          have b3 : ((kind : Int) == 11) = false := by simp; omega
          have hno : nextOpen kind opn = opn := by unfold nextOpen; rw [if_neg hn10, if_neg hn11]
          have hSa := HS1.out
          simp only [Kw.red] at hSa
          rw [← hno] at hSa
          have HSa := hid hSa
          have Hone := hid (one_not HO.out hn10)
          clear hSa hno hn10 hn11
          go_wp2_with fail
          obtain ⟨c0, c1, c2, c3, cz⟩ := cells4 (HSa.out.blk 1)
          obtain ⟨d0, d1, d2, d3, dz⟩ := cells4 (HSa.out.blk 3)
          generalize hnop : nextOpen kind opn = nopn at *
          have Hnop := hid hnop
          clear hnop
          refine wp_region_mix [true, true, true, true, true, true, false, false, false, false, false] 1 (fun _ => False) (by kernel_rfl) (by decide +kernel) ?_
          simp only [front, back, List.take_succ_cons, List.take_zero, List.drop_succ_cons, List.drop_zero]
          repeat ((first | refine wpFront_load rfl ?_ | refine wpFront_other rfl ?_); (first | go_big_quiet_step (fail) | quiet_step (fail)); refine wpQuiet_nil ?_)
          refine wpFront_nil ?_
          simp only [wpSegs]
          go_wp2_with fail
          refine segQ_normal (((Keeps.refl _ _).drew).alloc _) ?_
          have hSb := (HSa.out.drew).new TOp (opC o)
          simp only [Kw.red] at hSb
          refine wpList_appS 2 4 _ _ TOps TOp (.agg #[.int .i64 0, .int .i64 0, .int .i64 0, .int .i64 0]) 4 32 infoOp Tryz.underlying133 rfl (by decide) rfl rfl hSb rfl rfl rfl rfl rfl (by intro u hu; simp only [opC, List.mem_cons, List.not_mem_nil, or_false] at hu; rcases hu with rfl | rfl | rfl | rfl <;> rfl) (by omega) (by unfold maxLen; omega) (by omega) ?_
          intro g gc w7 hSc hat
          clear c0 c1 c2 c3 cz d0 d1 d2 d3 dz
          obtain ⟨c0, c1, c2, c3, cz⟩ := cells4 (hSc.blk 1)
          go_wp2_with fail
          refine NoPanic.normal ?_
          go_wp2_with fail
          have hSd := hSc.set 1 2 (.slice (some ⟨g, 0, none⟩) (ops.length + 1) gc)
          go_ret2
          refine .inr ⟨o, k, .slice (some ⟨g, 0, none⟩) (ops.length + 1) gc, rfl, hid ⟨Hone.out, by assumption⟩, ?_⟩
          have hSe := hSd.sub [0, 1, 2]
          simp only [Kw.red] at hSe
          rw [show opsC (ops ++ [o]) = opsC ops ++ opC o by simp [opsC], Hnop.out]
          exact hSe
  · go_wp2_with fail
    have hL1 := (HS1.out.step ((Keeps.refl (fun _ => False) w1).alloc (.cells #[.string wv, .int .i64 2] TRow))).new TPI (ptrs ob [.r])
    rw [show (w1.alloc (.cells #[.string wv, .int .i64 2] TRow)).heap.size = w1.heap.size + 1 by simp] at hL1
    simp only [Kw.red] at hL1
    obtain ⟨lbo, hlbo, HL⟩ := HL.out _ [.r] _ rfl hL1
    have Hlbo := hid hlbo
    have Hlen := hid (show (places kind).length = 1 by rw [HP.out]; rfl)
    clear hL1 HS1 hlbo
    go_loopw [44] (fun x wr => ∃ (j : Nat) (o : Cm.Op) (k : Nat), j ≤ 1 ∧ x = .int .i64 j ∧ k ≤ s.size ∧ stage kind j o ∧ Hid (readF s.size (places kind) ⟨kind, 0, 0, 0⟩ (toksAt s.data.toList i) = readF s.size ((places kind).drop j) o (toksAt s.data.toList k)) ∧ St F w [glC W, .pt rb TRd [.string s, .int .i64 k, ov, .int .i64 opn], .row TOp 4 ov ops.length (opsC ops), .pt ob TOp (opC o), .lst TPI 1 lbo 1 (ptrs ob (places kind))] wr) (fun x _ => 1 - (intOf x).toNat)
    case atStart => exact ⟨0, ⟨kind, 0, 0, 0⟩, i, Nat.zero_le _, rfl, hi, ⟨rfl, .inl ⟨rfl, rfl⟩⟩, hid rfl, HL.out⟩
    case round =>
      clear HL
      obtain ⟨j, o, k, hj, rfl, hk, hst, HQ, hS⟩ := hrel
      have HS := hid hS
      have Hst := hid hst
      clear hS hst
      by_cases hlt : j < 1
      · have hpp := List.getElem?_eq_getElem (show j < (places kind).length by rw [Hlen.out]; exact hlt)
        generalize (places kind)[j]'(by rw [Hlen.out]; exact hlt) = p at *
        have Hpp := hid hpp
        have d0 := (HS.out.lst 4).src _ (by rw [Hlbo.out]; rfl) j (.pointer (some ⟨ob, offOf p, none⟩)) (by simp [ptrs, hpp])
        rw [add_at, Nat.zero_add] at d0
        have hdr : (places kind).drop j = p :: (places kind).drop (j + 1) := by
          rw [List.drop_eq_getElem_cons (by rw [Hlen.out]; exact hlt)]; congr 1; exact Option.some.inj ((List.getElem?_eq_getElem _).symm.trans hpp)
        have Hdr := hid hdr
        obtain ⟨q1, q2⟩ := stage_ok h1 h2 Hst.out hpp
        have Q1 := hid q1
        have Q2 := hid q2
        have i0 : (0 : Int) ≤ (j : Int) := by omega
        have i1 : (j : Int) < 1 := by omega
        have b1 : decide ((j : Int) < 1) = true := by simp; omega
        have hok := Hst.out.1
        have Hok := hid hok
        clear hpp hdr q1 q2 hok
        go_wp2_with fail
        obtain ⟨F1, g1, _, _, back⟩ := HS.out.sel [0, 1, 3]
        simp only [Kw.red] at g1
        refine (field_any hG p o g1 hk hs (by rw [Hok.out]; omega) (by rw [Hok.out]; omega) Q1.out Q2.out).mono ?_; rintro e w5 (⟨at_, e1, rfl, hr, hS5⟩ | ⟨o', k', rfl, hr, hS5⟩)
        · have hone : one s.size kind (toksAt s.data.toList i) = .err at_ e1 := by unfold one; rw [HQ.out, Hdr.out, readF_err hr.out.1]
          have b2 := hr.out.2
          have HE := hid ((back hS5).sub [0])
          have Hone := hid hone
          clear hone hS5 back g1 hr d0
          go_wp2_with fail
          go_ret2
          exact .inl ⟨_, _, rfl, hid ⟨Hone.out, b2⟩, HE.out⟩
        · have hS6 := back hS5
          simp only [Kw.red] at hS6
          have HS6 := hid hS6
          obtain ⟨m, hm, ho'⟩ := readF_put hr.out.1
          have hst' := stage_next Hst.out Hpp.out hm
          rw [← ho'] at hst'
          have HQ' := hid (show readF s.size (places kind) ⟨kind, 0, 0, 0⟩ (toksAt s.data.toList i) = readF s.size ((places kind).drop (j + 1)) o' (toksAt s.data.toList k') by rw [HQ.out, Hdr.out, readF_step hr.out.1])
          have hk' := hr.out.2
          have Hst' := hid hst'
          clear hS6 hS5 back g1 hr d0 ho' hm hst'
          go_wp2_with fail
          go_roundw
          case rel => exact ⟨j + 1, o', k', by omega, by go_num, hk', Hst'.out, HQ', HS6.out⟩
          case measure => simp [intOf]; omega
      · have hO : readF s.size (places kind) ⟨kind, 0, 0, 0⟩ (toksAt s.data.toList i) = .ok (o, toksAt s.data.toList k) := by
          rw [HQ.out, List.drop_eq_nil_of_le (by rw [Hlen.out]; omega)]; cases toksAt s.data.toList k <;> rfl
        have HO := hid hO
        have HS1 := hid (HS.out.sub [0, 1, 2, 3])
        have b1 : decide ((j : Int) < 1) = false := by simp <;> omega
        clear hO HS Hst HQ
        have hkc : kind = 10 ∨ kind = 11 ∨ (kind ≠ 10 ∧ kind ≠ 11) := by omega
        rcases hkc with hk10 | hk11 | ⟨hn10, hn11⟩
        · have b2 : ((kind : Int) == 10) = true := by simp; omega
          obtain ⟨j2, k2, wd, e1, e2, e3, hk2, hwd, hw⟩ := next_word hk
          have E := hid (And.intro e1 (And.intro e2 e3))
          have Hk10 := hid hk10
          clear e1 e2 e3 hk10
          go_wp2_with fail
          obtain ⟨F2, g2, _, back⟩ := HS1.out.at 1 rfl
          refine (word_any (Sts.one g2) hk hs).mono ?_; rintro e w6 ⟨rfl, hS6⟩
          have hS6 := back hS6
          rw [E.out.1, E.out.2.1, E.out.2.2]
          rw [E.out.2.1] at hS6
          simp only [Kw.red] at hS6
          have HS6 := hid hS6
          obtain ⟨c0, c1, c2, c3, cz⟩ := cells4 (hS6.blk 1)
          clear hS6 back g2
          rcases hw with ⟨hw, ht⟩ | ⟨hw, ht⟩
          · have b4 : (wd.toList == [123]) = false := by rw [ByteArray.toList_eq, hw]; rfl
            have b5 : (wd.toList == []) = true := by rw [ByteArray.toList_eq]; simpa using hw
            have Ht := hid ht
            clear hw ht
            go_wp2_with fail
            go_ret2
            exact .inl ⟨_, _, rfl, hid ⟨one_err HO.out Hk10.out (by rw [Ht.out]; rfl), rfl⟩, HS6.out.sub [0]⟩
          · by_cases hbr : wd.data.toList = [123]
            · have b4 : (wd.toList == [123]) = true := by rw [ByteArray.toList_eq]; simpa using hbr
              have Hone := hid (one_ok HO.out Hk10.out (ts2 := toksAt s.data.toList k2) (by rw [ht]; exact brace_yes hbr))
              clear hw ht hbr
              have hSa := HS6.out.set 1 3 (.int .i64 (opn + 1))
              simp only [Kw.red] at hSa
              have hno : nextOpen kind opn = opn + 1 := by unfold nextOpen; rw [if_pos Hk10.out]
              rw [← hno] at hSa
              have HSa := hid hSa
              have Hno := hid hno
              clear hSa hno HS6
              go_wp2_with fail
              rw [← Hno.out]
              generalize w6.setCell ⟨rb, 3, none⟩ (.int .i64 (nextOpen kind opn)) = wa at *
              clear c0 c1 c2 c3 cz
              obtain ⟨c0, c1, c2, c3, cz⟩ := cells4 (HSa.out.blk 1)
              obtain ⟨d0, d1, d2, d3, dz⟩ := cells4 (HSa.out.blk 3)
              generalize hnop : nextOpen kind opn = nopn at *
              have Hnop := hid hnop
              clear hnop
              refine wp_region_mix [true, true, true, true, true, true, false, false, false, false, false] 1 (fun _ => False) (by kernel_rfl) (by decide +kernel) ?_
              simp only [front, back, List.take_succ_cons, List.take_zero, List.drop_succ_cons, List.drop_zero]
              repeat ((first | refine wpFront_load rfl ?_ | refine wpFront_other rfl ?_); (first | go_big_quiet_step (fail) | quiet_step (fail)); refine wpQuiet_nil ?_)
              refine wpFront_nil ?_
              simp only [wpSegs]
              go_wp2_with fail
              refine segQ_normal (((Keeps.refl _ _).drew).alloc _) ?_
              have hSb := (HSa.out.drew).new TOp (opC o)
              simp only [Kw.red] at hSb
              refine wpList_appS 2 4 _ _ TOps TOp (.agg #[.int .i64 0, .int .i64 0, .int .i64 0, .int .i64 0]) 4 32 infoOp Tryz.underlying133 rfl (by decide) rfl rfl hSb rfl rfl rfl rfl rfl (by intro u hu; simp only [opC, List.mem_cons, List.not_mem_nil, or_false] at hu; rcases hu with rfl | rfl | rfl | rfl <;> rfl) (by omega) (by unfold maxLen; omega) (by omega) ?_
              intro g gc w7 hSc hat
              clear c0 c1 c2 c3 cz d0 d1 d2 d3 dz
              obtain ⟨c0, c1, c2, c3, cz⟩ := cells4 (hSc.blk 1)
              go_wp2_with fail
              refine NoPanic.normal ?_
              go_wp2_with fail
              have hSd := hSc.set 1 2 (.slice (some ⟨g, 0, none⟩) (ops.length + 1) gc)
              go_ret2
              refine .inr ⟨o, k2, .slice (some ⟨g, 0, none⟩) (ops.length + 1) gc, rfl, hid ⟨Hone.out, by assumption⟩, ?_⟩
              have hSe := hSd.sub [0, 1, 2]
              simp only [Kw.red] at hSe
              rw [show opsC (ops ++ [o]) = opsC ops ++ opC o by simp [opsC], Hnop.out]
              exact hSe
            · have b4 : (wd.toList == [123]) = false := by rw [ByteArray.toList_eq]; simpa using hbr
              have b5 : (wd.toList == []) = false := by rw [ByteArray.toList_eq]; simpa using hw
              have Hone := hid (one_err HO.out Hk10.out (i := j2) (e := 30) (by rw [ht]; exact brace_no hbr))
              clear hw ht hbr
              go_wp2_with fail
              go_ret2
              exact .inl ⟨_, _, rfl, hid ⟨Hone.out, rfl⟩, HS6.out.sub [0]⟩
        · have b2 : ((kind : Int) == 10) = false := by simp; omega
          have b3 : ((kind : Int) == 11) = true := by simp; omega
          obtain ⟨c0, c1, c2, c3, cz⟩ := cells4 (HS1.out.blk 1)
          have hSa := HS1.out.set 1 3 (.int .i64 (opn - 1))
          simp only [Kw.red] at hSa
          have hno : nextOpen kind opn = opn - 1 := by unfold nextOpen; rw [if_neg (by omega), if_pos hk11]
          rw [← hno] at hSa
          have HSa := hid hSa
          have Hno := hid hno
          have Hone := hid (one_not HO.out (by omega))
          clear hSa hno hk11
          go_wp2_with fail
          rw [← Hno.out]
          generalize wr.setCell ⟨rb, 3, none⟩ (.int .i64 (nextOpen kind opn)) = wa at *
          obtain ⟨c0, c1, c2, c3, cz⟩ := cells4 (HSa.out.blk 1)
          obtain ⟨d0, d1, d2, d3, dz⟩ := cells4 (HSa.out.blk 3)
          generalize hnop : nextOpen kind opn = nopn at *
          have Hnop := hid hnop
          clear hnop
          refine wp_region_mix [true, true, true, true, true, true, false, false, false, false, false] 1 (fun _ => False) (by kernel_rfl) (by decide +kernel) ?_
          simp only [front, back, List.take_succ_cons, List.take_zero, List.drop_succ_cons, List.drop_zero]
          repeat ((first | refine wpFront_load rfl ?_ | refine wpFront_other rfl ?_); (first | go_big_quiet_step (fail) | quiet_step (fail)); refine wpQuiet_nil ?_)
          refine wpFront_nil ?_
          simp only [wpSegs]
          go_wp2_with fail
          refine segQ_normal (((Keeps.refl _ _).drew).alloc _) ?_
          have hSb := (HSa.out.drew).new TOp (opC o)
          simp only [Kw.red] at hSb
          refine wpList_appS 2 4 _ _ TOps TOp (.agg #[.int .i64 0, .int .i64 0, .int .i64 0, .int .i64 0]) 4 32 infoOp Tryz.underlying133 rfl (by decide) rfl rfl hSb rfl rfl rfl rfl rfl (by intro u hu; simp only [opC, List.mem_cons, List.not_mem_nil, or_false] at hu; rcases hu with rfl | rfl | rfl | rfl <;> rfl) (by omega) (by unfold maxLen; omega) (by omega) ?_
          intro g gc w7 hSc hat
          clear c0 c1 c2 c3 cz d0 d1 d2 d3 dz
          obtain ⟨c0, c1, c2, c3, cz⟩ := cells4 (hSc.blk 1)
          go_wp2_with fail
          refine NoPanic.normal ?_
          go_wp2_with fail
          have hSd := hSc.set 1 2 (.slice (some ⟨g, 0, none⟩) (ops.length + 1) gc)
          go_ret2
          refine .inr ⟨o, k, .slice (some ⟨g, 0, none⟩) (ops.length + 1) gc, rfl, hid ⟨Hone.out, by assumption⟩, ?_⟩
          have hSe := hSd.sub [0, 1, 2]
          simp only [Kw.red] at hSe
          rw [show opsC (ops ++ [o]) = opsC ops ++ opC o by simp [opsC], Hnop.out]
          exact hSe
        · have b2 : ((kind : Int) == 10) = false := by simp; omega
          have b3 : ((kind : Int) == 11) = false := by simp; omega
          have hno : nextOpen kind opn = opn := by unfold nextOpen; rw [if_neg hn10, if_neg hn11]
          have hSa := HS1.out
          simp only [Kw.red] at hSa
          rw [← hno] at hSa
          have HSa := hid hSa
          have Hone := hid (one_not HO.out hn10)
          clear hSa hno hn10 hn11
          go_wp2_with fail
          obtain ⟨c0, c1, c2, c3, cz⟩ := cells4 (HSa.out.blk 1)
          obtain ⟨d0, d1, d2, d3, dz⟩ := cells4 (HSa.out.blk 3)
          generalize hnop : nextOpen kind opn = nopn at *
          have Hnop := hid hnop
          clear hnop
          refine wp_region_mix [true, true, true, true, true, true, false, false, false, false, false] 1 (fun _ => False) (by kernel_rfl) (by decide +kernel) ?_
          simp only [front, back, List.take_succ_cons, List.take_zero, List.drop_succ_cons, List.drop_zero]
          repeat ((first | refine wpFront_load rfl ?_ | refine wpFront_other rfl ?_); (first | go_big_quiet_step (fail) | quiet_step (fail)); refine wpQuiet_nil ?_)
          refine wpFront_nil ?_
          simp only [wpSegs]
          go_wp2_with fail
          refine segQ_normal (((Keeps.refl _ _).drew).alloc _) ?_
          have hSb := (HSa.out.drew).new TOp (opC o)
          simp only [Kw.red] at hSb
          refine wpList_appS 2 4 _ _ TOps TOp (.agg #[.int .i64 0, .int .i64 0, .int .i64 0, .int .i64 0]) 4 32 infoOp Tryz.underlying133 rfl (by decide) rfl rfl hSb rfl rfl rfl rfl rfl (by intro u hu; simp only [opC, List.mem_cons, List.not_mem_nil, or_false] at hu; rcases hu with rfl | rfl | rfl | rfl <;> rfl) (by omega) (by unfold maxLen; omega) (by omega) ?_
          intro g gc w7 hSc hat
          clear c0 c1 c2 c3 cz d0 d1 d2 d3 dz
          obtain ⟨c0, c1, c2, c3, cz⟩ := cells4 (hSc.blk 1)
          go_wp2_with fail
          refine NoPanic.normal ?_
          go_wp2_with fail
          have hSd := hSc.set 1 2 (.slice (some ⟨g, 0, none⟩) (ops.length + 1) gc)
          go_ret2
          refine .inr ⟨o, k, .slice (some ⟨g, 0, none⟩) (ops.length + 1) gc, rfl, hid ⟨Hone.out, by assumption⟩, ?_⟩
          have hSe := hSd.sub [0, 1, 2]
          simp only [Kw.red] at hSe
          rw [show opsC (ops ++ [o]) = opsC ops ++ opC o by simp [opsC], Hnop.out]
          exact hSe
  · go_wp2_with fail
    have hL1 := (HS1.out.step ((Keeps.refl (fun _ => False) w1).alloc (.cells #[.string wv, .int .i64 3] TRow))).new TPI (ptrs ob [.v])
    rw [show (w1.alloc (.cells #[.string wv, .int .i64 3] TRow)).heap.size = w1.heap.size + 1 by simp] at hL1
    simp only [Kw.red] at hL1
    obtain ⟨lbo, hlbo, HL⟩ := HL.out _ [.v] _ rfl hL1
    have Hlbo := hid hlbo
    have Hlen := hid (show (places kind).length = 1 by rw [HP.out]; rfl)
    clear hL1 HS1 hlbo
    go_loopw [44] (fun x wr => ∃ (j : Nat) (o : Cm.Op) (k : Nat), j ≤ 1 ∧ x = .int .i64 j ∧ k ≤ s.size ∧ stage kind j o ∧ Hid (readF s.size (places kind) ⟨kind, 0, 0, 0⟩ (toksAt s.data.toList i) = readF s.size ((places kind).drop j) o (toksAt s.data.toList k)) ∧ St F w [glC W, .pt rb TRd [.string s, .int .i64 k, ov, .int .i64 opn], .row TOp 4 ov ops.length (opsC ops), .pt ob TOp (opC o), .lst TPI 1 lbo 1 (ptrs ob (places kind))] wr) (fun x _ => 1 - (intOf x).toNat)
    case atStart => exact ⟨0, ⟨kind, 0, 0, 0⟩, i, Nat.zero_le _, rfl, hi, ⟨rfl, .inl ⟨rfl, rfl⟩⟩, hid rfl, HL.out⟩
    case round =>
      clear HL
      obtain ⟨j, o, k, hj, rfl, hk, hst, HQ, hS⟩ := hrel
      have HS := hid hS
      have Hst := hid hst
      clear hS hst
      by_cases hlt : j < 1
      · have hpp := List.getElem?_eq_getElem (show j < (places kind).length by rw [Hlen.out]; exact hlt)
        generalize (places kind)[j]'(by rw [Hlen.out]; exact hlt) = p at *
        have Hpp := hid hpp
        have d0 := (HS.out.lst 4).src _ (by rw [Hlbo.out]; rfl) j (.pointer (some ⟨ob, offOf p, none⟩)) (by simp [ptrs, hpp])
        rw [add_at, Nat.zero_add] at d0
        have hdr : (places kind).drop j = p :: (places kind).drop (j + 1) := by
          rw [List.drop_eq_getElem_cons (by rw [Hlen.out]; exact hlt)]; congr 1; exact Option.some.inj ((List.getElem?_eq_getElem _).symm.trans hpp)
        have Hdr := hid hdr
        obtain ⟨q1, q2⟩ := stage_ok h1 h2 Hst.out hpp
        have Q1 := hid q1
        have Q2 := hid q2
        have i0 : (0 : Int) ≤ (j : Int) := by omega
        have i1 : (j : Int) < 1 := by omega
        have b1 : decide ((j : Int) < 1) = true := by simp; omega
        have hok := Hst.out.1
        have Hok := hid hok
        clear hpp hdr q1 q2 hok
        go_wp2_with fail
        obtain ⟨F1, g1, _, _, back⟩ := HS.out.sel [0, 1, 3]
        simp only [Kw.red] at g1
        refine (field_any hG p o g1 hk hs (by rw [Hok.out]; omega) (by rw [Hok.out]; omega) Q1.out Q2.out).mono ?_; rintro e w5 (⟨at_, e1, rfl, hr, hS5⟩ | ⟨o', k', rfl, hr, hS5⟩)
        · have hone : one s.size kind (toksAt s.data.toList i) = .err at_ e1 := by unfold one; rw [HQ.out, Hdr.out, readF_err hr.out.1]
          have b2 := hr.out.2
          have HE := hid ((back hS5).sub [0])
          have Hone := hid hone
          clear hone hS5 back g1 hr d0
          go_wp2_with fail
          go_ret2
          exact .inl ⟨_, _, rfl, hid ⟨Hone.out, b2⟩, HE.out⟩
        · have hS6 := back hS5
          simp only [Kw.red] at hS6
          have HS6 := hid hS6
          obtain ⟨m, hm, ho'⟩ := readF_put hr.out.1
          have hst' := stage_next Hst.out Hpp.out hm
          rw [← ho'] at hst'
          have HQ' := hid (show readF s.size (places kind) ⟨kind, 0, 0, 0⟩ (toksAt s.data.toList i) = readF s.size ((places kind).drop (j + 1)) o' (toksAt s.data.toList k') by rw [HQ.out, Hdr.out, readF_step hr.out.1])
          have hk' := hr.out.2
          have Hst' := hid hst'
          clear hS6 hS5 back g1 hr d0 ho' hm hst'
          go_wp2_with fail
          go_roundw
          case rel => exact ⟨j + 1, o', k', by omega, by go_num, hk', Hst'.out, HQ', HS6.out⟩
          case measure => simp [intOf]; omega
      · have hO : readF s.size (places kind) ⟨kind, 0, 0, 0⟩ (toksAt s.data.toList i) = .ok (o, toksAt s.data.toList k) := by
          rw [HQ.out, List.drop_eq_nil_of_le (by rw [Hlen.out]; omega)]; cases toksAt s.data.toList k <;> rfl
        have HO := hid hO
        have HS1 := hid (HS.out.sub [0, 1, 2, 3])
        have b1 : decide ((j : Int) < 1) = false := by simp <;> omega
        clear hO HS Hst HQ
        have hkc : kind = 10 ∨ kind = 11 ∨ (kind ≠ 10 ∧ kind ≠ 11) := by omega
        rcases hkc with hk10 | hk11 | ⟨hn10, hn11⟩
        · have b2 : ((kind : Int) == 10) = true := by simp; omega
          obtain ⟨j2, k2, wd, e1, e2, e3, hk2, hwd, hw⟩ := next_word hk
          have E := hid (And.intro e1 (And.intro e2 e3))
          have Hk10 := hid hk10
          clear e1 e2 e3 hk10
          go_wp2_with fail
          obtain ⟨F2, g2, _, back⟩ := HS1.out.at 1 rfl
          refine (word_any (Sts.one g2) hk hs).mono ?_; rintro e w6 ⟨rfl, hS6⟩
          have hS6 := back hS6
          rw [E.out.1, E.out.2.1, E.out.2.2]
          rw [E.out.2.1] at hS6
          simp only [Kw.red] at hS6
          have HS6 := hid hS6
          obtain ⟨c0, c1, c2, c3, cz⟩ := cells4 (hS6.blk 1)
          clear hS6 back g2
          rcases hw with ⟨hw, ht⟩ | ⟨hw, ht⟩
          · have b4 : (wd.toList == [123]) = false := by rw [ByteArray.toList_eq, hw]; rfl
            have b5 : (wd.toList == []) = true := by rw [ByteArray.toList_eq]; simpa using hw
            have Ht := hid ht
            clear hw ht
            go_wp2_with fail
            go_ret2
            exact .inl ⟨_, _, rfl, hid ⟨one_err HO.out Hk10.out (by rw [Ht.out]; rfl), rfl⟩, HS6.out.sub [0]⟩
          · by_cases hbr : wd.data.toList = [123]
            · have b4 : (wd.toList == [123]) = true := by rw [ByteArray.toList_eq]; simpa using hbr
              have Hone := hid (one_ok HO.out Hk10.out (ts2 := toksAt s.data.toList k2) (by rw [ht]; exact brace_yes hbr))
              clear hw ht hbr
              have hSa := HS6.out.set 1 3 (.int .i64 (opn + 1))
              simp only [Kw.red] at hSa
              have hno : nextOpen kind opn = opn + 1 := by unfold nextOpen; rw [if_pos Hk10.out]
              rw [← hno] at hSa
              have HSa := hid hSa
              have Hno := hid hno
              clear hSa hno HS6
              go_wp2_with fail
              rw [← Hno.out]
              generalize w6.setCell ⟨rb, 3, none⟩ (.int .i64 (nextOpen kind opn)) = wa at *
              clear c0 c1 c2 c3 cz
              obtain ⟨c0, c1, c2, c3, cz⟩ := cells4 (HSa.out.blk 1)
              obtain ⟨d0, d1, d2, d3, dz⟩ := cells4 (HSa.out.blk 3)
              generalize hnop : nextOpen kind opn = nopn at *
              have Hnop := hid hnop
              clear hnop
              refine wp_region_mix [true, true, true, true, true, true, false, false, false, false, false] 1 (fun _ => False) (by kernel_rfl) (by decide +kernel) ?_
              simp only [front, back, List.take_succ_cons, List.take_zero, List.drop_succ_cons, List.drop_zero]
              repeat ((first | refine wpFront_load rfl ?_ | refine wpFront_other rfl ?_); (first | go_big_quiet_step (fail) | quiet_step (fail)); refine wpQuiet_nil ?_)
              refine wpFront_nil ?_
              simp only [wpSegs]
              go_wp2_with fail
              refine segQ_normal (((Keeps.refl _ _).drew).alloc _) ?_
              have hSb := (HSa.out.drew).new TOp (opC o)
              simp only [Kw.red] at hSb
              refine wpList_appS 2 4 _ _ TOps TOp (.agg #[.int .i64 0, .int .i64 0, .int .i64 0, .int .i64 0]) 4 32 infoOp Tryz.underlying133 rfl (by decide) rfl rfl hSb rfl rfl rfl rfl rfl (by intro u hu; simp only [opC, List.mem_cons, List.not_mem_nil, or_false] at hu; rcases hu with rfl | rfl | rfl | rfl <;> rfl) (by omega) (by unfold maxLen; omega) (by omega) ?_
              intro g gc w7 hSc hat
              clear c0 c1 c2 c3 cz d0 d1 d2 d3 dz
              obtain ⟨c0, c1, c2, c3, cz⟩ := cells4 (hSc.blk 1)
              go_wp2_with fail
              refine NoPanic.normal ?_
              go_wp2_with fail
              have hSd := hSc.set 1 2 (.slice (some ⟨g, 0, none⟩) (ops.length + 1) gc)
              go_ret2
              refine .inr ⟨o, k2, .slice (some ⟨g, 0, none⟩) (ops.length + 1) gc, rfl, hid ⟨Hone.out, by assumption⟩, ?_⟩
              have hSe := hSd.sub [0, 1, 2]
              simp only [Kw.red] at hSe
              rw [show opsC (ops ++ [o]) = opsC ops ++ opC o by simp [opsC], Hnop.out]
              exact hSe
            · have b4 : (wd.toList == [123]) = false := by rw [ByteArray.toList_eq]; simpa using hbr
              have b5 : (wd.toList == []) = false := by rw [ByteArray.toList_eq]; simpa using hw
              have Hone := hid (one_err HO.out Hk10.out (i := j2) (e := 30) (by rw [ht]; exact brace_no hbr))
              clear hw ht hbr
              go_wp2_with fail
              go_ret2
              exact .inl ⟨_, _, rfl, hid ⟨Hone.out, rfl⟩, HS6.out.sub [0]⟩
        · have b2 : ((kind : Int) == 10) = false := by simp; omega
          have b3 : ((kind : Int) == 11) = true := by simp; omega
          obtain ⟨c0, c1, c2, c3, cz⟩ := cells4 (HS1.out.blk 1)
          have hSa := HS1.out.set 1 3 (.int .i64 (opn - 1))
          simp only [Kw.red] at hSa
          have hno : nextOpen kind opn = opn - 1 := by unfold nextOpen; rw [if_neg (by omega), if_pos hk11]
          rw [← hno] at hSa
          have HSa := hid hSa
          have Hno := hid hno
          have Hone := hid (one_not HO.out (by omega))
          clear hSa hno hk11
          go_wp2_with fail
          rw [← Hno.out]
          generalize wr.setCell ⟨rb, 3, none⟩ (.int .i64 (nextOpen kind opn)) = wa at *
          obtain ⟨c0, c1, c2, c3, cz⟩ := cells4 (HSa.out.blk 1)
          obtain ⟨d0, d1, d2, d3, dz⟩ := cells4 (HSa.out.blk 3)
          generalize hnop : nextOpen kind opn = nopn at *
          have Hnop := hid hnop
          clear hnop
          refine wp_region_mix [true, true, true, true, true, true, false, false, false, false, false] 1 (fun _ => False) (by kernel_rfl) (by decide +kernel) ?_
          simp only [front, back, List.take_succ_cons, List.take_zero, List.drop_succ_cons, List.drop_zero]
          repeat ((first | refine wpFront_load rfl ?_ | refine wpFront_other rfl ?_); (first | go_big_quiet_step (fail) | quiet_step (fail)); refine wpQuiet_nil ?_)
          refine wpFront_nil ?_
          simp only [wpSegs]
          go_wp2_with fail
          refine segQ_normal (((Keeps.refl _ _).drew).alloc _) ?_
          have hSb := (HSa.out.drew).new TOp (opC o)
          simp only [Kw.red] at hSb
          refine wpList_appS 2 4 _ _ TOps TOp (.agg #[.int .i64 0, .int .i64 0, .int .i64 0, .int .i64 0]) 4 32 infoOp Tryz.underlying133 rfl (by decide) rfl rfl hSb rfl rfl rfl rfl rfl (by intro u hu; simp only [opC, List.mem_cons, List.not_mem_nil, or_false] at hu; rcases hu with rfl | rfl | rfl | rfl <;> rfl) (by omega) (by unfold maxLen; omega) (by omega) ?_
          intro g gc w7 hSc hat
          clear c0 c1 c2 c3 cz d0 d1 d2 d3 dz
          obtain ⟨c0, c1, c2, c3, cz⟩ := cells4 (hSc.blk 1)
          go_wp2_with fail
          refine NoPanic.normal ?_
          go_wp2_with fail
          have hSd := hSc.set 1 2 (.slice (some ⟨g, 0, none⟩) (ops.length + 1) gc)
          go_ret2
          refine .inr ⟨o, k, .slice (some ⟨g, 0, none⟩) (ops.length + 1) gc, rfl, hid ⟨Hone.out, by assumption⟩, ?_⟩
          have hSe := hSd.sub [0, 1, 2]
          simp only [Kw.red] at hSe
          rw [show opsC (ops ++ [o]) = opsC ops ++ opC o by simp [opsC], Hnop.out]
          exact hSe
        · have b2 : ((kind : Int) == 10) = false := by simp; omega
          have b3 : ((kind : Int) == 11) = false := by simp; omega
          have hno : nextOpen kind opn = opn := by unfold nextOpen; rw [if_neg hn10, if_neg hn11]
          have hSa := HS1.out
          simp only [Kw.red] at hSa
          rw [← hno] at hSa
          have HSa := hid hSa
          have Hone := hid (one_not HO.out hn10)
          clear hSa hno hn10 hn11
          go_wp2_with fail
          obtain ⟨c0, c1, c2, c3, cz⟩ := cells4 (HSa.out.blk 1)
          obtain ⟨d0, d1, d2, d3, dz⟩ := cells4 (HSa.out.blk 3)
          generalize hnop : nextOpen kind opn = nopn at *
          have Hnop := hid hnop
          clear hnop
          refine wp_region_mix [true, true, true, true, true, true, false, false, false, false, false] 1 (fun _ => False) (by kernel_rfl) (by decide +kernel) ?_
          simp only [front, back, List.take_succ_cons, List.take_zero, List.drop_succ_cons, List.drop_zero]
          repeat ((first | refine wpFront_load rfl ?_ | refine wpFront_other rfl ?_); (first | go_big_quiet_step (fail) | quiet_step (fail)); refine wpQuiet_nil ?_)
          refine wpFront_nil ?_
          simp only [wpSegs]
          go_wp2_with fail
          refine segQ_normal (((Keeps.refl _ _).drew).alloc _) ?_
          have hSb := (HSa.out.drew).new TOp (opC o)
          simp only [Kw.red] at hSb
          refine wpList_appS 2 4 _ _ TOps TOp (.agg #[.int .i64 0, .int .i64 0, .int .i64 0, .int .i64 0]) 4 32 infoOp Tryz.underlying133 rfl (by decide) rfl rfl hSb rfl rfl rfl rfl rfl (by intro u hu; simp only [opC, List.mem_cons, List.not_mem_nil, or_false] at hu; rcases hu with rfl | rfl | rfl | rfl <;> rfl) (by omega) (by unfold maxLen; omega) (by omega) ?_
          intro g gc w7 hSc hat
          clear c0 c1 c2 c3 cz d0 d1 d2 d3 dz
          obtain ⟨c0, c1, c2, c3, cz⟩ := cells4 (hSc.blk 1)
          go_wp2_with fail
          refine NoPanic.normal ?_
          go_wp2_with fail
          have hSd := hSc.set 1 2 (.slice (some ⟨g, 0, none⟩) (ops.length + 1) gc)
          go_ret2
          refine .inr ⟨o, k, .slice (some ⟨g, 0, none⟩) (ops.length + 1) gc, rfl, hid ⟨Hone.out, by assumption⟩, ?_⟩
          have hSe := hSd.sub [0, 1, 2]
          simp only [Kw.red] at hSe
          rw [show opsC (ops ++ [o]) = opsC ops ++ opC o by simp [opsC], Hnop.out]
          exact hSe
  · go_wp2_with fail
    have hL1 := (HS1.out.step ((Keeps.refl (fun _ => False) w1).alloc (.cells #[.string wv, .int .i64 4] TRow))).new TPI (ptrs ob [.s])
    rw [show (w1.alloc (.cells #[.string wv, .int .i64 4] TRow)).heap.size = w1.heap.size + 1 by simp] at hL1
    simp only [Kw.red] at hL1
    obtain ⟨lbo, hlbo, HL⟩ := HL.out _ [.s] _ rfl hL1
    have Hlbo := hid hlbo
    have Hlen := hid (show (places kind).length = 1 by rw [HP.out]; rfl)
    clear hL1 HS1 hlbo
    go_loopw [44] (fun x wr => ∃ (j : Nat) (o : Cm.Op) (k : Nat), j ≤ 1 ∧ x = .int .i64 j ∧ k ≤ s.size ∧ stage kind j o ∧ Hid (readF s.size (places kind) ⟨kind, 0, 0, 0⟩ (toksAt s.data.toList i) = readF s.size ((places kind).drop j) o (toksAt s.data.toList k)) ∧ St F w [glC W, .pt rb TRd [.string s, .int .i64 k, ov, .int .i64 opn], .row TOp 4 ov ops.length (opsC ops), .pt ob TOp (opC o), .lst TPI 1 lbo 1 (ptrs ob (places kind))] wr) (fun x _ => 1 - (intOf x).toNat)
    case atStart => exact ⟨0, ⟨kind, 0, 0, 0⟩, i, Nat.zero_le _, rfl, hi, ⟨rfl, .inl ⟨rfl, rfl⟩⟩, hid rfl, HL.out⟩
    case round =>
      clear HL
      obtain ⟨j, o, k, hj, rfl, hk, hst, HQ, hS⟩ := hrel
      have HS := hid hS
      have Hst := hid hst
      clear hS hst
      by_cases hlt : j < 1
      · have hpp := List.getElem?_eq_getElem (show j < (places kind).length by rw [Hlen.out]; exact hlt)
        generalize (places kind)[j]'(by rw [Hlen.out]; exact hlt) = p at *
        have Hpp := hid hpp
        have d0 := (HS.out.lst 4).src _ (by rw [Hlbo.out]; rfl) j (.pointer (some ⟨ob, offOf p, none⟩)) (by simp [ptrs, hpp])
        rw [add_at, Nat.zero_add] at d0
        have hdr : (places kind).drop j = p :: (places kind).drop (j + 1) := by
          rw [List.drop_eq_getElem_cons (by rw [Hlen.out]; exact hlt)]; congr 1; exact Option.some.inj ((List.getElem?_eq_getElem _).symm.trans hpp)
        have Hdr := hid hdr
        obtain ⟨q1, q2⟩ := stage_ok h1 h2 Hst.out hpp
        have Q1 := hid q1
        have Q2 := hid q2
        have i0 : (0 : Int) ≤ (j : Int) := by omega
        have i1 : (j : Int) < 1 := by omega
        have b1 : decide ((j : Int) < 1) = true := by simp; omega
        have hok := Hst.out.1
        have Hok := hid hok
        clear hpp hdr q1 q2 hok
        go_wp2_with fail
        obtain ⟨F1, g1, _, _, back⟩ := HS.out.sel [0, 1, 3]
        simp only [Kw.red] at g1
        refine (field_any hG p o g1 hk hs (by rw [Hok.out]; omega) (by rw [Hok.out]; omega) Q1.out Q2.out).mono ?_; rintro e w5 (⟨at_, e1, rfl, hr, hS5⟩ | ⟨o', k', rfl, hr, hS5⟩)
        · have hone : one s.size kind (toksAt s.data.toList i) = .err at_ e1 := by unfold one; rw [HQ.out, Hdr.out, readF_err hr.out.1]
          have b2 := hr.out.2
          have HE := hid ((back hS5).sub [0])
          have Hone := hid hone
          clear hone hS5 back g1 hr d0
          go_wp2_with fail
          go_ret2
          exact .inl ⟨_, _, rfl, hid ⟨Hone.out, b2⟩, HE.out⟩
        · have hS6 := back hS5
          simp only [Kw.red] at hS6
          have HS6 := hid hS6
          obtain ⟨m, hm, ho'⟩ := readF_put hr.out.1
          have hst' := stage_next Hst.out Hpp.out hm
          rw [← ho'] at hst'
          have HQ' := hid (show readF s.size (places kind) ⟨kind, 0, 0, 0⟩ (toksAt s.data.toList i) = readF s.size ((places kind).drop (j + 1)) o' (toksAt s.data.toList k') by rw [HQ.out, Hdr.out, readF_step hr.out.1])
          have hk' := hr.out.2
          have Hst' := hid hst'
          clear hS6 hS5 back g1 hr d0 ho' hm hst'
          go_wp2_with fail
          go_roundw
          case rel => exact ⟨j + 1, o', k', by omega, by go_num, hk', Hst'.out, HQ', HS6.out⟩
          case measure => simp [intOf]; omega
      · have hO : readF s.size (places kind) ⟨kind, 0, 0, 0⟩ (toksAt s.data.toList i) = .ok (o, toksAt s.data.toList k) := by
          rw [HQ.out, List.drop_eq_nil_of_le (by rw [Hlen.out]; omega)]; cases toksAt s.data.toList k <;> rfl
        have HO := hid hO
        have HS1 := hid (HS.out.sub [0, 1, 2, 3])
        have b1 : decide ((j : Int) < 1) = false := by simp <;> omega
        clear hO HS Hst HQ
        have hkc : kind = 10 ∨ kind = 11 ∨ (kind ≠ 10 ∧ kind ≠ 11) := by omega
        rcases hkc with hk10 | hk11 | ⟨hn10, hn11⟩
        · have b2 : ((kind : Int) == 10) = true := by simp; omega
          obtain ⟨j2, k2, wd, e1, e2, e3, hk2, hwd, hw⟩ := next_word hk
          have E := hid (And.intro e1 (And.intro e2 e3))
          have Hk10 := hid hk10
          clear e1 e2 e3 hk10
          go_wp2_with fail
          obtain ⟨F2, g2, _, back⟩ := HS1.out.at 1 rfl
          refine (word_any (Sts.one g2) hk hs).mono ?_; rintro e w6 ⟨rfl, hS6⟩
          have hS6 := back hS6
          rw [E.out.1, E.out.2.1, E.out.2.2]
          rw [E.out.2.1] at hS6
          simp only [Kw.red] at hS6
          have HS6 := hid hS6
          obtain ⟨c0, c1, c2, c3, cz⟩ := cells4 (hS6.blk 1)
          clear hS6 back g2
          rcases hw with ⟨hw, ht⟩ | ⟨hw, ht⟩
          · have b4 : (wd.toList == [123]) = false := by rw [ByteArray.toList_eq, hw]; rfl
            have b5 : (wd.toList == []) = true := by rw [ByteArray.toList_eq]; simpa using hw
            have Ht := hid ht
            clear hw ht
            go_wp2_with fail
            go_ret2
            exact .inl ⟨_, _, rfl, hid ⟨one_err HO.out Hk10.out (by rw [Ht.out]; rfl), rfl⟩, HS6.out.sub [0]⟩
          · by_cases hbr : wd.data.toList = [123]
            · have b4 : (wd.toList == [123]) = true := by rw [ByteArray.toList_eq]; simpa using hbr
              have Hone := hid (one_ok HO.out Hk10.out (ts2 := toksAt s.data.toList k2) (by rw [ht]; exact brace_yes hbr))
              clear hw ht hbr
              have hSa := HS6.out.set 1 3 (.int .i64 (opn + 1))
              simp only [Kw.red] at hSa
              have hno : nextOpen kind opn = opn + 1 := by unfold nextOpen; rw [if_pos Hk10.out]
              rw [← hno] at hSa
              have HSa := hid hSa
              have Hno := hid hno
              clear hSa hno HS6
              go_wp2_with fail
              rw [← Hno.out]
              generalize w6.setCell ⟨rb, 3, none⟩ (.int .i64 (nextOpen kind opn)) = wa at *
              clear c0 c1 c2 c3 cz
              obtain ⟨c0, c1, c2, c3, cz⟩ := cells4 (HSa.out.blk 1)
              obtain ⟨d0, d1, d2, d3, dz⟩ := cells4 (HSa.out.blk 3)
              generalize hnop : nextOpen kind opn = nopn at *
              have Hnop := hid hnop
              clear hnop
              refine wp_region_mix [true, true, true, true, true, true, false, false, false, false, false] 1 (fun _ => False) (by kernel_rfl) (by decide +kernel) ?_
              simp only [front, back, List.take_succ_cons, List.take_zero, List.drop_succ_cons, List.drop_zero]
              repeat ((first | refine wpFront_load rfl ?_ | refine wpFront_other rfl ?_); (first | go_big_quiet_step (fail) | quiet_step (fail)); refine wpQuiet_nil ?_)
              refine wpFront_nil ?_
              simp only [wpSegs]
              go_wp2_with fail
              refine segQ_normal (((Keeps.refl _ _).drew).alloc _) ?_
              have hSb := (HSa.out.drew).new TOp (opC o)
              simp only [Kw.red] at hSb
              refine wpList_appS 2 4 _ _ TOps TOp (.agg #[.int .i64 0, .int .i64 0, .int .i64 0, .int .i64 0]) 4 32 infoOp Tryz.underlying133 rfl (by decide) rfl rfl hSb rfl rfl rfl rfl rfl (by intro u hu; simp only [opC, List.mem_cons, List.not_mem_nil, or_false] at hu; rcases hu with rfl | rfl | rfl | rfl <;> rfl) (by omega) (by unfold maxLen; omega) (by omega) ?_
              intro g gc w7 hSc hat
              clear c0 c1 c2 c3 cz d0 d1 d2 d3 dz
              obtain ⟨c0, c1, c2, c3, cz⟩ := cells4 (hSc.blk 1)
              go_wp2_with fail
              refine NoPanic.normal ?_
              go_wp2_with fail
              have hSd := hSc.set 1 2 (.slice (some ⟨g, 0, none⟩) (ops.length + 1) gc)
              go_ret2
              refine .inr ⟨o, k2, .slice (some ⟨g, 0, none⟩) (ops.length + 1) gc, rfl, hid ⟨Hone.out, by assumption⟩, ?_⟩
              have hSe := hSd.sub [0, 1, 2]
              simp only [Kw.red] at hSe
              rw [show opsC (ops ++ [o]) = opsC ops ++ opC o by simp [opsC], Hnop.out]
              exact hSe
            · have b4 : (wd.toList == [123]) = false := by rw [ByteArray.toList_eq]; simpa using hbr
              have b5 : (wd.toList == []) = false := by rw [ByteArray.toList_eq]; simpa using hw
              have Hone := hid (one_err HO.out Hk10.out (i := j2) (e := 30) (by rw [ht]; exact brace_no hbr))
              clear hw ht hbr
              go_wp2_with fail
              go_ret2
              exact .inl ⟨_, _, rfl, hid ⟨Hone.out, rfl⟩, HS6.out.sub [0]⟩
        · have b2 : ((kind : Int) == 10) = false := by simp; omega
          have b3 : ((kind : Int) == 11) = true := by simp; omega
          obtain ⟨c0, c1, c2, c3, cz⟩ := cells4 (HS1.out.blk 1)
          have hSa := HS1.out.set 1 3 (.int .i64 (opn - 1))
          simp only [Kw.red] at hSa
          have hno : nextOpen kind opn = opn - 1 := by unfold nextOpen; rw [if_neg (by omega), if_pos hk11]
          rw [← hno] at hSa
          have HSa := hid hSa
          have Hno := hid hno
          have Hone := hid (one_not HO.out (by omega))
          clear hSa hno hk11
          go_wp2_with fail
          rw [← Hno.out]
          generalize wr.setCell ⟨rb, 3, none⟩ (.int .i64 (nextOpen kind opn)) = wa at *
          obtain ⟨c0, c1, c2, c3, cz⟩ := cells4 (HSa.out.blk 1)
          obtain ⟨d0, d1, d2, d3, dz⟩ := cells4 (HSa.out.blk 3)
          generalize hnop : nextOpen kind opn = nopn at *
          have Hnop := hid hnop
          clear hnop
          refine wp_region_mix [true, true, true, true, true, true, false, false, false, false, false] 1 (fun _ => False) (by kernel_rfl) (by decide +kernel) ?_
          simp only [front, back, List.take_succ_cons, List.take_zero, List.drop_succ_cons, List.drop_zero]
          repeat ((first | refine wpFront_load rfl ?_ | refine wpFront_other rfl ?_); (first | go_big_quiet_step (fail) | quiet_step (fail)); refine wpQuiet_nil ?_)
          refine wpFront_nil ?_
          simp only [wpSegs]
          go_wp2_with fail
          refine segQ_normal (((Keeps.refl _ _).drew).alloc _) ?_
          have hSb := (HSa.out.drew).new TOp (opC o)
          simp only [Kw.red] at hSb
          refine wpList_appS 2 4 _ _ TOps TOp (.agg #[.int .i64 0, .int .i64 0, .int .i64 0, .int .i64 0]) 4 32 infoOp Tryz.underlying133 rfl (by decide) rfl rfl hSb rfl rfl rfl rfl rfl (by intro u hu; simp only [opC, List.mem_cons, List.not_mem_nil, or_false] at hu; rcases hu with rfl | rfl | rfl | rfl <;> rfl) (by omega) (by unfold maxLen; omega) (by omega) ?_
          intro g gc w7 hSc hat
          clear c0 c1 c2 c3 cz d0 d1 d2 d3 dz
          obtain ⟨c0, c1, c2, c3, cz⟩ := cells4 (hSc.blk 1)
          go_wp2_with fail
          refine NoPanic.normal ?_
          go_wp2_with fail
          have hSd := hSc.set 1 2 (.slice (some ⟨g, 0, none⟩) (ops.length + 1) gc)
          go_ret2
          refine .inr ⟨o, k, .slice (some ⟨g, 0, none⟩) (ops.length + 1) gc, rfl, hid ⟨Hone.out, by assumption⟩, ?_⟩
          have hSe := hSd.sub [0, 1, 2]
          simp only [Kw.red] at hSe
          rw [show opsC (ops ++ [o]) = opsC ops ++ opC o by simp [opsC], Hnop.out]
          exact hSe
        · have b2 : ((kind : Int) == 10) = false := by simp; omega
          have b3 : ((kind : Int) == 11) = false := by simp; omega
          have hno : nextOpen kind opn = opn := by unfold nextOpen; rw [if_neg hn10, if_neg hn11]
          have hSa := HS1.out
          simp only [Kw.red] at hSa
          rw [← hno] at hSa
          have HSa := hid hSa
          have Hone := hid (one_not HO.out hn10)
          clear hSa hno hn10 hn11
          go_wp2_with fail
          obtain ⟨c0, c1, c2, c3, cz⟩ := cells4 (HSa.out.blk 1)
          obtain ⟨d0, d1, d2, d3, dz⟩ := cells4 (HSa.out.blk 3)
          generalize hnop : nextOpen kind opn = nopn at *
          have Hnop := hid hnop
          clear hnop
          refine wp_region_mix [true, true, true, true, true, true, false, false, false, false, false] 1 (fun _ => False) (by kernel_rfl) (by decide +kernel) ?_
          simp only [front, back, List.take_succ_cons, List.take_zero, List.drop_succ_cons, List.drop_zero]
          repeat ((first | refine wpFront_load rfl ?_ | refine wpFront_other rfl ?_); (first | go_big_quiet_step (fail) | quiet_step (fail)); refine wpQuiet_nil ?_)
          refine wpFront_nil ?_
          simp only [wpSegs]
          go_wp2_with fail
          refine segQ_normal (((Keeps.refl _ _).drew).alloc _) ?_
          have hSb := (HSa.out.drew).new TOp (opC o)
          simp only [Kw.red] at hSb
          refine wpList_appS 2 4 _ _ TOps TOp (.agg #[.int .i64 0, .int .i64 0, .int .i64 0, .int .i64 0]) 4 32 infoOp Tryz.underlying133 rfl (by decide) rfl rfl hSb rfl rfl rfl rfl rfl (by intro u hu; simp only [opC, List.mem_cons, List.not_mem_nil, or_false] at hu; rcases hu with rfl | rfl | rfl | rfl <;> rfl) (by omega) (by unfold maxLen; omega) (by omega) ?_
          intro g gc w7 hSc hat
          clear c0 c1 c2 c3 cz d0 d1 d2 d3 dz
          obtain ⟨c0, c1, c2, c3, cz⟩ := cells4 (hSc.blk 1)
          go_wp2_with fail
          refine NoPanic.normal ?_
          go_wp2_with fail
          have hSd := hSc.set 1 2 (.slice (some ⟨g, 0, none⟩) (ops.length + 1) gc)
          go_ret2
          refine .inr ⟨o, k, .slice (some ⟨g, 0, none⟩) (ops.length + 1) gc, rfl, hid ⟨Hone.out, by assumption⟩, ?_⟩
          have hSe := hSd.sub [0, 1, 2]
          simp only [Kw.red] at hSe
          rw [show opsC (ops ++ [o]) = opsC ops ++ opC o by simp [opsC], Hnop.out]
          exact hSe
  · go_wp2_with fail
    have hP0 : places kind = [] := by rw [HP.out]; rfl
    have hL1 := (HS1.out.step ((Keeps.refl (fun _ => False) w1).alloc (.cells #[.string wv, .int .i64 0] TRow))).add (Keeps.refl _ _) (G := fun _ => False) (c := .lst TPI 1 none 0 (ptrs ob (places kind))) ⟨⟨by rw [hP0]; rfl, rfl⟩, fun b => by simp⟩ (fun b hb => hb.elim)
    simp only [Kw.red] at hL1
    have HL := hid hL1
    have Hlen := hid (show (places kind).length = 0 by rw [hP0]; rfl)
    clear hL1 HS1 hP0
    obtain ⟨lbo, hlbo⟩ : ∃ lbo : Option Nat, lbo = none := ⟨_, rfl⟩
    rw [← hlbo] at HL
    clear hlbo
    go_loopw [44] (fun x wr => ∃ (j : Nat) (o : Cm.Op) (k : Nat), j ≤ 0 ∧ x = .int .i64 j ∧ k ≤ s.size ∧ stage kind j o ∧ Hid (readF s.size (places kind) ⟨kind, 0, 0, 0⟩ (toksAt s.data.toList i) = readF s.size ((places kind).drop j) o (toksAt s.data.toList k)) ∧ St F w [glC W, .pt rb TRd [.string s, .int .i64 k, ov, .int .i64 opn], .row TOp 4 ov ops.length (opsC ops), .pt ob TOp (opC o), .lst TPI 1 lbo 0 (ptrs ob (places kind))] wr) (fun x _ => 0 - (intOf x).toNat)
    case atStart => exact ⟨0, ⟨kind, 0, 0, 0⟩, i, Nat.zero_le _, rfl, hi, ⟨rfl, .inl ⟨rfl, rfl⟩⟩, hid rfl, HL.out⟩
    case round =>
      clear HL
      obtain ⟨j, o, k, hj, rfl, hk, hst, HQ, hS⟩ := hrel
      have HS := hid hS
      have Hst := hid hst
      clear hS hst
      by_cases hlt : j < 0
      · omega
      · have hO : readF s.size (places kind) ⟨kind, 0, 0, 0⟩ (toksAt s.data.toList i) = .ok (o, toksAt s.data.toList k) := by
          rw [HQ.out, List.drop_eq_nil_of_le (by rw [Hlen.out]; omega)]; cases toksAt s.data.toList k <;> rfl
        have HO := hid hO
        have HS1 := hid (HS.out.sub [0, 1, 2, 3])
        have b1 : decide ((j : Int) < 0) = false := by simp <;> omega
        clear hO HS Hst HQ
        have hkc : kind = 10 ∨ kind = 11 ∨ (kind ≠ 10 ∧ kind ≠ 11) := by omega
        rcases hkc with hk10 | hk11 | ⟨hn10, hn11⟩
        · have b2 : ((kind : Int) == 10) = true := by simp; omega
          obtain ⟨j2, k2, wd, e1, e2, e3, hk2, hwd, hw⟩ := next_word hk
          have E := hid (And.intro e1 (And.intro e2 e3))
          have Hk10 := hid hk10
          clear e1 e2 e3 hk10
          go_wp2_with fail
          obtain ⟨F2, g2, _, back⟩ := HS1.out.at 1 rfl
          refine (word_any (Sts.one g2) hk hs).mono ?_; rintro e w6 ⟨rfl, hS6⟩
          have hS6 := back hS6
          rw [E.out.1, E.out.2.1, E.out.2.2]
          rw [E.out.2.1] at hS6
          simp only [Kw.red] at hS6
          have HS6 := hid hS6
          obtain ⟨c0, c1, c2, c3, cz⟩ := cells4 (hS6.blk 1)
          clear hS6 back g2
          rcases hw with ⟨hw, ht⟩ | ⟨hw, ht⟩
          · have b4 : (wd.toList == [123]) = false := by rw [ByteArray.toList_eq, hw]; rfl
            have b5 : (wd.toList == []) = true := by rw [ByteArray.toList_eq]; simpa using hw
            have Ht := hid ht
            clear hw ht
            go_wp2_with fail
            go_ret2
            exact .inl ⟨_, _, rfl, hid ⟨one_err HO.out Hk10.out (by rw [Ht.out]; rfl), rfl⟩, HS6.out.sub [0]⟩
          · by_cases hbr : wd.data.toList = [123]
            · have b4 : (wd.toList == [123]) = true := by rw [ByteArray.toList_eq]; simpa using hbr
              have Hone := hid (one_ok HO.out Hk10.out (ts2 := toksAt s.data.toList k2) (by rw [ht]; exact brace_yes hbr))
              clear hw ht hbr
              have hSa := HS6.out.set 1 3 (.int .i64 (opn + 1))
              simp only [Kw.red] at hSa
              have hno : nextOpen kind opn = opn + 1 := by unfold nextOpen; rw [if_pos Hk10.out]
              rw [← hno] at hSa
              have HSa := hid hSa
              have Hno := hid hno
              clear hSa hno HS6
              go_wp2_with fail
              rw [← Hno.out]
              generalize w6.setCell ⟨rb, 3, none⟩ (.int .i64 (nextOpen kind opn)) = wa at *
              clear c0 c1 c2 c3 cz
              obtain ⟨c0, c1, c2, c3, cz⟩ := cells4 (HSa.out.blk 1)
              obtain ⟨d0, d1, d2, d3, dz⟩ := cells4 (HSa.out.blk 3)
              generalize hnop : nextOpen kind opn = nopn at *
              have Hnop := hid hnop
              clear hnop
              refine wp_region_mix [true, true, true, true, true, true, false, false, false, false, false] 1 (fun _ => False) (by kernel_rfl) (by decide +kernel) ?_
              simp only [front, back, List.take_succ_cons, List.take_zero, List.drop_succ_cons, List.drop_zero]
              repeat ((first | refine wpFront_load rfl ?_ | refine wpFront_other rfl ?_); (first | go_big_quiet_step (fail) | quiet_step (fail)); refine wpQuiet_nil ?_)
              refine wpFront_nil ?_
              simp only [wpSegs]
              go_wp2_with fail
              refine segQ_normal (((Keeps.refl _ _).drew).alloc _) ?_
              have hSb := (HSa.out.drew).new TOp (opC o)
              simp only [Kw.red] at hSb
              refine wpList_appS 2 4 _ _ TOps TOp (.agg #[.int .i64 0, .int .i64 0, .int .i64 0, .int .i64 0]) 4 32 infoOp Tryz.underlying133 rfl (by decide) rfl rfl hSb rfl rfl rfl rfl rfl (by intro u hu; simp only [opC, List.mem_cons, List.not_mem_nil, or_false] at hu; rcases hu with rfl | rfl | rfl | rfl <;> rfl) (by omega) (by unfold maxLen; omega) (by omega) ?_
              intro g gc w7 hSc hat
              clear c0 c1 c2 c3 cz d0 d1 d2 d3 dz
              obtain ⟨c0, c1, c2, c3, cz⟩ := cells4 (hSc.blk 1)
              go_wp2_with fail
              refine NoPanic.normal ?_
              go_wp2_with fail
              have hSd := hSc.set 1 2 (.slice (some ⟨g, 0, none⟩) (ops.length + 1) gc)
              go_ret2
              refine .inr ⟨o, k2, .slice (some ⟨g, 0, none⟩) (ops.length + 1) gc, rfl, hid ⟨Hone.out, by assumption⟩, ?_⟩
              have hSe := hSd.sub [0, 1, 2]
              simp only [Kw.red] at hSe
              rw [show opsC (ops ++ [o]) = opsC ops ++ opC o by simp [opsC], Hnop.out]
              exact hSe
            · have b4 : (wd.toList == [123]) = false := by rw [ByteArray.toList_eq]; simpa using hbr
              have b5 : (wd.toList == []) = false := by rw [ByteArray.toList_eq]; simpa using hw
              have Hone := hid (one_err HO.out Hk10.out (i := j2) (e := 30) (by rw [ht]; exact brace_no hbr))
              clear hw ht hbr
              go_wp2_with fail
              go_ret2
              exact .inl ⟨_, _, rfl, hid ⟨Hone.out, rfl⟩, HS6.out.sub [0]⟩
        · have b2 : ((kind : Int) == 10) = false := by simp; omega
          have b3 : ((kind : Int) == 11) = true := by simp; omega
          obtain ⟨c0, c1, c2, c3, cz⟩ := cells4 (HS1.out.blk 1)
          have hSa := HS1.out.set 1 3 (.int .i64 (opn - 1))
          simp only [Kw.red] at hSa
          have hno : nextOpen kind opn = opn - 1 := by unfold nextOpen; rw [if_neg (by omega), if_pos hk11]
          rw [← hno] at hSa
          have HSa := hid hSa
          have Hno := hid hno
          have Hone := hid (one_not HO.out (by omega))
          clear hSa hno hk11
          go_wp2_with fail
          rw [← Hno.out]
          generalize wr.setCell ⟨rb, 3, none⟩ (.int .i64 (nextOpen kind opn)) = wa at *
          obtain ⟨c0, c1, c2, c3, cz⟩ := cells4 (HSa.out.blk 1)
          obtain ⟨d0, d1, d2, d3, dz⟩ := cells4 (HSa.out.blk 3)
          generalize hnop : nextOpen kind opn = nopn at *
          have Hnop := hid hnop
          clear hnop
          refine wp_region_mix [true, true, true, true, true, true, false, false, false, false, false] 1 (fun _ => False) (by kernel_rfl) (by decide +kernel) ?_
          simp only [front, back, List.take_succ_cons, List.take_zero, List.drop_succ_cons, List.drop_zero]
          repeat ((first | refine wpFront_load rfl ?_ | refine wpFront_other rfl ?_); (first | go_big_quiet_step (fail) | quiet_step (fail)); refine wpQuiet_nil ?_)
          refine wpFront_nil ?_
          simp only [wpSegs]
          go_wp2_with fail
          refine segQ_normal (((Keeps.refl _ _).drew).alloc _) ?_
          have hSb := (HSa.out.drew).new TOp (opC o)
          simp only [Kw.red] at hSb
          refine wpList_appS 2 4 _ _ TOps TOp (.agg #[.int .i64 0, .int .i64 0, .int .i64 0, .int .i64 0]) 4 32 infoOp Tryz.underlying133 rfl (by decide) rfl rfl hSb rfl rfl rfl rfl rfl (by intro u hu; simp only [opC, List.mem_cons, List.not_mem_nil, or_false] at hu; rcases hu with rfl | rfl | rfl | rfl <;> rfl) (by omega) (by unfold maxLen; omega) (by omega) ?_
          intro g gc w7 hSc hat
          clear c0 c1 c2 c3 cz d0 d1 d2 d3 dz
          obtain ⟨c0, c1, c2, c3, cz⟩ := cells4 (hSc.blk 1)
          go_wp2_with fail
          refine NoPanic.normal ?_
          go_wp2_with fail
          have hSd := hSc.set 1 2 (.slice (some ⟨g, 0, none⟩) (ops.length + 1) gc)
          go_ret2
          refine .inr ⟨o, k, .slice (some ⟨g, 0, none⟩) (ops.length + 1) gc, rfl, hid ⟨Hone.out, by assumption⟩, ?_⟩
          have hSe := hSd.sub [0, 1, 2]
          simp only [Kw.red] at hSe
          rw [show opsC (ops ++ [o]) = opsC ops ++ opC o by simp [opsC], Hnop.out]
          exact hSe
        · have b2 : ((kind : Int) == 10) = false := by simp; omega
          have b3 : ((kind : Int) == 11) = false := by simp; omega
          have hno : nextOpen kind opn = opn := by unfold nextOpen; rw [if_neg hn10, if_neg hn11]
          have hSa := HS1.out
          simp only [Kw.red] at hSa
          rw [← hno] at hSa
          have HSa := hid hSa
          have Hone := hid (one_not HO.out hn10)
          clear hSa hno hn10 hn11
          go_wp2_with fail
          obtain ⟨c0, c1, c2, c3, cz⟩ := cells4 (HSa.out.blk 1)
          obtain ⟨d0, d1, d2, d3, dz⟩ := cells4 (HSa.out.blk 3)
          generalize hnop : nextOpen kind opn = nopn at *
          have Hnop := hid hnop
          clear hnop
          refine wp_region_mix [true, true, true, true, true, true, false, false, false, false, false] 1 (fun _ => False) (by kernel_rfl) (by decide +kernel) ?_
          simp only [front, back, List.take_succ_cons, List.take_zero, List.drop_succ_cons, List.drop_zero]
          repeat ((first | refine wpFront_load rfl ?_ | refine wpFront_other rfl ?_); (first | go_big_quiet_step (fail) | quiet_step (fail)); refine wpQuiet_nil ?_)
          refine wpFront_nil ?_
          simp only [wpSegs]
          go_wp2_with fail
          refine segQ_normal (((Keeps.refl _ _).drew).alloc _) ?_
          have hSb := (HSa.out.drew).new TOp (opC o)
          simp only [Kw.red] at hSb
          refine wpList_appS 2 4 _ _ TOps TOp (.agg #[.int .i64 0, .int .i64 0, .int .i64 0, .int .i64 0]) 4 32 infoOp Tryz.underlying133 rfl (by decide) rfl rfl hSb rfl rfl rfl rfl rfl (by intro u hu; simp only [opC, List.mem_cons, List.not_mem_nil, or_false] at hu; rcases hu with rfl | rfl | rfl | rfl <;> rfl) (by omega) (by unfold maxLen; omega) (by omega) ?_
          intro g gc w7 hSc hat
          clear c0 c1 c2 c3 cz d0 d1 d2 d3 dz
          obtain ⟨c0, c1, c2, c3, cz⟩ := cells4 (hSc.blk 1)
          go_wp2_with fail
          refine NoPanic.normal ?_
          go_wp2_with fail
          have hSd := hSc.set 1 2 (.slice (some ⟨g, 0, none⟩) (ops.length + 1) gc)
          go_ret2
          refine .inr ⟨o, k, .slice (some ⟨g, 0, none⟩) (ops.length + 1) gc, rfl, hid ⟨Hone.out, by assumption⟩, ?_⟩
          have hSe := hSd.sub [0, 1, 2]
          simp only [Kw.red] at hSe
          rw [show opsC (ops ++ [o]) = opsC ops ++ opC o by simp [opsC], Hnop.out]
          exact hSe
end
end Go.Proofs.YtnkjjhenfhnajaaGreatDoor
