/-
  Texts Cp Ck Cs in one.
-/
import Derived.Test.YtnkjjhenfhnajaaGreatDoorCo
/-
  Package code, walked: Parse.
-/
namespace Go.Proofs.YtnkjjhenfhnajaaGreatDoor
open Go.RowKit Go.Kw Go.Kreg Go.Cm

theorem readF_len {len : Int} : ∀ {ps : List Cm.Place} {o o' : Cm.Op} {ts ts' : List Tok}, readF len ps o ts = .ok (o', ts') → ts'.length ≤ ts.length
  | [], o, o', ts, ts', h => by simp only [readF, Res.ok.injEq, Prod.mk.injEq] at h; rw [h.2]; exact Nat.le_refl _
  | p :: ps, o, o', [], ts', h => by simp [readF] at h
  | p :: ps, o, o', (i, w) :: ts, ts', h => by
    rw [readF_cons] at h
    split at h
    · split at h
      · have := readF_len h; simp; omega
      · cases h
    · cases h
theorem one_len {len : Int} {kind : Nat} {o : Cm.Op} {ts ts' : List Tok} (h : one len kind ts = .ok (o, ts')) : ts'.length ≤ ts.length := by
  unfold one at h
  split at h
  · cases h
  · rename_i o1 ts1 hr
    have h1 := readF_len hr
    split at h
    · split at h
      · cases h
      · rename_i ts2 hb
        simp only [Res.ok.injEq, Prod.mk.injEq] at h
        rw [← h.2]
        unfold brace at hb
        split at hb
        · cases hb
        · split at hb
          · simp only [Res.ok.injEq] at hb; rw [← hb]; simp at h1; omega
          · cases hb
    · simp only [Res.ok.injEq, Prod.mk.injEq] at h
      rw [← h.2]; exact h1
theorem kindFrom_le (w : List UInt8) : ∀ (f k : Nat), kindFrom w f k = 0 ∨ (k ≤ kindFrom w f k ∧ kindFrom w f k < k + f)
  | 0, k => .inl rfl
  | f + 1, k => by
    unfold kindFrom
    split
    · exact .inr ⟨Nat.le_refl _, by omega⟩
    · rcases kindFrom_le w f (k + 1) with h | h
      · exact .inl h
      · exact .inr ⟨by omega, by omega⟩
theorem kindOf_le (w : List UInt8) : kindOf w ≤ 11 := by
  rcases kindFrom_le w 11 1 with h | h
  · unfold kindOf; omega
  · unfold kindOf; omega
theorem begins_ok {kind n : Nat} {opn : Int} (h : begins kind n opn = 0) : n ≠ 256 ∧ kind ≠ 0 ∧ (kind = 11 → opn ≠ 0) ∧ (kind = 10 → opn ≠ 4) := by
  unfold begins at h
  split at h
  · cases h
  · split at h
    · cases h
    · split at h
      · cases h
      · refine ⟨by assumption, ?_, ?_, ?_⟩ <;> omega

theorem parseT_cons (len : Int) (f i : Nat) (w : List UInt8) (ts : List Tok) (ops : List Cm.Op) (opn : Int) : parseT len (f + 1) ((i, w) :: ts) ops opn =
    if begins (kindOf w) ops.length opn ≠ 0 then .err i (begins (kindOf w) ops.length opn)
    else match one len (kindOf w) ts with
      | .err i e => .err i e
      | .ok (o, ts) => parseT len f ts (ops ++ [o]) (nextOpen (kindOf w) opn) := rfl

section
variable {W w : World} {F : Nat → Prop} {s : ByteArray}

set_option maxRecDepth 100000 in
set_option maxHeartbeats 4000000 in
theorem parse_any (hG : Glob W) (h : Sts [glC W] F w) :
    Calls Tryz.prog 138 #[.string s] w fun e w' =>
      (∃ (at_ e1 : Int), e = .returned (.tuple #[.slice none 0 0, .int .i64 at_, .int .i64 e1]) ∧ Hid (parse s.data.toList = .err at_ e1 ∧ (e1 != 0) = true) ∧ St F w [glC W] w') ∨
      (∃ (ops : List Cm.Op) (ov : Value), e = .returned (.tuple #[ov, .int .i64 0, .int .i64 0]) ∧ Hid (parse s.data.toList = .ok ops ∧ ops.length ≤ 256) ∧ St F w [glC W, .row TOp 4 ov ops.length (opsC ops)] w') := by
  have hsl : s.data.toList.length = s.size := Array.length_toList
  by_cases hs : s.size ≤ 4096
  · have b1 : decide ((4096 : Int) < (s.size : Int)) = false := by simp; omega
    have hR : parse s.data.toList = parseT s.size (toksAt s.data.toList 0).length (toksAt s.data.toList 0) [] 0 := by unfold parse; rw [if_neg (by omega), hsl]
    generalize hRR : parseT s.size (toksAt s.data.toList 0).length (toksAt s.data.toList 0) [] 0 = R at *
    have HRR := hid hRR
    have HR := hid hR
    have hS := ((St.of h).new TRd [.string s, .int .i64 0, .slice none 0 0, .int .i64 0]).add (Keeps.refl _ _) (G := fun _ => False) (c := .row TOp 4 (.slice none 0 0) 0 (opsC [])) ⟨⟨rfl, .inl ⟨rfl, rfl⟩⟩, fun b => by simp [Value.ownBlock]⟩ (fun b hb => hb.elim)
    simp only [Kw.red] at hS
    have HS := hid hS
    clear hS hR hRR hsl h
    go_enter Tryz.func138, Tryz.ntmps138
    go_wp2_with fail
    generalize w.heap.size = rb at *
    generalize w.alloc (.cells #[.string s, .int .i64 0, .slice none 0 0, .int .i64 0] TRd) = wa at *
    go_loopw [] (fun wr => ∃ (ops : List Cm.Op) (opn : Int) (k : Nat) (ov : Value) (f : Nat), ops.length ≤ 256 ∧ 0 ≤ opn ∧ opn ≤ 4 ∧ k ≤ s.size ∧ Hid (parseT s.size f (toksAt s.data.toList k) ops opn = R ∧ (toksAt s.data.toList k).length ≤ f) ∧ St F w [glC W, .pt rb TRd [.string s, .int .i64 k, ov, .int .i64 opn], .row TOp 4 ov ops.length (opsC ops)] wr) (fun wr => (toksAt s.data.toList (atOf wr rb 1)).length)
    case atStart => exact ⟨[], 0, 0, _, _, by simp, by omega, by omega, Nat.zero_le _, hid ⟨HRR.out, Nat.le_refl _⟩, HS.out⟩
    case round =>
      clear HS
      obtain ⟨ops, opn, k, ov, f, hol, hop0, hop4, hk, HQ, hS⟩ := hrel
      have HS := hid hS
      clear hS
      obtain ⟨j2, k2, wd, e1, e2, e3, hk2, hwd, hw⟩ := next_word hk
      have E := hid (And.intro e1 (And.intro e2 e3))
      clear e1 e2 e3
      go_wp2_with fail
      obtain ⟨F2, g2, _, back⟩ := HS.out.at 1 rfl
      refine (word_any (Sts.one g2) hk hs).mono ?_; rintro e w6 ⟨rfl, hS6⟩
      have hS6 := back hS6
      rw [E.out.1, E.out.2.1, E.out.2.2]
      rw [E.out.2.1] at hS6
      simp only [Kw.red] at hS6
      have HS6 := hid hS6
      obtain ⟨c0, c1, c2, c3, cz⟩ := cells4 (hS6.blk 1)
      clear hS6 back g2
      rcases hw with ⟨hw, ht⟩ | ⟨hw, ht⟩
      · have b5 : (wd.toList == []) = true := by rw [ByteArray.toList_eq]; simpa using hw
        have hq := HQ.out.1
        rw [ht] at hq
        have Hq := hid hq
        obtain ⟨oa, oc, rfl, _⟩ := (HS6.out.own 2).shape
        clear hw ht hq
        by_cases hpos : 0 < opn
        · have b6 : decide (0 < opn) = true := by simpa using hpos
          have hp : parse s.data.toList = .err s.size 31 := by rw [HR.out, ← Hq.out]; unfold parseT; cases f <;> simp [hpos]
          have Hp := hid hp
          clear hp
          go_wp2_with fail
          go_ret3
          exact .inl ⟨_, _, rfl, hid ⟨Hp.out, rfl⟩, HS6.out.sub [0]⟩
        · have b6 : decide (0 < opn) = false := by simpa using hpos
          have hp : parse s.data.toList = .ok ops := by rw [HR.out, ← Hq.out]; unfold parseT; cases f <;> simp [hpos]
          have Hp := hid hp
          clear hp
          go_wp2_with fail
          go_ret3
          exact .inr ⟨ops, _, rfl, hid ⟨Hp.out, hol⟩, HS6.out.sub [0, 2]⟩
      · have b5 : (wd.toList == []) = false := by rw [ByteArray.toList_eq]; simpa using hw
        have hl := HQ.out.2
        rw [ht] at hl
        simp only [List.length_cons] at hl
        obtain ⟨f', rfl⟩ : ∃ f', f = f' + 1 := ⟨f - 1, by omega⟩
        have hq := HQ.out.1
        rw [ht, parseT_cons] at hq
        have Hq := hid hq
        have Ht := hid ht
        have hkl := kindOf_le wd.data.toList
        obtain ⟨oa, oc, rfl, _⟩ := (HS6.out.own 2).shape
        clear hw ht hq
        go_wp2_with fail
        refine (kindOf_any wd _).mono ?_; rintro e w7 ⟨rfl, k7⟩
        have HS7 := hid (HS6.out.step k7)
        clear HS6 k7 c0 c1 c2 c3 cz
        generalize kindOf wd.data.toList = K at *
        go_wp2_with fail
        refine (begins_any (HS7.out.blk 1)).mono ?_; rintro e w8 ⟨rfl, rfl⟩
        by_cases hB : begins K ops.length opn = 0
        · obtain ⟨q1, q2, q3, q4⟩ := begins_ok hB
          have hq := Hq.out
          rw [if_neg (by simp [hB])] at hq
          have Hq2 := hid hq
          rw [hB]
          have hn : 0 ≤ nextOpen K opn ∧ nextOpen K opn ≤ 4 := by unfold nextOpen; split <;> (try split) <;> omega
          have Hn := hid hn
          have Hq3 := hid q3
          have Hq4 := hid q4
          clear hB hq hn q3 q4 Hq
          go_wp2_with fail
          obtain ⟨F3, g3, _, _, back⟩ := HS7.out.sel [0, 1, 2]
          simp only [Kw.red] at g3
          refine (one_any hG K g3 hk2 hs (by omega) hkl (by omega) (by omega) hol).mono ?_
          rintro e w9 (⟨at_, e1, rfl, hr, hS9⟩ | ⟨o, k', ov', rfl, hr, hS9⟩)
          · have hp : parse s.data.toList = .err at_ e1 := by rw [HR.out, ← Hq2.out, hr.out.1]
            have Hp := hid hp
            have b6 := hr.out.2
            have HS9 := hid ((back hS9).sub [0])
            clear hp hS9 back g3 hr
            go_wp2_with fail
            go_ret3
            exact .inl ⟨_, _, rfl, hid ⟨Hp.out, b6⟩, HS9.out⟩
          · have hq := Hq2.out
            rw [hr.out.1] at hq
            have hlen := one_len hr.out.1
            have hk' := hr.out.2
            have Hq5 := hid hq
            have hS9 := back hS9
            simp only [Kw.red] at hS9
            have HS9 := hid hS9
            clear hq hS9 back g3 hr Hq2
            go_wp2_with fail
            refine ⟨⟨ops ++ [o], _, k', ov', f', by simp; omega, Hn.out.1, Hn.out.2, hk', hid ⟨Hq5.out, by omega⟩, by simpa using HS9.out⟩, ?_⟩
            rw [atOf_pt 1 1 HS9.out rfl, atOf_pt 1 1 HS.out rfl]
            simp only [Int.toNat_natCast, Ht.out, List.length_cons]
            omega
        · have hp : parse s.data.toList = .err j2 (begins K ops.length opn) := by rw [HR.out, ← Hq.out, if_pos hB]
          have Hp := hid hp
          have b6 : (begins K ops.length opn != 0) = true := by simpa using hB
          clear hp hB
          generalize begins K ops.length opn = B at *
          go_wp2_with fail
          go_ret3
          exact .inl ⟨_, _, rfl, hid ⟨Hp.out, b6⟩, HS7.out.sub [0]⟩
  · have b1 : decide ((4096 : Int) < (s.size : Int)) = true := by simp; omega
    have hp : parse s.data.toList = .err 0 5 := by unfold parse; rw [if_pos (by omega)]
    have Hp := hid hp
    have HS := hid (St.of h)
    clear hp h
    go_enter Tryz.func138, Tryz.ntmps138
    go_wp2_with fail
    go_ret3
    exact .inl ⟨_, _, rfl, hid ⟨Hp.out, rfl⟩, HS.out⟩
end
end Go.Proofs.YtnkjjhenfhnajaaGreatDoor

/-
  Package code, walked: Check.
-/
namespace Go.Proofs.YtnkjjhenfhnajaaGreatDoor
open Go.RowKit Go.Kw Go.Kreg Go.Cm

theorem opsC_at {p : List Cm.Op} {i : Nat} {o : Cm.Op} (h : p[i]? = some o) : (opsC p)[i * 4]? = some (.int .i64 o.kind) ∧ (opsC p)[i * 4 + 1]? = some (.int .i64 o.res) ∧ (opsC p)[i * 4 + 2]? = some (.int .i64 o.n) ∧ (opsC p)[i * 4 + 3]? = some (.int .i64 o.v) := by
  have hs : p = p.take i ++ (o :: p.drop (i + 1)) := by
    have := (List.getElem?_eq_some_iff.1 h)
    rw [← this.2, List.getElem_cons_drop, List.take_append_drop]
  have hl : (opsC (p.take i)).length = i * 4 := by
    rw [opsC_len, List.length_take]; have := (List.getElem?_eq_some_iff.1 h).1; omega
  have e : opsC p = opsC (p.take i) ++ (opC o ++ opsC (p.drop (i + 1))) := by
    conv => lhs; rw [hs]
    simp [opsC]
  rw [e]
  refine ⟨?_, ?_, ?_, ?_⟩
  all_goals
    rw [List.getElem?_append_right (by omega), hl]
    simp [opC]

theorem checkFrom_cons (len : Nat) (o : Cm.Op) (p : List Cm.Op) (i : Nat) (opn : Int) : checkFrom len (o :: p) i opn =
    if fieldsOk o = false then ((i : Int), 30)
    else if o.kind = 10 then (if opn = 4 then ((i : Int), 32) else checkFrom len p (i + 1) (opn + 1))
    else if o.kind = 11 then (if opn = 0 then ((i : Int), 31) else checkFrom len p (i + 1) (opn - 1))
    else checkFrom len p (i + 1) opn := rfl
theorem ret_pair {a b : Int} {R : Int × Int} (h : (a, b) = R) : Ending.returned (.tuple #[.int .i64 a, .int .i64 b]) = .returned (.tuple #[.int .i64 R.1, .int .i64 R.2]) := by rw [← h]

section
variable {w : World} {F : Nat → Prop} {v : Value} {p : List Cm.Op}

set_option maxRecDepth 100000 in
set_option maxHeartbeats 4000000 in
theorem check_any (h : Sts [.row TOp 4 v p.length (opsC p)] F w) (hk : ∀ o ∈ p, 1 ≤ o.kind ∧ o.kind ≤ 11) (hl : p.length ≤ 256) :
    Calls Tryz.prog 182 #[v] w fun e w' => e = .returned (.tuple #[.int .i64 (check p).1, .int .i64 (check p).2]) ∧ St F w [.row TOp 4 v p.length (opsC p)] w' := by
  have hR : check p = checkFrom p.length p 0 0 := by unfold check; rw [if_neg (by omega)]
  generalize check p = R at *
  have HR := hid hR
  have HS := hid (St.of h)
  have Hk := hid hk
  have b1 : decide ((256 : Int) < (p.length : Int)) = false := by simp; omega
  obtain ⟨oa, oc, rfl, _⟩ := (HS.out.own 0).shape
  clear hR h hk
  go_enter Tryz.func182, Tryz.ntmps182
  go_wp2_with fail
  go_loopw [12, 4] (fun x y wr => ∃ (i : Nat) (opn : Int), i ≤ p.length ∧ 0 ≤ opn ∧ opn ≤ 4 ∧ x = .int .i64 i ∧ y = .int .i64 opn ∧ Hid (checkFrom p.length (p.drop i) i opn = R) ∧ St F w [.row TOp 4 (.slice oa p.length oc) p.length (opsC p)] wr) (fun x _ _ => p.length - (intOf x).toNat)
  case atStart => exact ⟨0, 0, Nat.zero_le _, by omega, by omega, rfl, rfl, hid HR.out.symm, HS.out⟩
  case round =>
    clear HS
    obtain ⟨i, opn, hi, hop0, hop4, rfl, rfl, HQ, hS⟩ := hrel
    have HS := hid hS
    clear hS
    by_cases hlt : i < p.length
    · have hx := List.getElem?_eq_getElem hlt
      have hdr : p.drop i = p[i] :: p.drop (i + 1) := List.drop_eq_getElem_cons hlt
      have hko := Hk.out _ (List.getElem_mem hlt)
      generalize p[i] = o at *
      obtain ⟨g, cap, e1, _⟩ := (HS.out.own 0).form (by omega)
      cases e1
      obtain ⟨x0, x1, x2, x3⟩ := opsC_at hx
      have d0 := (HS.out.own 0).cells' (g := g) rfl x0
      have d1 := (HS.out.own 0).cells' (g := g) rfl x1
      have d2 := (HS.out.own 0).cells' (g := g) rfl x2
      have d3 := (HS.out.own 0).cells' (g := g) rfl x3
      have hq := HQ.out
      rw [hdr] at hq
      have Hq := hid hq
      have i0 : (0 : Int) ≤ (i : Int) := by omega
      have i1 : (i : Int) < (p.length : Int) := by omega
      have b2 : decide ((i : Int) < (p.length : Int)) = true := by simp; omega
      clear hx hdr x0 x1 x2 x3 hq HQ
      go_wp2_with fail
      refine (fields_any o _ hko.1 hko.2).mono ?_; rintro e w2 ⟨rfl, k2⟩
      have HS2 := hid (HS.out.step (((Keeps.refl (fun _ => False) wr).alloc (.cells #[.int .i64 o.kind, .int .i64 o.res, .int .i64 o.n, .int .i64 o.v] TOp)).trans k2))
      obtain ⟨c0, c1, c2, c3, cz⟩ := cells4 (k2.blk (Blk.new wr TOp [.int .i64 o.kind, .int .i64 o.res, .int .i64 o.n, .int .i64 o.v]) id)
      have hq := Hq.out
      rw [checkFrom_cons] at hq
      clear k2 HS Hq d0 d1 d2 d3
      by_cases hf : fieldsOk o = false
      · rw [hf]
        rw [if_pos hf] at hq
        have Hq := hid hq
        clear hf hq
        go_wp2_with fail
        go_ret2
        exact ⟨ret_pair Hq.out, HS2.out⟩
      · have hf2 : fieldsOk o = true := by simpa using hf
        rw [hf2]
        rw [if_neg hf] at hq
        clear hf hf2
        by_cases h10 : o.kind = 10
        · have e10 : (o.kind == 10) = true := by simpa using h10
          have e11 : (o.kind == 11) = false := by simp; omega
          rw [if_pos h10] at hq
          by_cases h4 : opn = 4
          · rw [if_pos h4] at hq
            have Hq := hid hq
            have e4 : (opn == 4) = true := by simpa using h4
            clear h4 hq h10
            go_wp2_with fail
            go_ret2
            exact ⟨ret_pair Hq.out, HS2.out⟩
          · rw [if_neg h4] at hq
            have Hq := hid hq
            have e4 : (opn == 4) = false := by simpa using h4
            have hlt4 : opn + 1 ≤ 4 := by omega
            clear h4 hq h10
            go_wp2_with fail
            go_roundw
            case rel => exact ⟨i + 1, opn + 1, by omega, by omega, hlt4, by go_num, rfl, hid Hq.out, HS2.out⟩
            case measure => simp [intOf]; omega
        · have e10 : (o.kind == 10) = false := by simpa using h10
          rw [if_neg h10] at hq
          by_cases h11 : o.kind = 11
          · have e11 : (o.kind == 11) = true := by simpa using h11
            rw [if_pos h11] at hq
            by_cases h4 : opn = 0
            · rw [if_pos h4] at hq
              have Hq := hid hq
              have e4 : (opn == 0) = true := by simpa using h4
              clear h4 hq h11 h10
              go_wp2_with fail
              go_ret2
              exact ⟨ret_pair Hq.out, HS2.out⟩
            · rw [if_neg h4] at hq
              have Hq := hid hq
              have e4 : (opn == 0) = false := by simpa using h4
              have hlt4 : 0 ≤ opn - 1 := by omega
              clear h4 hq h11 h10
              go_wp2_with fail
              go_roundw
              case rel => exact ⟨i + 1, opn - 1, by omega, hlt4, by omega, by go_num, rfl, hid Hq.out, HS2.out⟩
              case measure => simp [intOf]; omega
          · have e11 : (o.kind == 11) = false := by simpa using h11
            rw [if_neg h11] at hq
            have Hq := hid hq
            clear hq h11 h10
            go_wp2_with fail
            go_roundw
            case rel => exact ⟨i + 1, opn, by omega, hop0, hop4, by go_num, rfl, hid Hq.out, HS2.out⟩
            case measure => simp [intOf]; omega
    · have b2 : decide ((i : Int) < (p.length : Int)) = false := by simp; omega
      have hq := HQ.out
      rw [List.drop_eq_nil_of_le (by omega)] at hq
      unfold checkFrom at hq
      by_cases hpos : 0 < opn
      · have b3 : decide (0 < opn) = true := by simpa using hpos
        rw [if_pos hpos] at hq
        have Hq := hid hq
        clear hq
        go_wp2_with fail
        go_ret2
        exact ⟨ret_pair Hq.out, HS.out⟩
      · have b3 : decide (0 < opn) = false := by simpa using hpos
        rw [if_neg hpos] at hq
        have Hq := hid hq
        clear hq
        go_wp2_with fail
        go_ret2
        exact ⟨ret_pair Hq.out, HS.out⟩
end
end Go.Proofs.YtnkjjhenfhnajaaGreatDoor

/-
  Package code, walked: a step, and who is told of it.
-/
namespace Go.Proofs.YtnkjjhenfhnajaaGreatDoor
open Go.RowKit Go.Kw Go.Kreg Go.Cm

abbrev TWk : Nat := 283
def tellV : Option Nat → Value
  | none => .nilFunc
  | some cb => .func (.func 163) #[] #[.pointer (some ⟨cb, 0, none⟩)]
def tellC (t : Option Nat) (out : List Cm.Op) : Ch := match t with
  | none => .emp
  | some cb => .ex fun lv => .stars [.pt cb TOps [lv], .row TOp 4 lv out.length (opsC out)]

theorem neq_nil (w : World) : (binOp .neq 258 .nilFunc .nilFunc).run Tryz.prog w = .ok (.bool false) w := by
  have h : ∀ d : Nat, (Op.equalIn (d + 1) 258 .nilFunc .nilFunc).run Tryz.prog w = .ok true w := fun d => by
    simp [Op.equalIn, run_underlying Tryz.underlying258]
  simp only [binOp]
  simp [Op.equal, Op.maxDepth, h 9999]
theorem neq_fn (w : World) (c : Fn) (a b : Array Value) : (binOp .neq 258 (.func c a b) .nilFunc).run Tryz.prog w = .ok (.bool true) w := by
  have h : ∀ d : Nat, (Op.equalIn (d + 1) 258 (.func c a b) .nilFunc).run Tryz.prog w = .ok false w := fun d => by
    simp [Op.equalIn, run_underlying Tryz.underlying258]
  simp only [binOp]
  simp [Op.equal, Op.maxDepth, h 9999]

section
variable {w : World} {F : Nat → Prop}

set_option maxRecDepth 100000 in
set_option maxHeartbeats 1000000 in
theorem closure_any {cb : Nat} {out : List Cm.Op} (o : Cm.Op) (h : (tellC (some cb) out).holds F w) (hout : out.length ≤ 4096) :
    Calls Tryz.prog 163 #[opV o, .pointer (some ⟨cb, 0, none⟩)] w fun e w' => e = .returned (.tuple #[]) ∧ St F w [tellC (some cb) (out ++ [o])] w' := by
  obtain ⟨lv, h⟩ := h
  have hS := ((St.of h).new TOp (opC o)).new TOp (opC o)
  rw [show (w.alloc (.cells (opC o).toArray TOp)).heap.size = w.heap.size + 1 by simp] at hS
  simp only [Kw.red] at hS
  have hne : (Value.ownBlock lv) ≠ some cb := (hS.own 1).neT (hS.blk 0) (by decide)
  have HS := hid hS
  have hcbl := (St.of h).blk 0
  have hcb : cb < w.heap.size := hcbl.lt
  have c0' := hcbl.cell 0
  have cz' := hcbl.fz
  simp only [List.getElem?_cons_zero] at c0'
  unfold opV
  clear h hS hcbl
  go_enter Tryz.func163, Tryz.ntmps163
  go_wp2_with (at_builtin; refine wpList_appS 1 3 _ _ TOps TOp (.agg #[.int .i64 0, .int .i64 0, .int .i64 0, .int .i64 0]) 4 32 infoOp Tryz.underlying133 rfl (by decide) rfl rfl HS.out rfl rfl rfl rfl rfl (by intro u hu; simp only [opC, List.mem_cons, List.not_mem_nil, or_false] at hu; rcases hu with rfl | rfl | rfl | rfl <;> rfl) (by omega) (by unfold maxLen; omega) (by omega) ?_; intro g gc w7 hSc hat; have d0 := (hSc.blk 0).cell 0; have dz := (hSc.blk 0).fz; simp only [List.getElem?_cons_zero] at d0)
  go_end0
  refine ⟨rfl, ?_⟩
  have hSd := hSc.set 0 0 (.slice (some ⟨g, 0, none⟩) (out.length + 1) gc)
  simp only [Kw.red] at hSd
  refine (hSd.fold [0, 1] (tellC (some cb) (out ++ [o])) (fun F h => ⟨.slice (some ⟨g, 0, none⟩) (out.length + 1) gc, ?_⟩)).sub [0]
  show Sts _ F _
  rw [show opsC (out ++ [o]) = opsC out ++ opC o by simp [opsC], List.length_append]
  exact h

set_option maxRecDepth 100000 in
set_option maxHeartbeats 1000000 in
theorem step_any {wb : Nat} {t : Option Nat} {out : List Cm.Op} {pv ev : Value} {ovr : Bool} (o : Cm.Op) (h : Sts [.pt wb TWk [pv, .int .i64 out.length, .bool ovr, ev, tellV t], tellC t out] F w) (hout : out.length ≤ 4096) :
    Calls Tryz.prog 184 #[.pointer (some ⟨wb, 0, none⟩), opV o] w fun e w' => e = .returned (.bool (decide ((Cm.step o out).2 ≠ .long))) ∧
      St F w [.pt wb TWk [pv, .int .i64 (Cm.step o out).1.length, .bool (ovr || decide ((Cm.step o out).2 = .long)), ev, tellV t], tellC t (Cm.step o out).1] w' := by
  have h0 := (St.of h).blk 0
  have HS := hid (St.of h)
  have hwb : wb < w.heap.size := h0.lt
  obtain ⟨c0, c1, c2, c3, c4, cz⟩ : w.cell? ⟨wb, 0, none⟩ = some pv ∧ w.cell? ⟨wb, 1, none⟩ = some (.int .i64 out.length) ∧ w.cell? ⟨wb, 2, none⟩ = some (.bool ovr) ∧ w.cell? ⟨wb, 3, none⟩ = some ev ∧ w.cell? ⟨wb, 4, none⟩ = some (tellV t) ∧ (∀ o, w.frozen? ⟨wb, o, none⟩ = false) := ⟨h0.cell 0, h0.cell 1, h0.cell 2, h0.cell 3, h0.cell 4, h0.fz⟩
  unfold opV
  clear h h0
  by_cases hl : out.length = 4096
  · have b1 : ((out.length : Int) == 4096) = true := by simp; omega
    have hst : Cm.step o out = (out, .long) := by unfold Cm.step; rw [if_pos hl]
    rw [hst]
    have hS1 := (HS.out.set 0 2 (.bool true)).step ((Keeps.refl _ _).alloc (.cells (opC o).toArray TOp))
    simp only [Kw.red] at hS1
    have HS1 := hid hS1
    clear hst hl hS1
    go_enter Tryz.func184, Tryz.ntmps184
    go_wp2_with fail
    go_ret
    refine ⟨rfl, ?_⟩
    have q := HS1.out
    simp only [opC] at q
    simpa using q
  · have b1 : ((out.length : Int) == 4096) = false := by simp; omega
    have hst : Cm.step o out = (out ++ [o], if o.kind = 9 then .done else .go) := by unfold Cm.step; rw [if_neg hl]
    have hn : (Cm.step o out).2 ≠ .long := by rw [hst]; simp only []; split <;> simp
    have e1 : decide ((Cm.step o out).2 ≠ .long) = true := by simpa using hn
    have e2 : decide ((Cm.step o out).2 = .long) = false := by simpa using hn
    rw [e1, e2, hst, Bool.or_false]
    simp only [List.length_append, List.length_singleton]
    have hS1 := (HS.out.set 0 1 (.int .i64 ((out.length : Int) + 1))).step ((Keeps.refl _ _).alloc (.cells (opC o).toArray TOp))
    simp only [Kw.red] at hS1
    have HS1 := hid hS1
    have hlt : out.length < 4096 := by omega
    clear hst hl hS1 hn e1 e2
    cases t with
    | none =>
      simp only [tellV] at *
      have hF := HS1.out.imp 1 (tellC none (out ++ [o])) (fun F h => h)
      simp only [Kw.red] at hF
      have HF := hid hF
      clear hF
      have hneq := fun w => neq_nil w
      go_enter Tryz.func184, Tryz.ntmps184
      go_wp2_with fail
      go_ret
      refine ⟨rfl, ?_⟩
      exact HF.out
    | some cb =>
      simp only [tellV] at *
      have hneq := fun w => neq_fn w (.func 163) #[] #[.pointer (some ⟨cb, 0, none⟩)]
      go_enter Tryz.func184, Tryz.ntmps184
      go_wp2_with fail
      refine wp_region_mix [true, true, true, true, true, false] 0 (fun _ => False) (by kernel_rfl) (by decide +kernel) ?_
      simp only [front, back, List.take_zero, List.drop_zero]
      repeat ((first | refine wpFront_load rfl ?_ | refine wpFront_other rfl ?_); (first | go_big_quiet_step (fail) | quiet_step (fail)); refine wpQuiet_nil ?_)
      refine wpFront_nil ?_
      simp only [wpSegs]
      go_wp2_with fail
      obtain ⟨F1, g1, _, _, back⟩ := (HS1.out.drewN 1).sel [1]
      have g1 := Sts.of_one g1
      refine (closure_any o g1 (by omega)).mono ?_
      rintro e w1 ⟨rfl, hS⟩
      have hS := back hS
      simp only [Kw.red] at hS
      have HS2 := hid hS
      clear hS back g1
      go_wp2_with fail
      refine NoPanic.normal ?_
      go_wp2_with fail
      go_ret
      refine ⟨rfl, ?_⟩
      exact HS2.out
end
end Go.Proofs.YtnkjjhenfhnajaaGreatDoor
