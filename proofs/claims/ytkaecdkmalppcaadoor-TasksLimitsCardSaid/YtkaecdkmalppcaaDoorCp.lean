/-
  Package code, walked: Parse.
-/
import Derived.Test.YtkaecdkmalppcaaDoorCo
namespace Go.Proofs.YtkaecdkmalppcaaDoor
open Go.RowKit Go.Kw Go.Kreg Go.Cm

theorem readF_len {len : Int} : ∀ {ps : List Cm.Place} {o o' : Cm.Op} {ts ts' : List Tok}, readF len ps o ts = .ok (o', ts') → ts'.length ≤ ts.length
  | [], o, o', ts, ts', h => by simp only [readF, Res.ok.injEq, Prod.mk.injEq] at h; rw [h.2]; exact Nat.le_refl _
  | p :: ps, o, o', [], ts', h => by simp [readF] at h
  | p :: ps, o, o', (i, w) :: ts, ts', h => by
    rw [readF_cons] at h
    split at h
    · split at h
      · have := readF_len h; simp; omega
      · cases h
    · cases h
theorem one_len {len : Int} {kind : Nat} {o : Cm.Op} {ts ts' : List Tok} (h : one len kind ts = .ok (o, ts')) : ts'.length ≤ ts.length := by
  unfold one at h
  split at h
  · cases h
  · rename_i o1 ts1 hr
    have h1 := readF_len hr
    split at h
    · split at h
      · cases h
      · rename_i ts2 hb
        simp only [Res.ok.injEq, Prod.mk.injEq] at h
        rw [← h.2]
        unfold brace at hb
        split at hb
        · cases hb
        · split at hb
          · simp only [Res.ok.injEq] at hb; rw [← hb]; simp at h1; omega
          · cases hb
    · simp only [Res.ok.injEq, Prod.mk.injEq] at h
      rw [← h.2]; exact h1
theorem kindFrom_le (w : List UInt8) : ∀ (f k : Nat), kindFrom w f k = 0 ∨ (k ≤ kindFrom w f k ∧ kindFrom w f k < k + f)
  | 0, k => .inl rfl
  | f + 1, k => by
    unfold kindFrom
    split
    · exact .inr ⟨Nat.le_refl _, by omega⟩
    · rcases kindFrom_le w f (k + 1) with h | h
      · exact .inl h
      · exact .inr ⟨by omega, by omega⟩
theorem kindOf_le (w : List UInt8) : kindOf w ≤ 11 := by
  rcases kindFrom_le w 11 1 with h | h
  · unfold kindOf; omega
  · unfold kindOf; omega
theorem begins_ok {kind n : Nat} {opn : Int} (h : begins kind n opn = 0) : n ≠ 256 ∧ kind ≠ 0 ∧ (kind = 11 → opn ≠ 0) ∧ (kind = 10 → opn ≠ 4) := by
  unfold begins at h
  split at h
  · cases h
  · split at h
    · cases h
    · split at h
      · cases h
      · refine ⟨by assumption, ?_, ?_, ?_⟩ <;> omega

theorem parseT_cons (len : Int) (f i : Nat) (w : List UInt8) (ts : List Tok) (ops : List Cm.Op) (opn : Int) : parseT len (f + 1) ((i, w) :: ts) ops opn =
    if begins (kindOf w) ops.length opn ≠ 0 then .err i (begins (kindOf w) ops.length opn)
    else match one len (kindOf w) ts with
      | .err i e => .err i e
      | .ok (o, ts) => parseT len f ts (ops ++ [o]) (nextOpen (kindOf w) opn) := rfl

section
variable {W w : World} {F : Nat → Prop} {s : ByteArray}

set_option maxRecDepth 100000 in
set_option maxHeartbeats 4000000 in
theorem parse_any (hG : Glob W) (h : Sts [glC W] F w) :
    Calls Tryd.prog 37 #[.string s] w fun e w' =>
      (∃ (at_ e1 : Int), e = .returned (.tuple #[.slice none 0 0, .int .i64 at_, .int .i64 e1]) ∧ Hid (parse s.data.toList = .err at_ e1 ∧ (e1 != 0) = true) ∧ St F w [glC W] w') ∨
      (∃ (ops : List Cm.Op) (ov : Value), e = .returned (.tuple #[ov, .int .i64 0, .int .i64 0]) ∧ Hid (parse s.data.toList = .ok ops ∧ ops.length ≤ 256) ∧ St F w [glC W, .row TOp 4 ov ops.length (opsC ops)] w') := by
  have hsl : s.data.toList.length = s.size := Array.length_toList
  by_cases hs : s.size ≤ 4096
  · have b1 : decide ((4096 : Int) < (s.size : Int)) = false := by simp; omega
    have hR : parse s.data.toList = parseT s.size (toksAt s.data.toList 0).length (toksAt s.data.toList 0) [] 0 := by unfold parse; rw [if_neg (by omega), hsl]
    generalize hRR : parseT s.size (toksAt s.data.toList 0).length (toksAt s.data.toList 0) [] 0 = R at *
    have HRR := hid hRR
    have HR := hid hR
    have hS := ((St.of h).new TRd [.string s, .int .i64 0, .slice none 0 0, .int .i64 0]).add (Keeps.refl _ _) (G := fun _ => False) (c := .row TOp 4 (.slice none 0 0) 0 (opsC [])) ⟨⟨rfl, .inl ⟨rfl, rfl⟩⟩, fun b => by simp [Value.ownBlock]⟩ (fun b hb => hb.elim)
    simp only [Kw.red] at hS
    have HS := hid hS
    clear hS hR hRR hsl h
    go_enter Tryd.func37, Tryd.ntmps37
    go_wp2_with fail
    generalize w.heap.size = rb at *
    generalize w.alloc (.cells #[.string s, .int .i64 0, .slice none 0 0, .int .i64 0] TRd) = wa at *
    go_loopw [] (fun wr => ∃ (ops : List Cm.Op) (opn : Int) (k : Nat) (ov : Value) (f : Nat), ops.length ≤ 256 ∧ 0 ≤ opn ∧ opn ≤ 4 ∧ k ≤ s.size ∧ Hid (parseT s.size f (toksAt s.data.toList k) ops opn = R ∧ (toksAt s.data.toList k).length ≤ f) ∧ St F w [glC W, .pt rb TRd [.string s, .int .i64 k, ov, .int .i64 opn], .row TOp 4 ov ops.length (opsC ops)] wr) (fun wr => (toksAt s.data.toList (atOf wr rb 1)).length)
    case atStart => exact ⟨[], 0, 0, _, _, by simp, by omega, by omega, Nat.zero_le _, hid ⟨HRR.out, Nat.le_refl _⟩, HS.out⟩
    case round =>
      clear HS
      obtain ⟨ops, opn, k, ov, f, hol, hop0, hop4, hk, HQ, hS⟩ := hrel
      have HS := hid hS
      clear hS
      obtain ⟨j2, k2, wd, e1, e2, e3, hk2, hwd, hw⟩ := next_word hk
      have E := hid (And.intro e1 (And.intro e2 e3))
      clear e1 e2 e3
      go_wp2_with fail
      obtain ⟨F2, g2, _, back⟩ := HS.out.at 1 rfl
      refine (word_any (Sts.one g2) hk hs).mono ?_; rintro e w6 ⟨rfl, hS6⟩
      have hS6 := back hS6
      rw [E.out.1, E.out.2.1, E.out.2.2]
      rw [E.out.2.1] at hS6
      simp only [Kw.red] at hS6
      have HS6 := hid hS6
      obtain ⟨c0, c1, c2, c3, cz⟩ := cells4 (hS6.blk 1)
      clear hS6 back g2
      rcases hw with ⟨hw, ht⟩ | ⟨hw, ht⟩
      · have b5 : (wd.toList == []) = true := by rw [ByteArray.toList_eq]; simpa using hw
        have hq := HQ.out.1
        rw [ht] at hq
        have Hq := hid hq
        obtain ⟨oa, oc, rfl, _⟩ := (HS6.out.own 2).shape
        clear hw ht hq
        by_cases hpos : 0 < opn
        · have b6 : decide (0 < opn) = true := by simpa using hpos
          have hp : parse s.data.toList = .err s.size 31 := by rw [HR.out, ← Hq.out]; unfold parseT; cases f <;> simp [hpos]
          have Hp := hid hp
          clear hp
          go_wp2_with fail
          go_ret3
          exact .inl ⟨_, _, rfl, hid ⟨Hp.out, rfl⟩, HS6.out.sub [0]⟩
        · have b6 : decide (0 < opn) = false := by simpa using hpos
          have hp : parse s.data.toList = .ok ops := by rw [HR.out, ← Hq.out]; unfold parseT; cases f <;> simp [hpos]
          have Hp := hid hp
          clear hp
          go_wp2_with fail
          go_ret3
          exact .inr ⟨ops, _, rfl, hid ⟨Hp.out, hol⟩, HS6.out.sub [0, 2]⟩
      · have b5 : (wd.toList == []) = false := by rw [ByteArray.toList_eq]; simpa using hw
        have hl := HQ.out.2
        rw [ht] at hl
        simp only [List.length_cons] at hl
        obtain ⟨f', rfl⟩ : ∃ f', f = f' + 1 := ⟨f - 1, by omega⟩
        have hq := HQ.out.1
        rw [ht, parseT_cons] at hq
        have Hq := hid hq
        have Ht := hid ht
        have hkl := kindOf_le wd.data.toList
        obtain ⟨oa, oc, rfl, _⟩ := (HS6.out.own 2).shape
        clear hw ht hq
        go_wp2_with fail
        refine (kindOf_any wd _).mono ?_; rintro e w7 ⟨rfl, k7⟩
        have HS7 := hid (HS6.out.step k7)
        clear HS6 k7 c0 c1 c2 c3 cz
        generalize kindOf wd.data.toList = K at *
        go_wp2_with fail
        refine (begins_any (HS7.out.blk 1)).mono ?_; rintro e w8 ⟨rfl, rfl⟩
        by_cases hB : begins K ops.length opn = 0
        · obtain ⟨q1, q2, q3, q4⟩ := begins_ok hB
          have hq := Hq.out
          rw [if_neg (by simp [hB])] at hq
          have Hq2 := hid hq
          rw [hB]
          have hn : 0 ≤ nextOpen K opn ∧ nextOpen K opn ≤ 4 := by unfold nextOpen; split <;> (try split) <;> omega
          have Hn := hid hn
          have Hq3 := hid q3
          have Hq4 := hid q4
          clear hB hq hn q3 q4 Hq
          go_wp2_with fail
          obtain ⟨F3, g3, _, _, back⟩ := HS7.out.sel [0, 1, 2]
          simp only [Kw.red] at g3
          refine (one_any hG K g3 hk2 hs (by omega) hkl (by omega) (by omega) hol).mono ?_
          rintro e w9 (⟨at_, e1, rfl, hr, hS9⟩ | ⟨o, k', ov', rfl, hr, hS9⟩)
          · have hp : parse s.data.toList = .err at_ e1 := by rw [HR.out, ← Hq2.out, hr.out.1]
            have Hp := hid hp
            have b6 := hr.out.2
            have HS9 := hid ((back hS9).sub [0])
            clear hp hS9 back g3 hr
            go_wp2_with fail
            go_ret3
            exact .inl ⟨_, _, rfl, hid ⟨Hp.out, b6⟩, HS9.out⟩
          · have hq := Hq2.out
            rw [hr.out.1] at hq
            have hlen := one_len hr.out.1
            have hk' := hr.out.2
            have Hq5 := hid hq
            have hS9 := back hS9
            simp only [Kw.red] at hS9
            have HS9 := hid hS9
            clear hq hS9 back g3 hr Hq2
            go_wp2_with fail
            refine ⟨⟨ops ++ [o], _, k', ov', f', by simp; omega, Hn.out.1, Hn.out.2, hk', hid ⟨Hq5.out, by omega⟩, by simpa using HS9.out⟩, ?_⟩
            rw [atOf_pt 1 1 HS9.out rfl, atOf_pt 1 1 HS.out rfl]
            simp only [Int.toNat_natCast, Ht.out, List.length_cons]
            omega
        · have hp : parse s.data.toList = .err j2 (begins K ops.length opn) := by rw [HR.out, ← Hq.out, if_pos hB]
          have Hp := hid hp
          have b6 : (begins K ops.length opn != 0) = true := by simpa using hB
          clear hp hB
          generalize begins K ops.length opn = B at *
          go_wp2_with fail
          go_ret3
          exact .inl ⟨_, _, rfl, hid ⟨Hp.out, b6⟩, HS7.out.sub [0]⟩
  · have b1 : decide ((4096 : Int) < (s.size : Int)) = true := by simp; omega
    have hp : parse s.data.toList = .err 0 5 := by unfold parse; rw [if_pos (by omega)]
    have Hp := hid hp
    have HS := hid (St.of h)
    clear hp h
    go_enter Tryd.func37, Tryd.ntmps37
    go_wp2_with fail
    go_ret3
    exact .inl ⟨_, _, rfl, hid ⟨Hp.out, rfl⟩, HS.out⟩
end
end Go.Proofs.YtkaecdkmalppcaaDoor
