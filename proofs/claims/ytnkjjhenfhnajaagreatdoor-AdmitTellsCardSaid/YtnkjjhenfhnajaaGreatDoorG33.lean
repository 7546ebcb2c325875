/-
  Texts Ur Up Un Uv Ux2 Uy2 in one.
-/
import Derived.Test.YtnkjjhenfhnajaaGreatDoorG14
import Derived.Test.YtnkjjhenfhnajaaGreatDoorG05
import Derived.Test.YtnkjjhenfhnajaaGreatDoorG32
import Derived.Test.YtnkjjhenfhnajaaGreatDoorG25
/-
  keelref6.At, walked.
-/
namespace Go.Proofs.YtnkjjhenfhnajaaGreatDoor
open Go.RowKit Go.Kw Go.Kreg Go.Tm
set_option linter.unusedSimpArgs false
set_option linter.unusedVariables false

section
variable {w : World} {p : Nat} {m : TM} {y : RefX}
set_option maxRecDepth 100000 in
set_option maxHeartbeats 4000000 in
theorem atR_any (h : RefAt w p m y) (res free : Int) : Calls Tryz.prog 104 #[.pointer (some ⟨p, 0, none⟩), .int .i64 res, .int .i64 free] w fun e w' => e = .returned (.int .i64 (m.ceilAt res free)) ∧ w = w' := by
  obtain ⟨c0, c1, c2, cz⟩ := h.cells
  have hlen := h.few
  obtain ⟨ta, tc, etv⟩ := ref_shape h
  obtain ⟨ua, uc, euv⟩ := ref_ushape h
  rw [etv] at c2
  rw [euv] at c1
  obtain ⟨R, hR⟩ : ∃ R, m.ceilAt res free = R := ⟨_, rfl⟩
  rw [hR]
  rw [ceilAt_eq h.tok.ok] at hR
  by_cases hh : m.has res
  · have hh2 := hh
    unfold TM.has at hh2
    have b0 : decide (res < 0) = false := decide_eq_false (by omega)
    have b1 : decide ((m.units.length : Int) ≤ res) = false := decide_eq_false (by omega)
    have HR := hid hR
    have H := hid h
    have Htv := hid etv
    clear h hR etv euv hh hh2
    go_enter Tryz.func104, Tryz.ntmps104
    go_wp2_with fail
    go_loopw [8, 7] (fun i z wr => ∃ (k : Nat), k ≤ m.ts.length ∧ i = .int .i64 k ∧ z = .int .i64 (ceil0 (m.ts.take k) res (max free 0)) ∧ w = wr) (fun i _ _ => m.ts.length - (intOf i).toNat)
    case atStart => exact ⟨0, Nat.zero_le _, rfl, rfl, rfl⟩
    case round =>
      obtain ⟨k, hk, rfl, rfl, rfl⟩ := hrel
      by_cases hlt : k < m.ts.length
      · have a1 : decide (k < m.ts.length) = true := by simpa using hlt
        have ht := List.getElem?_eq_getElem hlt
        have hstep := ceil0_take ht res (max free 0)
        have hneed := needR_any H.out k res
        have hnk : Tm.need m.ts k res = needOf (m.ts[k]).needs res := by unfold Tm.need; rw [if_neg (by omega), Int.toNat_natCast, ht]
        rw [hnk] at hneed
        obtain ⟨g, cap, na, nc, e, ⟨d0, d1, d2, d3, d4, d5, d6, d7⟩, -⟩ := ref_task H.out ht
        rw [Htv.out] at e
        cases e
        generalize m.ts[k] = t at *
        generalize ceil0 (m.ts.take k) res (max free 0) = L at *
        generalize needOf t.needs res = N at *
        have HN := hid hneed
        have i0 : (0 : Int) ≤ (k : Int) := by omega
        have i1 : (k : Int) < (m.ts.length : Int) := by omega
        clear ht hneed hnk
        by_cases h1 : free < N
        · have f1 : decide (free < N) = true := by simpa using h1
          by_cases h2 : 0 < N
          · have f2 : decide (0 < N) = true := by simpa using h2
            rw [if_pos (by omega)] at hstep
            by_cases h3 : L < t.level
            · have f3 : decide (L < t.level) = true := by simpa using h3
              rw [show max L t.level = t.level by omega] at hstep
              have Hst := hid hstep
              clear h1 h2 h3 hstep
              go_wp2_with fail
              refine HN.out.mono ?_; rintro e w2 ⟨rfl, rfl⟩
              go_wp2_with fail
              refine HN.out.mono ?_; rintro e w2 ⟨rfl, rfl⟩
              go_wp2_with fail
              go_roundw
              case rel => exact ⟨k + 1, by omega, by go_num, by rw [Hst.out], by first | rfl | trivial⟩
              case measure => simp [intOf]; omega
            · have f3 : decide (L < t.level) = false := by simpa using h3
              rw [show max L t.level = L by omega] at hstep
              have Hst := hid hstep
              clear h1 h2 h3 hstep
              go_wp2_with fail
              refine HN.out.mono ?_; rintro e w2 ⟨rfl, rfl⟩
              go_wp2_with fail
              refine HN.out.mono ?_; rintro e w2 ⟨rfl, rfl⟩
              go_wp2_with fail
              go_roundw
              case rel => exact ⟨k + 1, by omega, by go_num, by rw [Hst.out], by first | rfl | trivial⟩
              case measure => simp [intOf]; omega
          · have f2 : decide (0 < N) = false := by simpa using h2
            rw [if_neg (by omega)] at hstep
            have Hst := hid hstep
            clear h1 h2 hstep
            go_wp2_with fail
            refine HN.out.mono ?_; rintro e w2 ⟨rfl, rfl⟩
            go_wp2_with fail
            refine HN.out.mono ?_; rintro e w2 ⟨rfl, rfl⟩
            go_wp2_with fail
            go_roundw
            case rel => exact ⟨k + 1, by omega, by go_num, by rw [Hst.out], by first | rfl | trivial⟩
            case measure => simp [intOf]; omega
        · have f1 : decide (free < N) = false := by simpa using h1
          rw [if_neg (by omega)] at hstep
          have Hst := hid hstep
          clear h1 hstep
          go_wp2_with fail
          refine HN.out.mono ?_; rintro e w2 ⟨rfl, rfl⟩
          go_wp2_with fail
          go_roundw
          case rel => exact ⟨k + 1, by omega, by go_num, by rw [Hst.out], by first | rfl | trivial⟩
          case measure => simp [intOf]; omega
      · have a1 : decide (k < m.ts.length) = false := by simpa using hlt
        have e : ceil0 (m.ts.take k) res (max free 0) = R := by rw [List.take_of_length_le (by omega)]; exact HR.out
        rw [e]
        clear e
        go_wp2_with fail
        go_ret
        exact ⟨rfl, rfl⟩
  · have hz := ceil_hasnt h.tok.ok hh (free := max free 0) (by omega)
    rw [hz] at hR
    subst hR
    have hb : decide (res < 0) = true ∨ decide (res < 0) = false ∧ decide ((m.units.length : Int) ≤ res) = true := by
      unfold TM.has at hh
      by_cases h0 : res < 0
      · exact .inl (decide_eq_true h0)
      · exact .inr ⟨decide_eq_false h0, decide_eq_true (by omega)⟩
    clear h hz hh etv euv
    rcases hb with b0 | ⟨b0, b1⟩
    all_goals
      go_enter Tryz.func104, Tryz.ntmps104
      go_wp2_with fail
      go_ret
      exact ⟨rfl, rfl⟩
end
end Go.Proofs.YtnkjjhenfhnajaaGreatDoor

/-
  keelref5: the table in memory; known, Total, Free, Held, walked.
-/
namespace Go.Proofs.YtnkjjhenfhnajaaGreatDoor
open Go.RowKit Go.Kw Go.Kreg Go.Tm Go.Um
set_option linter.unusedSimpArgs false
set_option linter.unusedVariables false

abbrev TR5 : Nat := 180
abbrev TTn : Nat := 197
def tknC (l : List Tkn) : List Value := l.flatMap fun x => [.int .i64 x.job, .int .i64 x.res, .int .i64 x.n]
theorem tknC_app (l r : List Tkn) : tknC (l ++ r) = tknC l ++ tknC r := by simp [tknC]
theorem tknC_len (l : List Tkn) : (tknC l).length = l.length * 3 := by
  induction l with
  | nil => rfl
  | cons x l ih => simp only [tknC, List.flatMap_cons, List.length_append, List.length_cons, List.length_nil] at *; omega
theorem tknC_at {l : List Tkn} {i : Nat} {x : Tkn} (h : l[i]? = some x) : (tknC l)[i * 3]? = some (.int .i64 x.job) ∧ (tknC l)[i * 3 + 1]? = some (.int .i64 x.res) ∧ (tknC l)[i * 3 + 2]? = some (.int .i64 x.n) := by
  have hs : l = l.take i ++ (x :: l.drop (i + 1)) := by
    have := (List.getElem?_eq_some_iff.1 h)
    rw [← this.2, List.getElem_cons_drop, List.take_append_drop]
  have hl : (tknC (l.take i)).length = i * 3 := by
    rw [tknC_len, List.length_take]; have := (List.getElem?_eq_some_iff.1 h).1; omega
  have e : tknC l = tknC (l.take i) ++ ([.int .i64 x.job, .int .i64 x.res, .int .i64 x.n] ++ tknC (l.drop (i + 1))) := by
    conv => lhs; rw [hs]
    simp [tknC]
  rw [e]
  refine ⟨?_, ?_, ?_⟩
  all_goals
    rw [List.getElem?_append_right (by omega), hl]
    simp
theorem sumOf_take {p : Tkn → Bool} {l : List Tkn} {k : Nat} {x : Tkn} (h : l[k]? = some x) : sumOf p (l.take (k + 1)) = sumOf p (l.take k) + (if p x = true then x.n else 0) := by
  obtain ⟨hk, rfl⟩ := List.getElem?_eq_some_iff.1 h
  rw [List.take_succ_eq_append_getElem hk, sumOf_app]
  simp [sumOf]
def r5Cs (q : Nat) (m : UM) (v : Value × Value × Value) : List Ch :=
  [.pt q TR5 [v.1, v.2.1, v.2.2], .row TI' 1 v.1 m.us.length (intsC m.us), .row TTn 3 v.2.1 m.l.length (tknC m.l), .row TI' 1 v.2.2 m.us.length (intsC m.cs), .pr m.Ok]
def r5C (q : Nat) (m : UM) : Ch := .ex fun v => .stars (r5Cs q m v)
/-- For readers. -/
structure R5At (w : World) (q : Nat) (m : UM) (uv tv : Value) : Prop where
  c0 : w.cell? ⟨q, 0, none⟩ = some uv
  c1 : w.cell? ⟨q, 1, none⟩ = some tv
  uns : Own w TI' 1 uv m.us.length (intsC m.us)
  tks : Own w TTn 3 tv m.l.length (tknC m.l)
  ok : m.Ok
theorem r5_at {w w0 : World} {F0 : Nat → Prop} {cs : List Ch} {q : Nat} {m : UM} (i : Nat) (hS : St F0 w0 cs w) (hi : cs.getD i .emp = r5C q m := by rfl) : ∃ uv tv, R5At w q m uv tv := by
  obtain ⟨G, h, _⟩ := hS.at i hi
  obtain ⟨v, h⟩ := h
  have hS := St.of (cs := r5Cs q m v) h
  obtain ⟨_, hp, _⟩ := hS.at 4 rfl
  exact ⟨v.1, v.2.1, (hS.blk 0).cell 0, (hS.blk 0).cell 1, hS.own 1, hS.own 2, hp.1⟩
theorem R5At.keeps {w w' : World} {q : Nat} {m : UM} {uv tv : Value} (h : R5At w q m uv tv) (hk : Keeps (fun _ => False) w w') : R5At w' q m uv tv :=
  ⟨cellIn hk h.c0, cellIn hk h.c1, h.uns.keeps hk fun _ _ => id, h.tks.keeps hk fun _ _ => id, h.ok⟩
theorem free_eq {m : UM} (h : m.Ok) (r : Int) : m.free r = (if m.has r then m.tot r else 0) - sumOf (ofRes r) m.l := by
  unfold UM.free
  split
  · rfl
  · rename_i hr
    rw [sumOf_none fun x hx => by simp only [ofRes, decide_eq_false_iff_not]; exact fun e => hr (by rw [← e]; exact (h.ent x hx).2.1)]; rfl
theorem sum_bd {m : UM} (h : m.Ok) (p : Tkn → Bool) (k : Nat) : 0 ≤ sumOf p (m.l.take k) ∧ sumOf p (m.l.take k) ≤ 1040400 := by
  have hx : ∀ x ∈ m.l.take k, 1 ≤ x.n ∧ x.n ≤ 255 := fun x hx => by
    have hm := List.mem_of_mem_take hx
    have h1 := h.ent x hm
    have h2 := h.fit x.res h1.2.1
    have h3 := tot_bd h h1.2.1
    have h4 : x.n ≤ sumOf (ofRes x.res) m.l := by
      obtain ⟨a, b, e⟩ := List.append_of_mem hm
      rw [e, sumOf_app]
      have ha := sumOf_le (p := ofRes x.res) (q := ofRes x.res) (l := a) (fun y hy => by have := (h.ent y (by rw [e]; simp [hy])).2.2; omega) fun _ => id
      have hb := sumOf_le (p := ofRes x.res) (q := ofRes x.res) (l := b) (fun y hy => by have := (h.ent y (by rw [e]; simp [hy])).2.2; omega) fun _ => id
      have hm1 : ofRes x.res x = true := by simp [ofRes]
      simp only [sumOf, if_pos hm1]
      omega
    omega
  have gen : ∀ l : List Tkn, (∀ x ∈ l, 1 ≤ x.n ∧ x.n ≤ 255) → 0 ≤ sumOf p l ∧ sumOf p l ≤ l.length * 255 := by
    intro l
    induction l with
    | nil => intro _; simp [sumOf]
    | cons x l ih =>
      intro hl
      have := ih fun y hy => hl y (by simp [hy])
      have := hl x (by simp)
      simp only [sumOf, List.length_cons]
      split <;> omega
  have h1 := gen _ hx
  have h2 := locks_few h
  have h3 : (m.l.take k).length ≤ 4080 := by rw [List.length_take]; omega
  omega
section
variable {w : World} {q : Nat} {m : UM} {uv tv : Value}
set_option maxRecDepth 100000 in
theorem known_any (h : R5At w q m uv tv) (r : Int) : Calls Tryz.prog 118 #[.pointer (some ⟨q, 0, none⟩), .int .i64 r] w fun e w' => e = .returned (.bool (decide (m.has r))) ∧ w = w' := by
  have hc := h.c0
  obtain ⟨a, c, e, -⟩ := h.uns.shape
  rw [e] at hc
  obtain ⟨R, hR⟩ : ∃ R, decide (m.has r) = R := ⟨_, rfl⟩
  rw [hR]
  unfold UM.has at hR
  clear h e
  by_cases h0 : 0 ≤ r
  · have b0 : decide (0 ≤ r) = true := by simpa using h0
    by_cases h1 : r < m.us.length
    · have b1 : decide (r < (m.us.length : Int)) = true := by simpa using h1
      obtain rfl : R = true := by rw [← hR]; simp [h0, h1]
      clear hR h0 h1
      go_enter Tryz.func118, Tryz.ntmps118
      go_wp2_with fail
      go_ret
      exact ⟨rfl, rfl⟩
    · have b1 : decide (r < (m.us.length : Int)) = false := by simpa using h1
      obtain rfl : R = false := by rw [← hR]; simp [h0, h1]
      clear hR h0 h1
      go_enter Tryz.func118, Tryz.ntmps118
      go_wp2_with fail
      go_ret
      exact ⟨rfl, rfl⟩
  · have b0 : decide (0 ≤ r) = false := by simpa using h0
    obtain rfl : R = false := by rw [← hR]; simp [h0]
    clear hR h0
    go_enter Tryz.func118, Tryz.ntmps118
    go_wp2_with fail
    go_ret
    exact ⟨rfl, rfl⟩
set_option maxRecDepth 100000 in
theorem total_any (h : R5At w q m uv tv) (r : Int) : Calls Tryz.prog 149 #[.pointer (some ⟨q, 0, none⟩), .int .i64 r] w fun e w' => e = .returned (.int .i64 (if m.has r then m.tot r else 0)) ∧ w = w' := by
  have HH := hid (known_any h r)
  have hc := h.c0
  by_cases hh : m.has r
  · have hh2 := hh
    unfold UM.has at hh2
    obtain ⟨k, rfl⟩ := Int.eq_ofNat_of_zero_le hh2.1
    have hk : k < m.us.length := by omega
    have hf : m.us[k]? = some (m.tot k) := by
      unfold UM.tot
      rw [Int.toNat_natCast, List.getD_eq_getElem?_getD, List.getElem?_eq_getElem hk]; rfl
    obtain ⟨g, cap, e, -⟩ := h.uns.form (by omega)
    have ho := h.uns
    rw [e] at ho hc
    have d0 := ho.cells' (g := g) rfl (intsC_at hf)
    rw [decide_eq_true hh] at HH
    rw [if_pos hh]
    have i0 : (0 : Int) ≤ (k : Int) := by omega
    have i1 : (k : Int) < (m.us.length : Int) := by omega
    clear h hf ho e hh
    go_enter Tryz.func149, Tryz.ntmps149
    go_wp2_with fail
    refine HH.out.mono ?_; rintro e w1 ⟨rfl, rfl⟩
    go_wp2_with fail
    go_ret
    exact ⟨rfl, rfl⟩
  · rw [decide_eq_false hh] at HH
    rw [if_neg hh]
    clear h hh
    go_enter Tryz.func149, Tryz.ntmps149
    go_wp2_with fail
    refine HH.out.mono ?_; rintro e w1 ⟨rfl, rfl⟩
    go_wp2_with fail
    go_ret
    exact ⟨rfl, rfl⟩
set_option maxRecDepth 100000 in
set_option maxHeartbeats 1000000 in
theorem rfree_any (h : R5At w q m uv tv) (r : Int) : Calls Tryz.prog 119 #[.pointer (some ⟨q, 0, none⟩), .int .i64 r] w fun e w' => e = .returned (.int .i64 (m.free r)) ∧ w = w' := by
  have HT := hid (total_any h r)
  have hc := h.c1
  obtain ⟨ta, tc, e, -⟩ := h.tks.shape
  have ho := h.tks
  rw [e] at ho hc
  have hfe := free_eq h.ok r
  have hfew := locks_few h.ok
  have hsb := sum_bd h.ok (ofRes r)
  have hT0 : 0 ≤ (if m.has r then m.tot r else 0) ∧ (if m.has r then m.tot r else 0) ≤ 255 := by
    split
    · rename_i hr; have := tot_bd h.ok hr; omega
    · omega
  generalize (if m.has r then m.tot r else 0) = T at *
  obtain ⟨R, hR⟩ : ∃ R, m.free r = R := ⟨_, rfl⟩
  rw [hR] at hfe ⊢
  have HO := hid ho
  have HF := hid hfe
  have Hsb := hid hsb
  clear h ho hfe hsb hR e
  go_enter Tryz.func119, Tryz.ntmps119
  go_wp2_with fail
  refine HT.out.mono ?_; rintro e w1 ⟨rfl, rfl⟩
  clear HT
  go_wp2_with fail
  go_loopw [6, 5] (fun i z wr => ∃ (k : Nat), k ≤ m.l.length ∧ i = .int .i64 k ∧ z = .int .i64 (T - sumOf (ofRes r) (m.l.take k)) ∧ w = wr) (fun i _ _ => m.l.length - (intOf i).toNat)
  case atStart => exact ⟨0, Nat.zero_le _, rfl, by simp [sumOf], rfl⟩
  case round =>
    obtain ⟨k, hk, rfl, rfl, rfl⟩ := hrel
    by_cases hlt : k < m.l.length
    · have a1 : decide (k < m.l.length) = true := by simpa using hlt
      have hx := List.getElem?_eq_getElem hlt
      have hst := sumOf_take (p := ofRes r) hx
      have hs1 := Hsb.out k
      have hs2 := Hsb.out (k + 1)
      obtain ⟨x0, x1, x2⟩ := tknC_at hx
      obtain ⟨g, cap, e1, -⟩ := HO.out.form (by omega)
      cases e1
      generalize m.l[k] = x at *
      have d1 := HO.out.cells' (g := g) rfl x1
      have d2 := HO.out.cells' (g := g) rfl x2
      have i0 : (0 : Int) ≤ (k : Int) := by omega
      have i1 : (k : Int) < (m.l.length : Int) := by omega
      generalize hS : sumOf (ofRes r) (m.l.take k) = S at *
      generalize hS' : sumOf (ofRes r) (m.l.take (k + 1)) = S' at *
      have HS' := hid hS'
      clear x0 x1 x2 hx hS hS'
      by_cases he : x.res = r
      · have b1 : (x.res == r) = true := by simpa using he
        rw [if_pos (by simp [ofRes, he])] at hst
        have hlo : -1040400 ≤ T - S - x.n ∧ T - S - x.n ≤ 255 := by omega
        have Hst := hid hst
        clear he hst
        go_wp2_with fail
        go_roundw
        case rel => exact ⟨k + 1, by omega, by go_num, by rw [HS'.out]; have := Hst.out; go_num, by first | rfl | trivial⟩
        case measure => simp [intOf]; omega
      · have b1 : (x.res == r) = false := by simpa using he
        rw [if_neg (by simp [ofRes, he])] at hst
        have Hst := hid hst
        clear he hst
        go_wp2_with fail
        go_roundw
        case rel => exact ⟨k + 1, by omega, by go_num, by rw [HS'.out]; have := Hst.out; go_num, by first | rfl | trivial⟩
        case measure => simp [intOf]; omega
    · have a1 : decide (k < m.l.length) = false := by simpa using hlt
      rw [List.take_of_length_le (by omega), ← HF.out]
      go_wp2_with fail
      go_ret
      exact ⟨rfl, rfl⟩
set_option maxRecDepth 100000 in
set_option maxHeartbeats 1000000 in
theorem rheld_any (h : R5At w q m uv tv) (j r : Int) : Calls Tryz.prog 97 #[.pointer (some ⟨q, 0, none⟩), .int .i64 j, .int .i64 r] w fun e w' => e = .returned (.int .i64 (m.held j r)) ∧ w = w' := by
  have hc := h.c1
  obtain ⟨ta, tc, e, -⟩ := h.tks.shape
  have ho := h.tks
  rw [e] at ho hc
  have hfew := locks_few h.ok
  have hsb := sum_bd h.ok (ofBoth j r)
  obtain ⟨R, hR⟩ : ∃ R, m.held j r = R := ⟨_, rfl⟩
  rw [hR]
  unfold UM.held at hR
  have HO := hid ho
  have HF := hid hR
  have Hsb := hid hsb
  clear h ho hsb hR e
  go_enter Tryz.func97, Tryz.ntmps97
  go_wp2_with fail
  go_loopw [8, 7] (fun i z wr => ∃ (k : Nat), k ≤ m.l.length ∧ i = .int .i64 k ∧ z = .int .i64 (sumOf (ofBoth j r) (m.l.take k)) ∧ w = wr) (fun i _ _ => m.l.length - (intOf i).toNat)
  case atStart => exact ⟨0, Nat.zero_le _, rfl, by simp [sumOf], rfl⟩
  case round =>
    obtain ⟨k, hk, rfl, rfl, rfl⟩ := hrel
    by_cases hlt : k < m.l.length
    · have a1 : decide (k < m.l.length) = true := by simpa using hlt
      have hx := List.getElem?_eq_getElem hlt
      have hst := sumOf_take (p := ofBoth j r) hx
      have hs1 := Hsb.out k
      have hs2 := Hsb.out (k + 1)
      obtain ⟨x0, x1, x2⟩ := tknC_at hx
      obtain ⟨g, cap, e1, -⟩ := HO.out.form (by omega)
      cases e1
      generalize m.l[k] = x at *
      have d0 := HO.out.cells' (g := g) rfl x0
      have d1 := HO.out.cells' (g := g) rfl x1
      have d2 := HO.out.cells' (g := g) rfl x2
      have i0 : (0 : Int) ≤ (k : Int) := by omega
      have i1 : (k : Int) < (m.l.length : Int) := by omega
      generalize hS : sumOf (ofBoth j r) (m.l.take k) = S at *
      generalize hS' : sumOf (ofBoth j r) (m.l.take (k + 1)) = S' at *
      have HS' := hid hS'
      clear x0 x1 x2 hx hS hS'
      by_cases he : x.res = r
      · have b1 : (x.res == r) = true := by simpa using he
        by_cases hj : x.job = j
        · have b2 : (x.job == j) = true := by simpa using hj
          rw [if_pos (by simp [ofBoth, he, hj])] at hst
          have hlo : 0 ≤ S + x.n ∧ S + x.n ≤ 1040400 := by omega
          have Hst := hid hst
          clear he hj hst
          go_wp2_with fail
          go_roundw
          case rel => exact ⟨k + 1, by omega, by go_num, by rw [HS'.out]; have := Hst.out; go_num, by first | rfl | trivial⟩
          case measure => simp [intOf]; omega
        · have b2 : (x.job == j) = false := by simpa using hj
          rw [if_neg (by simp [ofBoth, he, hj])] at hst
          have Hst := hid hst
          clear he hj hst
          go_wp2_with fail
          go_roundw
          case rel => exact ⟨k + 1, by omega, by go_num, by rw [HS'.out]; have := Hst.out; go_num, by first | rfl | trivial⟩
          case measure => simp [intOf]; omega
      · have b1 : (x.res == r) = false := by simpa using he
        rw [if_neg (by simp [ofBoth, he])] at hst
        have Hst := hid hst
        clear he hst
        go_wp2_with fail
        go_roundw
        case rel => exact ⟨k + 1, by omega, by go_num, by rw [HS'.out]; have := Hst.out; go_num, by first | rfl | trivial⟩
        case measure => simp [intOf]; omega
    · have a1 : decide (k < m.l.length) = false := by simpa using hlt
      rw [List.take_of_length_le (by omega), HF.out]
      go_wp2_with fail
      go_ret
      exact ⟨rfl, rfl⟩
end
end Go.Proofs.YtnkjjhenfhnajaaGreatDoor

/-
  ceil.System, walked.
-/
namespace Go.Proofs.YtnkjjhenfhnajaaGreatDoor
open Go.RowKit Go.Kw Go.Kreg Go.Tm Go.Um
set_option linter.unusedSimpArgs false
set_option linter.unusedVariables false

/-- The greatest ceiling of the first k resources. -/
def sysTo (m : TM) (u : UM) : Nat → Int
  | 0 => 0
  | k + 1 => max (sysTo m u k) (m.ceilAt k (u.free k))
def sysM (m : TM) (u : UM) : Int := sysTo m u u.us.length
section
variable {w : World} {p q : Nat} {m : TM} {x : TabX} {u : UM} {y : UX}
end
end Go.Proofs.YtnkjjhenfhnajaaGreatDoor

/-
  keelref5.Lock, keelref6.System, walked.
-/
namespace Go.Proofs.YtnkjjhenfhnajaaGreatDoor
open Go.RowKit Go.Kw Go.Kreg Go.Tm Go.Um
set_option linter.unusedSimpArgs false
set_option linter.unusedVariables false

abbrev TTns : Nat := 178
theorem infoTn : (Tryz.prog.info? TTn).map (fun i => (i.zero, i.size, i.bytes)) = some (some (.agg #[.int .i64 0, .int .i64 0, .int .i64 0]), 3, 24) := by kernel_rfl
section
variable {w : World} {F : Nat → Prop} {q : Nat} {m : UM}
set_option maxRecDepth 100000 in
set_option maxHeartbeats 4000000 in
theorem rlock_any (h : Sts [r5C q m] F w) (j r n need : Int) (hnd : big need) : Calls Tryz.prog 48 #[.pointer (some ⟨q, 0, none⟩), .int .i64 j, .int .i64 r, .int .i64 n, .int .i64 need] w fun e w' => e = .returned (.int .i64 (m.lockErr j r n need)) ∧ St F w [r5C q (m.lock j r n need)] w' := by
  obtain ⟨uv, tv, hx⟩ := r5_at 0 (St.of h)
  have HS := hid (St.of h)
  have HK := hid (known_any hx r)
  have HH := hid (rheld_any hx j r)
  have HF := hid (rfree_any hx r)
  have hok := hx.ok
  by_cases e1 : j < 0
  · have he : m.lockErr j r n need = 1 := by unfold UM.lockErr; rw [if_pos (.inl e1)]
    have b1 : decide (j < 0) = true := by simpa using e1
    clear h hx e1
    have hlk : m.lock j r n need = m := by unfold UM.lock; rw [if_neg (by rw [he]; decide)]
    rw [he, hlk]
    clear he hlk
    go_enter Tryz.func48, Tryz.ntmps48
    go_wp2_with fail
    go_ret
    exact ⟨rfl, HS.out⟩
  have b1 : decide (j < 0) = false := by simpa using e1
  by_cases e2 : m.has r
  case neg =>
    have he : m.lockErr j r n need = 1 := by unfold UM.lockErr; rw [if_pos (.inr (.inl e2))]
    rw [decide_eq_false e2] at HK
    clear h hx e1 e2
    have hlk : m.lock j r n need = m := by unfold UM.lock; rw [if_neg (by rw [he]; decide)]
    rw [he, hlk]
    clear he hlk
    go_enter Tryz.func48, Tryz.ntmps48
    go_wp2_with fail
    refine HK.out.mono ?_; rintro e w1 ⟨rfl, rfl⟩
    go_wp2_with fail
    go_ret
    exact ⟨rfl, HS.out⟩
  rw [decide_eq_true e2] at HK
  have e2' := e2
  unfold UM.has at e2'
  obtain ⟨k, rfl⟩ := Int.eq_ofNat_of_zero_le e2'.1
  have hk : k < m.us.length := by omega
  have hf : m.us[k]? = some (m.tot k) := by
    unfold UM.tot
    rw [Int.toNat_natCast, List.getD_eq_getElem?_getD, List.getElem?_eq_getElem hk]; rfl
  have c0 := hx.c0
  obtain ⟨g, cap, e, -⟩ := hx.uns.form (by omega)
  have ho := hx.uns
  rw [e] at ho c0
  have d0 := ho.cells' (g := g) rfl (intsC_at hf)
  have i0 : (0 : Int) ≤ (k : Int) := by omega
  have i1 : (k : Int) < (m.us.length : Int) := by omega
  have htb := tot_bd hok e2
  have hhb := held_bd hok j e2
  by_cases e3 : n < 1
  · have he : m.lockErr j k n need = 1 := by unfold UM.lockErr; rw [if_pos (.inr (.inr (.inl e3)))]
    have b3 : decide (n < 1) = true := by simpa using e3
    have hlk : m.lock j k n need = m := by unfold UM.lock; rw [if_neg (by rw [he]; decide)]
    rw [he, hlk]
    clear h hx e1 e2 e2' e3 he hlk ho e hf
    go_enter Tryz.func48, Tryz.ntmps48
    go_wp2_with fail
    refine HK.out.mono ?_; rintro e w1 ⟨rfl, rfl⟩
    go_wp2_with fail
    go_ret
    exact ⟨rfl, HS.out⟩
  have b3 : decide (n < 1) = false := by simpa using e3
  by_cases e4 : m.tot k < n
  · have he : m.lockErr j k n need = 1 := by unfold UM.lockErr; rw [if_pos (.inr (.inr (.inr e4)))]
    have b4 : decide (m.tot k < n) = true := by simpa using e4
    have hlk : m.lock j k n need = m := by unfold UM.lock; rw [if_neg (by rw [he]; decide)]
    rw [he, hlk]
    clear h hx e1 e2 e2' e3 e4 he hlk ho e hf
    go_enter Tryz.func48, Tryz.ntmps48
    go_wp2_with fail
    refine HK.out.mono ?_; rintro e w1 ⟨rfl, rfl⟩
    go_wp2_with fail
    go_ret
    exact ⟨rfl, HS.out⟩
  have b4 : decide (m.tot k < n) = false := by simpa using e4
  have hbad : ¬ (j < 0 ∨ ¬ m.has k ∨ n < 1 ∨ m.tot k < n) := by
    rintro (h | h | h | h)
    · exact e1 h
    · exact h e2
    · exact e3 h
    · exact e4 h
  by_cases e5 : need < n + m.held j k
  · have he : m.lockErr j k n need = 22 := by unfold UM.lockErr; rw [if_neg hbad, if_pos e5]
    have b5 : decide (need < n + m.held j k) = true := by simpa using e5
    have hlk : m.lock j k n need = m := by unfold UM.lock; rw [if_neg (by rw [he]; decide)]
    rw [he, hlk]
    generalize m.held j k = HD at *
    clear h hx e1 e2 e2' e5 he hlk ho e hf hbad
    go_enter Tryz.func48, Tryz.ntmps48
    go_wp2_with fail
    refine HK.out.mono ?_; rintro e w1 ⟨rfl, rfl⟩
    go_wp2_with fail
    refine HH.out.mono ?_; rintro e w1 ⟨rfl, rfl⟩
    go_wp2_with fail
    go_ret
    exact ⟨rfl, HS.out⟩
  have b5 : decide (need < n + m.held j k) = false := by simpa using e5
  by_cases e6 : m.free k < n
  · have he : m.lockErr j k n need = 20 := by unfold UM.lockErr; rw [if_neg hbad, if_neg e5, if_pos e6]
    have b6 : decide (m.free k < n) = true := by simpa using e6
    have hlk : m.lock j k n need = m := by unfold UM.lock; rw [if_neg (by rw [he]; decide)]
    rw [he, hlk]
    generalize m.held j k = HD at *
    generalize m.free k = FR at *
    clear h hx e1 e2 e2' e5 he hlk ho e hf hbad e6
    go_enter Tryz.func48, Tryz.ntmps48
    go_wp2_with fail
    refine HK.out.mono ?_; rintro e w1 ⟨rfl, rfl⟩
    go_wp2_with fail
    refine HH.out.mono ?_; rintro e w1 ⟨rfl, rfl⟩
    go_wp2_with fail
    refine HF.out.mono ?_; rintro e w1 ⟨rfl, rfl⟩
    go_wp2_with fail
    go_ret
    exact ⟨rfl, HS.out⟩
  have b6 : decide (m.free k < n) = false := by simpa using e6
  have he : m.lockErr j k n need = 0 := by unfold UM.lockErr; rw [if_neg hbad, if_neg e5, if_neg e6]
  have hlk : m.lock j k n need = ⟨m.us, m.l ++ [⟨j, k, n⟩], m.cs⟩ := by unfold UM.lock; rw [if_pos he]
  have hok2 := lock_ok hok he
  rw [he, hlk]
  have hfew := locks_few hok
  obtain ⟨v, hS⟩ := (St.of h).opens 0 (fun v => r5Cs q m v) (fun F h => h)
  obtain ⟨v1, v2, v3⟩ := v
  simp only [r5Cs] at hS
  simp only [Kw.red] at hS
  have c1 := (hS.blk 1).cell 1
  have hz := (hS.blk 1).fz
  simp only [List.getElem?_cons_zero, List.getElem?_cons_succ] at c1
  have hql := (hS.blk 1).lt
  obtain ⟨ta, tc, e7, -⟩ := (hS.own 3).shape
  subst e7
  have hS1 := hS.new TTn [.int .i64 j, .int .i64 k, .int .i64 n]
  simp only [Kw.red] at hS1
  have HS1 := hid hS1
  have Hok2 := hid hok2
  generalize m.held j k = HD at *
  generalize m.free k = FR at *
  clear h hx e1 e2 e2' e5 he hlk ho e hf hbad e6 hS hS1 hok2
  go_enter Tryz.func48, Tryz.ntmps48
  go_wp2_with fail
  refine HK.out.mono ?_; rintro e w1 ⟨rfl, rfl⟩
  go_wp2_with fail
  refine HH.out.mono ?_; rintro e w1 ⟨rfl, rfl⟩
  go_wp2_with fail
  refine HF.out.mono ?_; rintro e w1 ⟨rfl, rfl⟩
  go_wp2_with (at_builtin; refine wpList_appS 3 6 _ _ TTns TTn (.agg #[.int .i64 0, .int .i64 0, .int .i64 0]) 3 24 infoTn Tryz.underlying178 rfl (by decide) rfl rfl HS1.out rfl rfl rfl rfl rfl (by simp [Value.oneCell']) (by omega) (by unfold maxLen; omega) (by omega) ?_; intro gb gc w7 hSc hat; have k0 := (hSc.blk 1).cell 1; have kz := (hSc.blk 1).fz; simp only [List.getElem?_cons_zero, List.getElem?_cons_succ] at k0)
  go_ret
  refine ⟨rfl, ?_⟩
  have hSd := hSc.set 1 1 (.slice (some ⟨gb, 0, none⟩) (m.l.length + 1) gc)
  simp only [Kw.red] at hSd
  have hL : m.l.length + 1 = (m.l ++ [(⟨j, k, n⟩ : Tkn)]).length := by simp
  have h2 := hSd.imp 5 (c := .pr m.Ok) (.pr (UM.mk m.us (m.l ++ [⟨j, k, n⟩]) m.cs).Ok) (fun F h => ⟨Hok2.out, h.2⟩)
  simp only [Kw.red] at h2
  have h3 := h2.sub [0, 1, 2, 3, 4, 5]
  simp only [Kw.red] at h3
  rw [show tknC m.l ++ [Value.int .i64 j, .int .i64 k, .int .i64 n] = tknC (m.l ++ [⟨j, k, n⟩]) by rw [tknC_app]; rfl] at h3
  rw [hL] at h3
  have h4 := (h3.fold [1, 2, 3, 4, 5] (r5C q (UM.mk m.us (m.l ++ [Tkn.mk j k n]) m.cs)) (fun F h => ⟨((v1, (.slice (some ⟨gb, 0, none⟩) (m.l ++ [(⟨j, k, n⟩ : Tkn)]).length gc, v3)) : Value × Value × Value), (show Sts (r5Cs q (UM.mk m.us (m.l ++ [⟨j, k, n⟩]) m.cs) (v1, .slice (some ⟨gb, 0, none⟩) (m.l ++ [(⟨j, k, n⟩ : Tkn)]).length gc, v3)) F _ from h)⟩)).sub [1]
  rw [← hL] at h4
  exact h4
end
section
variable {w : World} {p q : Nat} {m : TM} {y : RefX} {u : UM} {uv tv : Value}
end
end Go.Proofs.YtnkjjhenfhnajaaGreatDoor

/-
  keelref5.New, walked.
-/
namespace Go.Proofs.YtnkjjhenfhnajaaGreatDoor
open Go.RowKit Go.Kw Go.Kreg Go.Tm Go.Um
set_option linter.unusedSimpArgs false
set_option linter.unusedVariables false

abbrev TIw : Nat := 22
theorem st_r5 {w w0 : World} {F0 : Nat → Prop} {us : List Int} {uv cv : Value} (hok : (UM.start us).Ok)
    (hS : St F0 w0 [.row TI' 1 uv us.length (intsC us), .row TI' 1 cv us.length (List.replicate us.length (.int .i64 0))] w) :
    St F0 w0 [r5C w.heap.size (UM.start us)] (w.alloc (.cells #[uv, .slice none 0 0, cv] TR5)) := by
  have hS2 := hS.new TR5 [uv, .slice none 0 0, cv]
  have hS3 := hS2.add (Keeps.refl (fun _ => False) _) (G := fun _ => False) (c := .row TTn 3 (.slice none 0 0) 0 (tknC [])) ⟨⟨rfl, .inl ⟨rfl, rfl⟩⟩, fun b => by simp [Value.ownBlock]⟩ (fun _ h => h.elim)
  have hS4 := hS3.add (Keeps.refl (fun _ => False) _) (G := fun _ => False) (c := .pr (UM.start us).Ok) ⟨hok, fun _ => id⟩ (fun _ h => h.elim)
  have hS5 := hS4.fold [2, 0, 3, 1, 4] (r5C w.heap.size (UM.start us)) (fun F h => ⟨((uv, (.slice none 0 0, cv)) : Value × Value × Value), by
    have h2 : Sts [.pt w.heap.size TR5 [uv, .slice none 0 0, cv], .row TI' 1 uv us.length (intsC us), .row TTn 3 (.slice none 0 0) 0 (tknC []), .row TI' 1 cv us.length (List.replicate us.length (.int .i64 0)), .pr (UM.start us).Ok] F _ := h
    show Sts (r5Cs _ _ _) F _
    unfold r5Cs
    rw [show intsC (UM.start us).cs = List.replicate us.length (.int .i64 0) by simp [UM.start, intsC]]
    exact h2⟩)
  exact hS5.sub [2]
theorem st_row0 {w w0 : World} {F0 : Nat → Prop} {cs : List Ch} (hS : St F0 w0 cs w) : St F0 w0 (cs ++ [.row TI' 1 (.slice (some ⟨w.heap.size, 0, none⟩) 0 0) 0 []]) (w.alloc (.cells #[] TI')) :=
  st_addFull (n := 0) (xs := []) hS (Blk.new w TI' []) rfl ((Keeps.refl (fun _ => False) w).alloc _) (Nat.le_refl _) (by simp [maxLen])
section
variable {w : World} {v : Value}
set_option maxRecDepth 100000 in
set_option maxHeartbeats 2000000 in
theorem rnew_any {us : List Int} (hv : SlIn w v us) (hb1 : us.length ≤ 16) (hb2 : ∀ (i : Nat) n, us[i]? = some n → 1 ≤ n ∧ n ≤ 255) :
    Calls Tryz.prog 45 #[v] w fun e w' => ∃ p, e = .returned (.pointer (some ⟨p, 0, none⟩)) ∧ St (fun _ => False) w [r5C p (UM.start us)] w' := by
  have hv' := hv
  obtain ⟨ao, c, rfl, hl, hlc, hcm, hc, h0⟩ := hv
  have Hv := hid hv'
  have Hok := hid (start_ok hb1 hb2)
  have HS := hid (St.start w)
  clear hv' hc h0 hb2
  go_enter Tryz.func45, Tryz.ntmps45
  go_wp2_with fail
  refine wp_region_tree [false, true, false, true, true, false, false, false, false] 3 (.two 0 (.two 2 (.one 5 .done) 5 (.one 2 .done)) 5 (.one 0 (.one 2 .done))) (fun _ => False) (by kernel_rfl) (by decide +kernel) ?_
  simp only [front, back, List.drop_succ_cons, List.drop_zero]
  repeat ((first | refine wpFront_load rfl ?_ | refine wpFront_other rfl ?_); (first | go_big_quiet_step (fail) | quiet_step (fail)); refine wpQuiet_nil ?_)
  refine wpFront_nil ?_
  simp only [wpTr]
  refine And.intro ?_ ?_
  · refine at'_of rfl ?_
    go_wp2_with fail
    have hSe := st_row0 HS.out.drew
    try rw [show w4.heap.size = w.heap.size + 1 from hg4] at hSe
    have HSe := hid hSe
    clear hSe
    refine segQ_normal HSe.out.keeps ?_
    refine And.intro ?_ ?_
    · refine at'_of rfl ?_
      have hvv := Hv.out.new HSe.out.keeps
      obtain ⟨ao2, c2, e2, -, -, -, hsrc, hnn⟩ := hvv
      cases e2
      have Hsrc := hid (slin_src hsrc)
      have Hnn := hid (fun e => (show us.length = 0 ∧ c = 0 from ⟨by have := hnn e; omega, hnn e⟩))
      clear hsrc hnn
      refine wpList_appX 0 _ _ TIw TI' (.int .i64 0) 1 8 infoI Tryz.underlying22 rfl (by decide) rfl rfl HSe.out rfl rfl ao us.length c (intsC us) rfl (by rw [intsC_len, Nat.mul_one]) Hnn.out Hsrc.out (intsC_one _) (by unfold maxLen; omega) (by omega) ?_
      intro v7 w7 hSc hat
      have HSa := hid hSc
      clear hSc
      go_wp2_with fail
      refine segQ_normal HSa.out.keeps ?_
      refine at'_of rfl ?_
      refine wpList_mkfull _ _ 22 TI' (.int .i64 0) 8 infoI Tryz.underlying22 rfl rfl rfl .i64 .i64 _ _ us.length rfl rfl rfl rfl (by omega) (by unfold maxLen; omega) ?_
      intro w4 hb4 hk4 hg4
      have hSm := st_addFull (n := us.length) HSa.out hb4 (by simp) hk4 (Nat.le_refl _) (by unfold maxLen; omega)
      try rw [show (w.drew.alloc (.cells #[] TI')).heap.size = w.heap.size + 1 by simp] at hSm
      have HSm := hid hSm
      clear hSm
      clear hb4
      go_wp2_with fail
      refine segQ_normal HSm.out.keeps ?_
      have hSf := HSm.out
      rw [Nat.zero_add, List.nil_append] at hSf
      obtain ⟨xa, xc, rfl, -⟩ := (hSf.own 0).shape
      have hF := st_r5 Hok.out hSf
      try rw [show w4.heap.size = w7.heap.size + 1 from hg4] at hF
      try rw [show (w.alloc (.cells #[] TI')).drew.heap.size = w.heap.size + 1 by simp] at hF
      have HF := hid hF
      clear hSf hF
      go_wp2_with fail
      refine NoPanic.normal ?_
      go_wp2_with fail
      go_ret
      exact ⟨_, rfl, HF.out⟩
    · refine at'_of rfl ?_
      refine wpList_mkfull _ _ 22 TI' (.int .i64 0) 8 infoI Tryz.underlying22 rfl rfl rfl .i64 .i64 _ _ us.length rfl rfl rfl rfl (by omega) (by unfold maxLen; omega) ?_
      intro w4 hb4 hk4 hg4
      have hSm := st_addFull (n := us.length) HSe.out hb4 (by simp) hk4 (Nat.le_refl _) (by unfold maxLen; omega)
      try rw [show (w.drew.alloc (.cells #[] TI')).heap.size = w.heap.size + 1 by simp] at hSm
      have HSm := hid hSm
      clear hSm
      clear hb4
      go_wp2_with fail
      refine segQ_normal HSm.out.keeps ?_
      refine at'_of rfl ?_
      have hvv := Hv.out.new HSm.out.keeps
      obtain ⟨ao2, c2, e2, -, -, -, hsrc, hnn⟩ := hvv
      cases e2
      have Hsrc := hid (slin_src hsrc)
      have Hnn := hid (fun e => (show us.length = 0 ∧ c = 0 from ⟨by have := hnn e; omega, hnn e⟩))
      clear hsrc hnn
      refine wpList_appX 0 _ _ TIw TI' (.int .i64 0) 1 8 infoI Tryz.underlying22 rfl (by decide) rfl rfl HSm.out rfl rfl ao us.length c (intsC us) rfl (by rw [intsC_len, Nat.mul_one]) Hnn.out Hsrc.out (intsC_one _) (by unfold maxLen; omega) (by omega) ?_
      intro v7 w7 hSc hat
      have HSa := hid hSc
      clear hSc
      go_wp2_with fail
      refine segQ_normal HSa.out.keeps ?_
      have hSf := HSa.out
      rw [Nat.zero_add, List.nil_append] at hSf
      obtain ⟨xa, xc, rfl, -⟩ := (hSf.own 0).shape
      have hF := st_r5 Hok.out hSf
      try rw [show w4.heap.size = w7.heap.size + 1 from hg4] at hF
      try rw [show (w.alloc (.cells #[] TI')).drew.heap.size = w.heap.size + 1 by simp] at hF
      have HF := hid hF
      clear hSf hF
      go_wp2_with fail
      refine NoPanic.normal ?_
      go_wp2_with fail
      go_ret
      exact ⟨_, rfl, HF.out⟩
  · refine at'_of rfl ?_
    refine wpList_mkfull _ _ 22 TI' (.int .i64 0) 8 infoI Tryz.underlying22 rfl rfl rfl .i64 .i64 _ _ us.length rfl rfl rfl rfl (by omega) (by unfold maxLen; omega) ?_
    intro w4 hb4 hk4 hg4
    have hSm := st_addFull (n := us.length) HS.out.drew hb4 (by simp) hk4 (Nat.le_refl _) (by unfold maxLen; omega)
    try rw [show (w.drew.alloc (.cells #[] TI')).heap.size = w.heap.size + 1 by simp] at hSm
    have HSm := hid hSm
    clear hSm
    clear hb4
    go_wp2_with fail
    refine segQ_normal HSm.out.keeps ?_
    refine at'_of rfl ?_
    go_wp2_with fail
    have hSe := st_row0 HSm.out
    try rw [show w4.heap.size = w.heap.size + 1 from hg4] at hSe
    have HSe := hid hSe
    clear hSe
    refine segQ_normal HSe.out.keeps ?_
    refine at'_of rfl ?_
    have hvv := Hv.out.new HSe.out.keeps
    obtain ⟨ao2, c2, e2, -, -, -, hsrc, hnn⟩ := hvv
    cases e2
    have Hsrc := hid (slin_src hsrc)
    have Hnn := hid (fun e => (show us.length = 0 ∧ c = 0 from ⟨by have := hnn e; omega, hnn e⟩))
    clear hsrc hnn
    refine wpList_appX 1 _ _ TIw TI' (.int .i64 0) 1 8 infoI Tryz.underlying22 rfl (by decide) rfl rfl HSe.out rfl rfl ao us.length c (intsC us) rfl (by rw [intsC_len, Nat.mul_one]) Hnn.out Hsrc.out (intsC_one _) (by unfold maxLen; omega) (by omega) ?_
    intro v7 w7 hSc hat
    have HSa := hid hSc
    clear hSc
    go_wp2_with fail
    refine segQ_normal HSa.out.keeps ?_
    have hSf := HSa.out.sub [1, 0]
    rw [Nat.zero_add, List.nil_append] at hSf
    obtain ⟨xa, xc, rfl, -⟩ := (hSf.own 0).shape
    have hF := st_r5 Hok.out hSf
    try rw [show w4.heap.size = w7.heap.size + 1 from hg4] at hF
    try rw [show (w.alloc (.cells #[] TI')).drew.heap.size = w.heap.size + 1 by simp] at hF
    have HF := hid hF
    clear hSf hF
    go_wp2_with fail
    refine NoPanic.normal ?_
    go_wp2_with fail
    go_ret
    exact ⟨_, rfl, HF.out⟩
end
end Go.Proofs.YtnkjjhenfhnajaaGreatDoor

/-
  keelref5.Drop, walked.
-/
namespace Go.Proofs.YtnkjjhenfhnajaaGreatDoor
open Go.RowKit Go.Kw Go.Kreg Go.Tm Go.Um
set_option linter.unusedSimpArgs false
set_option linter.unusedVariables false

def keepJ (j : Int) (l : List Tkn) : List Tkn := l.filter fun x => !ofJob j x
section
variable {w : World} {F : Nat → Prop} {q : Nat} {m : UM}
end
end Go.Proofs.YtnkjjhenfhnajaaGreatDoor
