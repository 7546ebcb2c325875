/-
  keelbook's book of lists of numbers: what is kept in it.
-/
import Derived.Test.YtdjgijndcjbpiaaGreatDoorG20
import Derived.Test.YtdjgijndcjbpiaaGreatDoorG09
namespace Go.Proofs.YtdjgijndcjbpiaaGreatDoor
open Go.RowKit Go.Kw Go.Kreg
set_option linter.unusedSimpArgs false
set_option linter.unusedVariables false

abbrev TBk : Nat := 81
abbrev TS : Nat := 22
abbrev TSS : Nat := 79
theorem infoS : (Tryz.prog.info? TS).map (fun i => (i.zero, i.size, i.bytes)) = some (some (.slice none 0 0), 1, 24) := by kernel_rfl

structure Ent where
  blk : Option Nat
  n : Nat
  xs : List Value
  was : Value
def held (es : List Ent) : Nat := (es.map fun e => e.n + 1).sum
def entsC (es : List Ent) : List Ch := es.map fun e => .lst TI 1 e.blk e.n e.xs
def wasC (es : List Ent) : List Ch := es.map fun e => .vec TI 1 e.was e.n e.xs
def bookD (kb : Nat) (es : List Ent) (v : Value × Value) : List Ch :=
  [.pt kb TBk [v.1, v.2, .int .i64 (held es), .bool false], .row TS 1 v.1 es.length (es.map fun e => lval e.blk e.n), .row TS 1 v.2 es.length (es.map (·.was)), .stars (entsC es), .stars (wasC es)]
def bookC (kb : Nat) (es : List Ent) : Ch := .ex fun v => .stars (bookD kb es v)
theorem held_app (es : List Ent) (e : Ent) : held (es ++ [e]) = held es + (e.n + 1) := by simp [held]

section
variable {w : World} {kb : Nat} {es : List Ent} {F : Nat → Prop}
theorem book_start (h : (Ch.pt kb TBk [.slice none 0 0, .slice none 0 0, .int .i64 0, .bool false]).holds F w) : (bookC kb []).holds F w := by
  refine ⟨(.slice none 0 0, .slice none 0 0), Sts.more h ?_⟩
  intro c hc
  simp only [List.mem_cons, List.not_mem_nil, or_false] at hc
  rcases hc with rfl | rfl | rfl | rfl
  · exact ⟨⟨rfl, .inl ⟨rfl, rfl⟩⟩, fun b => by simp [Value.ownBlock]⟩
  · exact ⟨⟨rfl, .inl ⟨rfl, rfl⟩⟩, fun b => by simp [Value.ownBlock]⟩
  · exact Sts.nil w
  · exact Sts.nil w

set_option maxRecDepth 100000 in
set_option maxHeartbeats 1000000 in
theorem keep_any {blk : Option Nat} {n : Nat} {xs : List Value} (h : Sts [bookC kb es, .lst TI 1 blk n xs] F w) (h1 : ∀ u ∈ xs, u.oneCell' = true) (hx : n ≤ 65536) (hfew : es.length < 4000) (hheld : held es + (n + 1) ≤ 1000000) :
    Calls Tryz.prog 52 #[.pointer (some ⟨kb, 0, none⟩), lval blk n] w fun e w' => e = .returned (.tuple #[]) ∧ ∃ was, St F w [bookC kb (es ++ [⟨blk, n, xs, was⟩])] w' := by
  obtain ⟨⟨lsv, wsv⟩, hS⟩ := (St.of h).opens 0 (bookD kb es) (fun F h => h)
  clear h
  simp only [List.set_cons_zero, List.cons_append, List.nil_append, bookD] at hS
  obtain ⟨c0, c1, c2, c3, fz⟩ := cells4 (hS.blk 2)
  have hl := hS.lst 1
  have hxl : xs.length = n * 1 := hl.1
  have hnone := hid hl.none
  have lk : lsv.ownBlock ≠ some kb := (hS.own 3).neT (hS.blk 2) (by decide)
  have wk : wsv.ownBlock ≠ some kb := (hS.own 4).neT (hS.blk 2) (by decide)
  clear hl
  unfold lval
  generalize hao : (blk.map fun g => (⟨g, 0, none⟩ : Addr)) = ao at *
  have Hao := hid hao
  clear hao
  go_enter Tryz.func52, Tryz.ntmps52
  have hS1 := hS.new TS [.slice ao n n]
  go_wp2_with (at_builtin; refine wpList_appS 3 7 _ _ TSS TS (.slice none 0 0) 1 24 infoS Tryz.underlying79 rfl (by decide) rfl rfl hS1 rfl rfl rfl rfl rfl (by simp [Value.oneCell']) (by omega) (by unfold maxLen; omega) (by omega) ?_; intro g gc w1 hS2 hat; obtain ⟨d0, d1, d2, d3, dz⟩ := cells4 (hS2.blk 2))
  have hS3 := hS2.set 2 0 (.slice (some ⟨g, 0, none⟩) (es.length + 1) gc)
  clear d0 d1 d2 d3 dz c0 c1 c2 c3 fz hS hS1 hS2 hat
  generalize w1.setCell ⟨kb, 0, none⟩ (.slice (some ⟨g, 0, none⟩) (es.length + 1) gc) = w2 at *
  simp only [List.set_cons_zero, List.set_cons_succ, List.cons_append, List.nil_append] at hS3
  obtain ⟨c0, c1, c2, c3, fz⟩ := cells4 (hS3.blk 2)
  refine wp_region_mix [true, true, true, true, true, true, false, false, false, false, false, false] 2 (fun _ => False) (by kernel_rfl) (by decide +kernel) ?_
  simp only [front, back, List.take_succ_cons, List.take_zero, List.drop_succ_cons, List.drop_zero]
  repeat ((first | refine wpFront_load rfl ?_ | refine wpFront_other rfl ?_); (first | go_big_quiet_step (fail) | quiet_step (fail)); refine wpQuiet_nil ?_)
  refine wpFront_nil ?_
  simp only [wpSegs]
  have hS4 := hS3.drew
  refine wpList_app_nil _ _ TS TI (.int .i64 0) 1 8 infoI Tryz.underlying22 rfl (by decide) rfl rfl rfl ao n n xs rfl hxl hnone.out (by rw [← Hao.out]; exact (hS4.lst 1).src) h1 (by unfold maxLen; omega) (by omega) ?_
  intro ra rc w3 hV3 hK3 hN3
  have hS5 := hS4.add hK3 (G := fun b => (Value.slice ra n rc).ownBlock = some b) (c := .vec TI 1 (.slice ra n rc) n xs) ⟨hV3, fun _ => Iff.rfl⟩ hN3
  have k3 : Keeps (fun _ => False) w2 w3 := (Keeps.refl _ w2).drew.trans hK3
  refine segQ_normal k3 ?_
  go_wp2_with fail
  refine segQ_normal (k3.alloc _) ?_
  have hS6 := hS5.new TS [.slice ra n rc]
  clear hS3 hS4 hS5 hV3 hN3 c0 c1 c2 c3 fz
  refine wpList_appS 4 9 _ _ TSS TS (.slice none 0 0) 1 24 infoS Tryz.underlying79 rfl (by decide) rfl rfl hS6 rfl rfl rfl rfl rfl (by simp [Value.oneCell']) (by omega) (by unfold maxLen; omega) (by omega) ?_
  intro g2 gc2 w4 hS7 hat2
  obtain ⟨c0, c1, c2, c3, fz⟩ := cells4 (hS7.blk 2)
  go_wp2_with fail
  refine NoPanic.normal ?_
  have hS8 := hS7.set 2 1 (.slice (some ⟨g2, 0, none⟩) (es.length + 1) gc2)
  go_wp2_with fail
  have hS9 := hS8.set 2 2 (.int .i64 ((held es : Int) + n + 1))
  clear hS6 hS7 hS8 hat2 c0 c1 c2 c3 fz
  generalize (w4.setCell ⟨kb, 1, none⟩ (.slice (some ⟨g2, 0, none⟩) (es.length + 1) gc2)).setCell ⟨kb, 2, none⟩ (.int .i64 ((held es : Int) + n + 1)) = w6 at *
  simp only [List.set_cons_zero, List.set_cons_succ, List.cons_append, List.nil_append] at hS9
  obtain ⟨c0, c1, c2, c3, fz⟩ := cells4 (hS9.blk 2)
  have fin : ∃ was, St F w [bookC kb (es ++ [⟨blk, n, xs, was⟩])] w6 := by
    have hh : ((held es : Int) + n + 1) = (held (es ++ [⟨blk, n, xs, .slice ra n rc⟩]) : Nat) := by rw [held_app]; simp only []; omega
    have hT := (((hS9.snoc 5 1).snoc 6 8).fold [2, 3, 4, 5, 6] (bookC kb (es ++ [⟨blk, n, xs, .slice ra n rc⟩])) (fun F h => ⟨(_, _), by
      rw [hh, ← Hao.out] at h
      show Sts _ F _
      simpa [bookD, entsC, wasC, lval, sel] using h⟩)).sub [2]
    exact ⟨_, hT⟩
  have Fin := hid fin
  clear fin hS9
  have b1 : decide ((1000000 : Int) < (held es : Int) + n + 1) = false := by simp; omega
  have b2 : decide ((4000 : Int) < (es.length : Int) + 1) = false := by simp; omega
  go_loopw [] (fun wr => w6 = wr) (fun _ => 0)
  case atStart => rfl
  case round =>
    subst hrel
    by_cases hz : 0 < es.length
    · have b3 : decide ((1 : Int) < (es.length : Int) + 1) = true := by simp; omega
      go_wp2_with fail
      go_end0
      exact ⟨rfl, Fin.out⟩
    · have b3 : decide ((1 : Int) < (es.length : Int) + 1) = false := by simp; omega
      go_wp2_with fail
      go_end0
      exact ⟨rfl, Fin.out⟩

/-- The numbers of a list, as Go's Same takes them. -/
theorem lies.rd {w : World} {b : Option Nat} {n : Nat} {l : List Int} (h : lies w TI 1 b n (intsC l)) (hl : n ≤ 65536) : Rd w (lval b n) l.length 1 (intsC l) := by
  have hn : l.length = n := by have := h.1; rw [intsC_len] at this; omega
  subst hn
  cases b with
  | none =>
    have : l = [] := List.eq_nil_of_length_eq_zero h.2
    subst this
    exact ⟨none, 0, rfl, by simp, rfl, fun j u hj => by simp [intsC] at hj⟩
  | some g => exact Rd.blk h.2 (by omega) (by rw [intsC_len, Nat.mul_one])
theorem Vec.rd {w : World} {n : Nat} {v : Value} {l : List Int} (h : Vec w TI 1 v n (intsC l)) (hl : l.length ≤ 9223372036854775807) : Rd w v l.length 1 (intsC l) := by
  have hn : l.length = n := by have := h.1; rw [intsC_len] at this; omega
  subst hn
  rcases h.2 with ⟨rfl, h0⟩ | ⟨g, cap, cur, rfl, _, hc, _⟩
  · have : l = [] := List.eq_nil_of_length_eq_zero h0
    subst this
    exact ⟨none, 0, rfl, by simp, rfl, fun j u hj => by simp [intsC] at hj⟩
  · exact ⟨_, cap, rfl, hl, by rw [intsC_len, Nat.mul_one], fun j u hj => ⟨g, 0, rfl, by rw [Nat.zero_add]; exact h.cells' rfl hj⟩⟩

def numsOk (es : List Ent) : Prop := ∀ e ∈ es, e.n ≤ 65536 ∧ ∃ l, e.xs = intsC l
theorem numsOk.app {es : List Ent} (h : numsOk es) {e : Ent} (h1 : e.n ≤ 65536) (l : List Int) (h2 : e.xs = intsC l) : numsOk (es ++ [e]) := by
  intro x hx
  rcases List.mem_append.1 hx with hx | hx
  · exact h x hx
  · rw [List.mem_singleton.1 hx]; exact ⟨h1, l, h2⟩

set_option maxRecDepth 100000 in
set_option maxHeartbeats 1000000 in
theorem stays_any {v : Value × Value} (h : Sts (bookD kb es v) F w) (hfew : es.length ≤ 4000) (hok : numsOk es) :
    Calls Tryz.prog 130 #[.pointer (some ⟨kb, 0, none⟩)] w fun e w' => e = .returned (.bool true) ∧ St F w (bookD kb es v) w' := by
  obtain ⟨lsv, wsv⟩ := v
  have hS := St.of h
  clear h
  unfold bookD at *
  go_enter Tryz.func130, Tryz.ntmps130
  go_wp2_with fail
  go_loopw [3] (fun i wr => ∃ k : Nat, k ≤ es.length ∧ i = .int .i64 k ∧ St F w (bookD kb es (lsv, wsv)) wr) (fun i _ => es.length - (intOf i).toNat)
  case atStart => exact ⟨0, Nat.zero_le _, rfl, hS⟩
  case round =>
    clear hS
    obtain ⟨k, hk, rfl, hS⟩ := hrel
    have HS := hid hS
    unfold bookD at hS
    obtain ⟨c0, c1, c2, c3, fz⟩ := cells4 (hS.blk 0)
    by_cases hlt : k < es.length
    · have hL := hS.own 1
      have hW := hS.own 2
      obtain ⟨g, gc, e1, _⟩ := hL.form (by omega)
      obtain ⟨g2, gc2, e2, _⟩ := hW.form (by omega)
      simp only at e1 e2
      subst e1; subst e2
      have hx := List.getElem?_eq_getElem hlt
      generalize es[k] = en at *
      have d1 := hL.cells' (g := g) rfl (j := k) (u := lval en.blk en.n) (by simp [hx])
      have d2 := hW.cells' (g := g2) rfl (j := k) (u := en.was) (by simp [hx])
      obtain ⟨hn, l, hl⟩ := hok en (List.mem_of_getElem? hx)
      obtain ⟨F1, f1'⟩ := hS.elemAt 3 k (ds := entsC es) (c := .lst TI 1 en.blk en.n en.xs) (by simp [entsC, hx])
      obtain ⟨F2, f2'⟩ := hS.elemAt 4 k (ds := wasC es) (c := .vec TI 1 en.was en.n en.xs) (by simp [wasC, hx])
      have f1 := f1'.1
      have f2 := f2'.1
      rw [hl] at f1 f2
      have hln : l.length = en.n := by have := f1.1; rw [intsC_len] at this; omega
      rw [← hln] at f2
      have s1 := lies.rd f1 hn
      unfold lval at d1 s1
      have s1' := hid s1
      clear s1
      generalize en.blk.map (fun g => (⟨g, 0, none⟩ : Addr)) = ao at *
      have s2 := hid (Vec.rd f2 (by omega))
      obtain ⟨wa, wc, e3, _⟩ := Vec.shape f2
      rw [e3] at d2 s2
      have i0 : (0 : Int) ≤ (k : Int) := by omega
      have i1 : (k : Int) < (es.length : Int) := by omega
      have b1 : decide ((k : Int) < (es.length : Int)) = true := by simp; omega
      clear hL hW hS hx hl f1 f2 hln e3 f1' f2'
      go_wp2_with fail
      refine wp_region_mix [true, true, true, true, true, true, true, true, true, true, true, true, true, true, true, true, true, true, true, true, false, false, false, false, false, false] 0 (fun _ => False) (by kernel_rfl) (by decide +kernel) ?_
      simp only [front, back, List.take_zero, List.drop_zero]
      repeat ((first | refine wpFront_load rfl ?_ | refine wpFront_other rfl ?_); (first | go_big_quiet_step (fail) | quiet_step (fail)); refine wpQuiet_nil ?_)
      refine wpFront_nil ?_
      simp only [wpSegs]
      go_wp2_with fail
      have hsm := sameI_any (s1'.out.new ((Keeps.refl _ _).drewN 1)) (s2.out.new ((Keeps.refl _ _).drewN 1))
      rw [decide_eq_true rfl] at hsm
      refine hsm.mono ?_; rintro e w4 ⟨rfl, n4, rfl⟩
      go_wp2_with fail
      refine NoPanic.normal ?_
      go_wp2_with fail
      have hS5 := ((HS.out.drewN (1 + n4)).set 0 3 (.bool false))
      go_roundw
      case rel => exact ⟨k + 1, by omega, by go_num, hS5⟩
      case measure => simp [intOf]; omega
    · have b1 : decide ((k : Int) < (es.length : Int)) = false := by simp; omega
      obtain ⟨a, c, e, _⟩ := (hS.own 1).shape
      simp only at e
      subst e
      clear hS
      go_wp2_with fail
      go_ret
      exact ⟨rfl, HS.out⟩

theorem mark_any (i j : Int) (w : World) (h0 : 0 ≤ i) (h1 : i ≤ 1000000) : Calls Tryz.prog 54 #[.int .i64 i, .int .i64 j] w fun e w' => e = .returned (.int .i64 (-1000 - i)) ∧ w = w' := by
  go_enter Tryz.func54, Tryz.ntmps54
  go_wp2_with fail
  go_ret
  exact ⟨rfl, rfl⟩

/-- The first k lists marked. -/
def mk (k : Nat) (es : List Ent) : List Ent := es.mapIdx fun i e => if i < k then { e with xs := List.replicate e.n (.int .i64 (-1000 - i)) } else e
theorem mk_zero (es : List Ent) : mk 0 es = es := by
  unfold mk
  apply List.ext_getElem? ; intro i; simp
theorem mk_at (k : Nat) (es : List Ent) (i : Nat) : (mk k es)[i]? = es[i]?.map fun e => if i < k then { e with xs := List.replicate e.n (.int .i64 (-1000 - i)) } else e := by
  unfold mk; simp
theorem mk_lists (k : Nat) (es : List Ent) : (mk k es).map (fun e => lval e.blk e.n) = es.map fun e => lval e.blk e.n := by
  apply List.ext_getElem?; intro i
  simp only [List.getElem?_map, mk_at]
  cases es[i]? <;> simp
  split <;> rfl
theorem entsC_at {es : List Ent} {i : Nat} {e : Ent} (h : es[i]? = some e) : (entsC es).getD i .emp = .lst TI 1 e.blk e.n e.xs := by simp [entsC, h]
theorem mk_next {es : List Ent} {k : Nat} {e : Ent} (h : es[k]? = some e) : ((entsC (mk k es)).set k .emp).set k (.lst TI 1 e.blk e.n (List.replicate e.n (.int .i64 (-1000 - k)))) = entsC (mk (k + 1) es) := by
  rw [List.set_set]
  apply List.ext_getElem?; intro i
  rw [List.getElem?_set]
  have hk : k < (entsC (mk k es)).length := by
    have := (List.getElem?_eq_some_iff.1 h).1
    simpa [entsC, mk] using this
  simp only [hk]
  by_cases hik : k = i
  · subst hik
    simp [entsC, mk_at, h]
  · simp only [hik, if_false, entsC, List.getElem?_map, mk_at]
    cases es[i]? with
    | none => rfl
    | some x =>
      have : (i < k) = (i < k + 1) := by apply propext; omega
      simp [this]

set_option maxRecDepth 100000 in
set_option maxHeartbeats 2000000 in
theorem apart_any (h : Sts [bookC kb es] F w) (hfew : es.length ≤ 4000) (hok : numsOk es) :
    Calls Tryz.prog 53 #[.pointer (some ⟨kb, 0, none⟩), .func (.func 54) #[] #[]] w fun e w' => e = .returned (.bool true) ∧ St F w [] w' := by
  obtain ⟨⟨lsv, wsv⟩, h2⟩ := Sts.of_one h
  have h2 : Sts (bookD kb es (lsv, wsv)) F w := h2
  have hcl : ∀ e ∈ es, e.xs.length = e.n ∧ e.n ≤ 65536 := by
    intro e he
    obtain ⟨i, hi⟩ := List.getElem?_of_mem he
    obtain ⟨F1, f1⟩ := (St.of h2).elemAt 3 i (entsC_at hi)
    have := f1.1.1
    exact ⟨by omega, (hok e he).1⟩
  have Hcl := hid hcl
  clear h hcl
  go_enter Tryz.func53, Tryz.ntmps53
  go_wp2_with fail
  refine (stays_any h2 hfew hok).mono ?_; rintro e w1 ⟨rfl, hS⟩
  have hS := hS.sub [0, 1, 3]
  simp only [sel, bookD, List.getD_cons_zero, List.getD_cons_succ, List.set_cons_zero, List.set_cons_succ] at hS
  clear h2
  go_wp2_with fail
  go_loopw [5] (fun i wr => ∃ k : Nat, k ≤ es.length ∧ i = .int .i64 k ∧ St F w [.pt kb TBk [lsv, wsv, .int .i64 (held es), .bool false], .row TS 1 lsv es.length (es.map fun e => lval e.blk e.n), .stars (entsC (mk k es))] wr) (fun i _ => es.length - (intOf i).toNat)
  case atStart => exact ⟨0, Nat.zero_le _, rfl, by rw [mk_zero]; exact hS⟩
  case round =>
    clear hS
    obtain ⟨k, hk, rfl, hS⟩ := hrel
    have HS := hid hS
    obtain ⟨c0, c1, c2, c3, fz⟩ := cells4 (hS.blk 0)
    by_cases hlt : k < es.length
    · have hL := hS.own 1
      obtain ⟨g, gc, e1, _⟩ := hL.form (by omega)
      subst e1
      have hx := List.getElem?_eq_getElem hlt
      generalize es[k] = en at *
      have Hx := hid hx
      have d1 := hL.cells' (g := g) rfl (j := k) (u := lval en.blk en.n) (by simp [hx])
      have hE := hS.elem 2 k (ds := entsC (mk k es)) (c := .lst TI 1 en.blk en.n en.xs) (entsC_at (by rw [mk_at, hx]; simp))
      simp only [List.set_cons_zero, List.set_cons_succ, List.cons_append, List.nil_append] at hE
      have HE := hid hE
      obtain ⟨hxn, hn⟩ := Hcl.out en (List.mem_of_getElem? hx)
      have hnb := hid (hE.lst 3).none
      have i0 : (0 : Int) ≤ (k : Int) := by omega
      have i1 : (k : Int) < (es.length : Int) := by omega
      have b1 : decide ((k : Int) < (es.length : Int)) = true := by simp; omega
      unfold lval at d1
      generalize hao : en.blk.map (fun g => (⟨g, 0, none⟩ : Addr)) = ao at *
      have Hao := hid hao
      have j0 : (0 : Int) ≤ (en.n : Int) := by omega
      have j1 : (en.n : Int) ≤ (en.n : Int) := by omega
      clear hL hS hx hE hao hxn
      go_wp2_with fail
      go_quiet (fail)
      go_wp2_with fail
      have hE := HE.out.drewN nq
      generalize wr.drewN nq = wr1 at *
      clear c0 c1 c2 c3 fz d1
      go_loopw [7] (fun i wr => ∃ j : Nat, j ≤ en.n ∧ i = .int .i64 j ∧ St F w [.pt kb TBk [.slice (some ⟨g, 0, none⟩) es.length gc, wsv, .int .i64 (held es), .bool false], .row TS 1 (.slice (some ⟨g, 0, none⟩) es.length gc) es.length (es.map fun e => lval e.blk e.n), .stars ((entsC (mk k es)).set k .emp), .lst TI 1 en.blk en.n (List.replicate j (.int .i64 (-1000 - k)) ++ en.xs.drop j)] wr) (fun i _ => en.n - (intOf i).toNat)
      case atStart => exact ⟨0, Nat.zero_le _, rfl, by simpa using hE⟩
      case round =>
        clear hE
        obtain ⟨j, hj, rfl, hE⟩ := hrel
        obtain ⟨hxn, _⟩ := Hcl.out en (List.mem_of_getElem? Hx.out)
        have HE2 := hid hE
        by_cases hjl : j < en.n
        · have b2 : decide ((j : Int) < (en.n : Int)) = true := by simp; omega
          obtain ⟨g1, hg1⟩ : ∃ g1, en.blk = some g1 := by
            cases hb : en.blk with
            | some g1 => exact ⟨g1, rfl⟩
            | none => have := (hnb.out (by rw [← Hao.out, hb]; rfl)).1; omega
          have hao := Hao.out
          rw [hg1] at hao
          simp only [Option.map_some] at hao
          subst hao
          rw [hg1] at hE
          have hl := hE.lst 3
          have hset := hE.setLst 3 j (.int .i64 (-1000 - k))
          have hdj : en.xs.drop j = en.xs.getD j undef :: en.xs.drop (j + 1) := by
            rw [List.drop_eq_getElem_cons (by omega)]; simp [List.getD_eq_getElem?_getD, List.getElem?_eq_getElem (show j < en.xs.length by omega)]
          have d0 : wr.cell? ⟨g1, j, none⟩ = some (en.xs.getD j undef) := hl.2.at (by rw [hdj, List.getElem?_append_right (by simp)]; simp)
          have dz : ∀ o, wr.frozen? ⟨g1, o, none⟩ = false := hl.2.fz
          have hsx : (List.replicate j (Value.int .i64 (-1000 - k)) ++ en.xs.drop j).set j (.int .i64 (-1000 - k)) = List.replicate (j + 1) (.int .i64 (-1000 - k)) ++ en.xs.drop (j + 1) := by
            rw [hdj, List.set_append_right _ _ (by simp)]
            simp [List.replicate_succ']
          rw [hsx, ← hg1] at hset
          simp only [List.set_cons_zero, List.set_cons_succ] at hset
          have Hset := hid hset
          have i2 : (0 : Int) ≤ (j : Int) := by omega
          have i3 : (j : Int) < (en.n : Int) := by omega
          clear hE hl hset hdj hsx hxn
          go_wp2_with fail
          refine (mark_any _ _ _ (by omega) (by omega)).mono ?_; rintro e w3 ⟨rfl, rfl⟩
          go_wp2_with fail
          go_roundw
          case rel => exact ⟨j + 1, by omega, by go_num, Hset.out⟩
          case measure => simp [intOf]; omega
        · have b2 : decide ((j : Int) < (en.n : Int)) = false := by simp; omega
          have hxs : List.replicate j (Value.int .i64 (-1000 - k)) ++ en.xs.drop j = List.replicate en.n (.int .i64 (-1000 - k)) := by
            rw [show j = en.n by omega, ← hxn]; simp
          rw [hxs] at hE
          have hU := hE.unelem 2 3 k (ds := (entsC (mk k es)).set k .emp) (by decide) set_emp_getD
          simp only [List.set_cons_zero, List.set_cons_succ, List.getD_cons_zero, List.getD_cons_succ] at hU
          rw [mk_next Hx.out] at hU
          have hU := hid (hU.sub [0, 1, 2])
          clear hE hxs hxn
          go_wp2_with fail
          go_roundw
          case rel => exact ⟨k + 1, by omega, by go_num, hU.out⟩
          case measure => simp [intOf]; omega
    · have b1 : decide ((k : Int) < (es.length : Int)) = false := by simp; omega
      obtain rfl : k = es.length := by omega
      obtain ⟨a, c, e, _⟩ := (hS.own 1).shape
      subst e
      clear hS
      go_wp2_with fail
      clear c0 c1 c2 c3 fz
      go_loopw [8] (fun i wr => ∃ k : Nat, k ≤ es.length ∧ i = .int .i64 k ∧ St F w [.pt kb TBk [.slice a es.length c, wsv, .int .i64 (held es), .bool false], .row TS 1 (.slice a es.length c) es.length (es.map fun e => lval e.blk e.n), .stars (entsC (mk es.length es))] wr) (fun i _ => es.length - (intOf i).toNat)
      case atStart => exact ⟨0, Nat.zero_le _, rfl, HS.out⟩
      case round =>
        clear HS
        obtain ⟨k, hk, rfl, hS⟩ := hrel
        have HS := hid hS
        obtain ⟨c0, c1, c2, c3, fz⟩ := cells4 (hS.blk 0)
        by_cases hlt : k < es.length
        · have hL := hS.own 1
          obtain ⟨g, gc, e1, _⟩ := hL.form (by omega)
          simp only [Value.slice.injEq, true_and] at e1
          obtain ⟨rfl, rfl⟩ := e1
          have hx := List.getElem?_eq_getElem hlt
          generalize es[k] = en at *
          have d1 := hL.cells' (g := g) rfl (j := k) (u := lval en.blk en.n) (by simp [hx])
          obtain ⟨F1, f1⟩ := hS.elemAt 2 k (ds := entsC (mk es.length es)) (entsC_at (by rw [mk_at, hx]; simp [hlt]; rfl))
          obtain ⟨hxn, hn⟩ := Hcl.out en (List.mem_of_getElem? hx)
          have hf := hid f1.1
          have hnb := hid f1.1.none
          have i0 : (0 : Int) ≤ (k : Int) := by omega
          have i1 : (k : Int) < (es.length : Int) := by omega
          have b1 : decide ((k : Int) < (es.length : Int)) = true := by simp; omega
          unfold lval at d1
          simp only at hf hnb
          generalize hao : en.blk.map (fun g => (⟨g, 0, none⟩ : Addr)) = ao at *
          have Hao := hid hao
          have j0 : (0 : Int) ≤ (en.n : Int) := by omega
          have j1 : (en.n : Int) ≤ (en.n : Int) := by omega
          clear hL hS hx f1 hao hxn
          go_wp2_with fail
          go_quiet (fail)
          go_wp2_with fail
          have HS1 := hid (HS.out.drewN nq)
          have hf1 : lies (wr.drewN nq) TI 1 en.blk en.n (List.replicate en.n (.int .i64 (-1000 - k))) := hf.out.keeps ((Keeps.refl (fun _ => False) wr).drewN nq) fun _ _ => id
          have Hf := hid hf1
          clear c0 c1 c2 c3 fz d1 hf hf1 HS
          generalize wr.drewN nq = wr1 at *
          go_loopw [10] (fun i wr => ∃ (j nd : Nat), j ≤ en.n ∧ i = .int .i64 j ∧ wr = wr1.drewN nd) (fun i _ => en.n - (intOf i).toNat)
          case atStart => exact ⟨0, 0, Nat.zero_le _, rfl, rfl⟩
          case round =>
            obtain ⟨j, nd, hj, rfl, rfl⟩ := hrel
            by_cases hjl : j < en.n
            · have b2 : decide ((j : Int) < (en.n : Int)) = true := by simp; omega
              obtain ⟨g1, hg1⟩ : ∃ g1, en.blk = some g1 := by
                cases hb : en.blk with
                | some g1 => exact ⟨g1, rfl⟩
                | none => have := (hnb.out (by rw [← Hao.out, hb]; rfl)).1; omega
              have hao := Hao.out
              have hl := Hf.out
              rw [hg1] at hao hl
              simp only [Option.map_some] at hao
              subst hao
              have d0 : wr1.cell? ⟨g1, j, none⟩ = some (.int .i64 (-1000 - k)) := hl.2.at (by simp [hjl])
              have i2 : (0 : Int) ≤ (j : Int) := by omega
              have i3 : (j : Int) < (en.n : Int) := by omega
              have e1 : ((-1000 - (k : Int)) != (-1000 - (k : Int))) = false := by simp
              clear hl
              go_wp2_with fail
              go_quiet (exact (mark_any _ _ _ (by omega) (by omega)).mono fun e w' h => ⟨h.1, _, h.2.symm⟩)
              go_wp2_with fail
              go_roundw
              case rel => exact ⟨j + 1, nd + nq, by omega, by go_num, by simp⟩
              case measure => simp [intOf]; omega
            · have b2 : decide ((j : Int) < (en.n : Int)) = false := by simp; omega
              go_wp2_with fail
              go_roundw
              case rel => exact ⟨k + 1, by omega, by go_num, HS1.out.drewN nd⟩
              case measure => simp [intOf]; omega
        · have b1 : decide ((k : Int) < (es.length : Int)) = false := by simp; omega
          have hS1 := ((HS.out.set 0 0 (.slice none 0 0)).set 0 1 (.slice none 0 0)).set 0 2 (.int .i64 0)
          have HF := hid (hS1.sub [])
          clear hS hS1
          go_wp2_with fail
          go_ret
          exact ⟨rfl, HF.out⟩
end
end Go.Proofs.YtdjgijndcjbpiaaGreatDoor
