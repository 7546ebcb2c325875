/-
  Texts Tt Tk Tq in one.
-/
import Derived.Test.YtnkjjhenfhnajaaGreatDoorG09
import Derived.Test.YtnkjjhenfhnajaaGreatDoorG03
import Derived.Test.YtnkjjhenfhnajaaGreatDoorG06
import Derived.Test.YtnkjjhenfhnajaaGreatDoorG10
/-
  Package tasks, walked: the steps of a text.
-/
namespace Go.Proofs.YtnkjjhenfhnajaaGreatDoor
open Go.RowKit Go.Kw Go.Kreg

section
variable {W w : World} {F : Nat → Prop}
set_option maxRecDepth 100000 in
set_option maxHeartbeats 1000000 in
theorem prog_any (hG : Glob W) (h : Sts [glC W] F w) (s : ByteArray) (R : List Cm.Op × Int) (hR : Cm.program s.data.toList = R) :
    Calls Tryz.prog 73 #[.string s] w fun e w' => ∃ lv, e = .returned (.tuple #[lv, .int .i64 R.2]) ∧ ((R.2 ≠ 0 ∧ St F w [glC W] w') ∨ (R.2 = 0 ∧ St F w [glC W, .row TOp 4 lv R.1.length (opsC R.1)] w')) := by
  have hp := parse_any hG h (s := s)
  obtain ⟨R1, R2⟩ := R
  have HR := hid hR
  have HP := hid hp
  clear hp hR
  go_enter Tryz.func73, Tryz.ntmps73
  go_wp2_with fail
  refine HP.out.mono ?_; rintro e w1 (⟨at_, e1, rfl, Hx, hS⟩ | ⟨ops, ov, rfl, Hx, hS⟩)
  · have hx := Hx.out
    obtain rfl : R2 = e1 := by have := HR.out; unfold Cm.program at this; rw [hx.1] at this; exact (Prod.mk.inj this).2.symm
    have hne := hx.2
    have HS := hid hS
    have hn0 : R2 ≠ 0 := by simpa using hx.2
    clear hx Hx HP HR hS
    go_wp2_with fail
    go_ret2
    exact ⟨_, rfl, .inl ⟨hn0, HS.out⟩⟩
  · have hx := Hx.out
    have hch := Cm.parse_checks hx.1
    have hpr := Cm.program_ok hx.1
    rw [HR.out] at hpr
    obtain ⟨F1, g1, _, _, back⟩ := hS.sel [1]
    have g2 : Sts [.row TOp 4 ov ops.length (opsC ops)] F1 w1 := g1
    obtain ⟨r, hr⟩ : ∃ r, Cm.playAll ops = r := ⟨_, rfl⟩
    have hst := steps_any g2 hch r hr
    have hne := playAll_ne ops
    rw [hr] at hpr hne
    have Hpr := hid hpr
    have Hne := hid hne
    have Hst := hid hst
    clear hx Hx hch hpr hS g1 g2 hr hst hne HP HR
    go_wp2_with fail
    refine Hst.out.mono ?_; rintro e w2 ⟨lv, rfl, hS2⟩
    have hS2 := back hS2
    simp only [Kw.red] at hS2
    obtain ⟨o, s⟩ := r
    have hpr := Hpr.out
    cases s with
    | go => exact absurd rfl Hne.out
    | long =>
      obtain ⟨rfl, rfl⟩ := Prod.mk.inj hpr
      simp only [walkR]
      have HS := hid (hS2.sub [0])
      clear hS2 back Hst Hpr Hne hpr
      go_wp2_with fail
      go_ret2
      first | exact ⟨lv, rfl, HS.out⟩ | exact ⟨⟨lv, rfl⟩, HS.out⟩
    | done =>
      obtain ⟨rfl, rfl⟩ := Prod.mk.inj hpr
      simp only [walkR]
      have HS := hid (show St F w [glC W, .row TOp 4 lv R1.length (opsC R1)] w2 from hS2.sub [0, 2])
      clear hS2 back Hst Hpr Hne hpr
      go_wp2_with fail
      go_ret2
      first | exact ⟨lv, rfl, HS.out⟩ | exact ⟨⟨lv, rfl⟩, HS.out⟩
end
end Go.Proofs.YtnkjjhenfhnajaaGreatDoor

/-
  Package tasks, walked: the table in memory, and what only reads it.
-/
namespace Go.Proofs.YtnkjjhenfhnajaaGreatDoor
open Go.RowKit Go.Kw Go.Kreg Go.Tm

abbrev TTb : Nat := 130
abbrev TTk : Nat := 38
abbrev TNd : Nat := 41
abbrev TNds : Nat := 36
abbrev TI' : Nat := 3
theorem infoNd : (Tryz.prog.info? TNd).map (fun i => (i.zero, i.size, i.bytes)) = some (some (.agg #[.int .i64 0, .int .i64 0]), 2, 16) := by kernel_rfl
def intsC (l : List Int) : List Value := l.map fun n => .int .i64 n
theorem intsC_len (l : List Int) : (intsC l).length = l.length := by simp [intsC]
theorem intsC_at {l : List Int} {i : Nat} {n : Int} (h : l[i]? = some n) : (intsC l)[i]? = some (.int .i64 n) := by simp [intsC, h]
theorem intsC_one (l : List Int) : ∀ u ∈ intsC l, u.oneCell' = true := by
  intro u hu; simp only [intsC, List.mem_map] at hu; obtain ⟨_, _, rfl⟩ := hu; rfl
def needsC (l : List Need) : List Value := l.flatMap fun n => [.int .i64 n.res, .int .i64 n.units]
theorem needsC_len (l : List Need) : (needsC l).length = l.length * 2 := by
  induction l with
  | nil => rfl
  | cons n l ih => simp only [needsC, List.flatMap_cons, List.length_append, List.length_cons, List.length_nil] at *; omega
theorem needsC_one (l : List Need) : ∀ u ∈ needsC l, u.oneCell' = true := by
  intro u hu
  simp only [needsC, List.mem_flatMap, List.mem_cons, List.not_mem_nil, or_false] at hu
  obtain ⟨r, _, rfl | rfl⟩ := hu <;> rfl
theorem needsC_at {l : List Need} {i : Nat} {n : Need} (h : l[i]? = some n) : (needsC l)[i * 2]? = some (.int .i64 n.res) ∧ (needsC l)[i * 2 + 1]? = some (.int .i64 n.units) := by
  have hs : l = l.take i ++ (n :: l.drop (i + 1)) := by
    have := (List.getElem?_eq_some_iff.1 h)
    rw [← this.2, List.getElem_cons_drop, List.take_append_drop]
  have hl : (needsC (l.take i)).length = i * 2 := by
    rw [needsC_len, List.length_take]; have := (List.getElem?_eq_some_iff.1 h).1; omega
  have e : needsC l = needsC (l.take i) ++ ([.int .i64 n.res, .int .i64 n.units] ++ needsC (l.drop (i + 1))) := by
    conv => lhs; rw [hs]
    simp [needsC]
  rw [e]
  constructor
  all_goals
    rw [List.getElem?_append_right (by omega), hl]
    simp

def taskV (t : Task) (nd : Value) : Value := .agg #[.string t.name, .int .i64 t.level, .int .i64 t.frame, nd, .string t.code, .int .i64 t.period, .int .i64 t.first, .int .i64 t.gap]
def rowC (t : Task) (x : Value × Value) : List Value := [.string t.name, .int .i64 t.level, .int .i64 t.frame, x.1, .string t.code, .int .i64 t.period, .int .i64 t.first, .int .i64 t.gap, x.2]
def rowsC : List Task → List (Value × Value) → List Value
  | t :: ts, x :: xs => rowC t x ++ rowsC ts xs
  | _, _ => []
theorem rowsC_app : ∀ {ts : List Task} {xs : List (Value × Value)} (t : Task) (x : Value × Value), xs.length = ts.length → rowsC (ts ++ [t]) (xs ++ [x]) = rowsC ts xs ++ rowC t x
  | [], [], t, x, _ => by simp [rowsC]
  | u :: ts, y :: xs, t, x, h => by
    simp only [List.cons_append, rowsC, List.append_assoc]
    rw [rowsC_app t x (by simpa using h)]
theorem rowsC_at : ∀ {ts : List Task} {xs : List (Value × Value)} {i : Nat} {t : Task} {x : Value × Value}, ts[i]? = some t → xs[i]? = some x → ∀ j, j < 9 → (rowsC ts xs)[i * 9 + j]? = (rowC t x)[j]?
  | u :: ts, y :: xs, 0, t, x, h, k, j, hj => by
    obtain rfl : u = t := by simpa using h
    obtain rfl : y = x := by simpa using k
    simp only [rowsC, Nat.zero_mul, Nat.zero_add]
    rw [List.getElem?_append_left (by simp [rowC]; omega)]
  | u :: ts, y :: xs, i + 1, t, x, h, k, j, hj => by
    simp only [rowsC]
    rw [List.getElem?_append_right (by simp [rowC]; omega), ← rowsC_at (ts := ts) (xs := xs) (by simpa using h) (by simpa using k) j hj]
    congr 1; simp [rowC]; omega
  | [], _, i, t, x, h, _, _, _ => by simp at h
  | _ :: _, [], i, t, x, _, k, _, _ => by simp at k

def taskCh (t : Task) (x : Value × Value) : Ch := .stars [.row TNd 2 x.1 t.needs.length (needsC t.needs), .row TOp 4 x.2 (prog t).1.length (opsC (prog t).1)]
def tasksCh : List Task → List (Value × Value) → List Ch
  | t :: ts, x :: xs => taskCh t x :: tasksCh ts xs
  | _, _ => []
theorem tasksCh_app : ∀ {ts : List Task} {xs : List (Value × Value)} (t : Task) (x : Value × Value), xs.length = ts.length → tasksCh (ts ++ [t]) (xs ++ [x]) = tasksCh ts xs ++ [taskCh t x]
  | [], [], t, x, _ => by simp [tasksCh]
  | u :: ts, y :: xs, t, x, h => by
    simp only [List.cons_append, tasksCh]
    rw [tasksCh_app t x (by simpa using h)]
theorem tasksCh_at : ∀ {ts : List Task} {xs : List (Value × Value)} {i : Nat} {t : Task} {x : Value × Value}, ts[i]? = some t → xs[i]? = some x → (tasksCh ts xs).getD i .emp = taskCh t x
  | u :: ts, y :: xs, 0, t, x, h, k => by
    obtain rfl : u = t := by simpa using h
    obtain rfl : y = x := by simpa using k
    rfl
  | u :: ts, y :: xs, i + 1, t, x, h, k => by
    simp only [tasksCh, List.getD_cons_succ]
    exact tasksCh_at (by simpa using h) (by simpa using k)
  | [], _, i, t, x, h, _ => by simp at h
  | _ :: _, [], i, t, x, _, k => by simp at k

/-- What stands in the table's cells. -/
structure TabX where
  uv : Value
  rv : Value
  nv : Value
  xs : List (Value × Value)
  ns : List Tn.Row
structure TabOk (m : TM) (x : TabX) : Prop where
  ok : m.Ok
  len : x.xs.length = m.ts.length
  names : Tn.Rows (find m.ts) x.ns
  nlen : x.ns.length = m.ts.length
def tabCs (p : Nat) (m : TM) (x : TabX) : List Ch :=
  [.pt p TTb [.int .i64 m.words, x.uv, x.rv, x.nv], .row TI' 1 x.uv m.units.length (intsC m.units), .row TR 9 x.rv m.ts.length (rowsC m.ts x.xs), .row TN 2 x.nv x.ns.length (namesC x.ns), .stars (tasksCh m.ts x.xs), .pr (TabOk m x)]
def tabC (p : Nat) (m : TM) : Ch := .ex fun x : TabX => .stars (tabCs p m x)

/-- The table, for readers. -/
structure TabAt (w : World) (p : Nat) (m : TM) (x : TabX) : Prop where
  blk : Blk w p TTb [.int .i64 m.words, x.uv, x.rv, x.nv]
  units : Own w TI' 1 x.uv m.units.length (intsC m.units)
  rows : Own w TR 9 x.rv m.ts.length (rowsC m.ts x.xs)
  names : Own w TN 2 x.nv x.ns.length (namesC x.ns)
  each : ∀ (i : Nat) t, m.ts[i]? = some t → ∃ nd st, x.xs[i]? = some (nd, st) ∧ Own w TNd 2 nd t.needs.length (needsC t.needs) ∧ Own w TOp 4 st (prog t).1.length (opsC (prog t).1)
  tok : TabOk m x
theorem TabAt.keeps {w w' : World} {p : Nat} {m : TM} {x : TabX} (h : TabAt w p m x) (hk : Keeps (fun _ => False) w w') : TabAt w' p m x :=
  ⟨hk.blk h.blk id, h.units.keeps hk fun _ _ => id, h.rows.keeps hk fun _ _ => id, h.names.keeps hk fun _ _ => id, fun i t ht => by
    obtain ⟨nd, st, h1, h2, h3⟩ := h.each i t ht
    exact ⟨nd, st, h1, h2.keeps hk fun _ _ => id, h3.keeps hk fun _ _ => id⟩, h.tok⟩
theorem tab_at {w : World} {F0 : Nat → Prop} {w0 : World} {cs : List Ch} (i : Nat) {p : Nat} {m : TM} (hS : St F0 w0 cs w) (hi : cs.getD i .emp = tabC p m := by rfl) : ∃ x, TabAt w p m x := by
  obtain ⟨G, h, _⟩ := hS.at i hi
  obtain ⟨x, h⟩ := h
  have hS := St.of (cs := tabCs p m x) h
  have tok : TabOk m x := hS.pr 5
  refine ⟨x, hS.blk 0, hS.own 1, hS.own 2, hS.own 3, fun j t ht => ?_, tok⟩
  have hlt := (List.getElem?_eq_some_iff.1 ht).1
  have hx : x.xs[j]? = some (x.xs[j]'(by rw [tok.len]; exact hlt)) := List.getElem?_eq_getElem _
  generalize x.xs[j]'(by rw [tok.len]; exact hlt) = y at hx
  obtain ⟨nd, st⟩ := y
  obtain ⟨G2, h2⟩ := hS.elemAt 4 j (tasksCh_at ht hx)
  have hS2 := St.of (cs := [.row TNd 2 nd t.needs.length (needsC t.needs), .row TOp 4 st (prog t).1.length (opsC (prog t).1)]) h2
  exact ⟨nd, st, hx, hS2.own 0, hS2.own 1⟩

section
variable {w : World} {p : Nat} {m : TM} {x : TabX}
theorem TabAt.cells (h : TabAt w p m x) : w.cell? ⟨p, 0, none⟩ = some (.int .i64 m.words) ∧ w.cell? ⟨p, 1, none⟩ = some x.uv ∧ w.cell? ⟨p, 2, none⟩ = some x.rv ∧ w.cell? ⟨p, 3, none⟩ = some x.nv ∧ (∀ o, w.frozen? ⟨p, o, none⟩ = false) := cells4 h.blk
theorem TabAt.few (h : TabAt w p m x) : m.ts.length ≤ 64 := h.tok.ok.few

theorem row_out (h : TabAt w p m x) (i : Int) (hi : i < 0 ∨ (m.ts.length : Int) ≤ i) :
    Calls Tryz.prog 137 #[.pointer (some ⟨p, 2, none⟩), .int .i64 i] w fun e w' => e = .returned (.tuple #[.agg zrow.toArray, .bool false]) ∧ Keeps (fun _ => False) w w' :=
  stackAt_out h.cells.2.2.1 h.rows i hi
theorem row_in (h : TabAt w p m x) {i : Nat} {t : Task} (ht : m.ts[i]? = some t) : ∃ na nc sa sc, Own w TNd 2 (.slice na t.needs.length nc) t.needs.length (needsC t.needs) ∧ Own w TOp 4 (.slice sa (prog t).1.length sc) (prog t).1.length (opsC (prog t).1) ∧
    Calls Tryz.prog 137 #[.pointer (some ⟨p, 2, none⟩), .int .i64 i] w fun e w' => e = .returned (.tuple #[.agg (rowC t (.slice na t.needs.length nc, .slice sa (prog t).1.length sc)).toArray, .bool true]) ∧ Keeps (fun _ => False) w w' := by
  obtain ⟨nd, st, hx, h1, h2⟩ := h.each i t ht
  have hr := rowsC_at ht hx
  obtain ⟨na, nc, rfl, _⟩ := h1.shape
  obtain ⟨sa, sc, rfl, _⟩ := h2.shape
  refine ⟨na, nc, sa, sc, h1, h2, ?_⟩
  exact stackAt_in h.cells.2.2.1 h.rows i (List.getElem?_eq_some_iff.1 ht).1 ⟨hr 0 (by omega), hr 1 (by omega), hr 2 (by omega), hr 3 (by omega), hr 4 (by omega), hr 5 (by omega), hr 6 (by omega), hr 7 (by omega), hr 8 (by omega)⟩
    (by intro u hu; simp only [List.mem_cons, List.not_mem_nil, or_false] at hu; rcases hu with rfl | rfl | rfl | rfl | rfl | rfl | rfl | rfl | rfl <;> rfl)

set_option maxRecDepth 100000 in
theorem tlen_any (h : TabAt w p m x) : Calls Tryz.prog 66 #[.pointer (some ⟨p, 0, none⟩)] w fun e w' => e = .returned (.int .i64 m.ts.length) ∧ w = w' := by
  have hl := stackLen_any h.cells.2.2.1 h.rows
  clear h
  go_enter Tryz.func66, Tryz.ntmps66
  go_wp2_with fail
  refine hl.mono ?_; rintro e w1 ⟨rfl, rfl⟩
  go_wp2_with fail
  go_ret
  exact ⟨rfl, rfl⟩
end
end Go.Proofs.YtnkjjhenfhnajaaGreatDoor

/-
  Package tasks, walked: greatest frames, the bound, what is found.
-/
namespace Go.Proofs.YtnkjjhenfhnajaaGreatDoor
open Go.RowKit Go.Kw Go.Kreg Go.Tm

section
variable {w : World} {p : Nat} {m : TM} {x : TabX}

set_option maxRecDepth 100000 in
set_option maxHeartbeats 2000000 in
theorem largest_any (h : TabAt w p m x) (level : Int) : Calls Tryz.prog 90 #[.pointer (some ⟨p, 0, none⟩), .int .i64 level] w fun e w' => e = .returned (.int .i64 (largest m.ts level)) ∧ Keeps (fun _ => False) w w' := by
  have hl := stackLen_any h.cells.2.2.1 h.rows
  have hf := h.tok.ok.fit
  have hlen := h.few
  generalize hR : largest m.ts level = R at *
  have HR := hid hR
  have H := hid h
  have Hf := hid hf
  clear h hR hf
  go_enter Tryz.func90, Tryz.ntmps90
  go_wp2_with fail
  refine hl.mono ?_; rintro e w1 ⟨rfl, rfl⟩
  go_wp2_with fail
  go_loopw [13, 5] (fun i y wr => ∃ (k : Nat), k ≤ m.ts.length ∧ i = .int .i64 k ∧ y = .int .i64 (largest (m.ts.take k) level) ∧ Keeps (fun _ => False) w wr) (fun i _ _ => m.ts.length - (intOf i).toNat)
  case atStart => exact ⟨0, Nat.zero_le _, rfl, rfl, Keeps.refl _ _⟩
  case round =>
    obtain ⟨k, hk, rfl, rfl, hK⟩ := hrel
    by_cases hlt : k < m.ts.length
    · have b1 : decide (k < m.ts.length) = true := by simpa using hlt
      have ht := List.getElem?_eq_getElem hlt
      have hstep := largest_take ht level
      have hfit := Hf.out _ (List.mem_of_getElem? ht)
      have hb := largest_bd (ts := m.ts.take k) (fun t ht => Hf.out t (List.mem_of_mem_take ht)) level
      obtain ⟨na, nc, sa, sc, _, _, hrow⟩ := row_in (H.out.keeps hK) ht
      generalize m.ts[k] = t at *
      generalize t.needs.length = nl at *
      generalize (prog t).1.length = sl at *
      generalize largest (m.ts.take k) level = L at *
      have HK := hid hK
      have Hstep := hid hstep
      have hfr := hfit.frm
      clear ht hstep hfit hK
      unfold rowC at hrow
      go_wp2_with fail
      refine hrow.mono ?_; rintro e w2 ⟨rfl, k2⟩
      have HK2 := hid (HK.out.trans k2)
      clear HK k2 hrow
      by_cases hl : t.level = level
      · have e1 : (t.level == level) = true := by simpa using hl
        go_wp2_with fail
        go_roundw
        case rel => exact ⟨k + 1, by omega, by go_num, by rw [Hstep.out, if_pos hl], HK2.out.alloc _⟩
        case measure => simp [intOf]; omega
      · have e1 : (t.level == level) = false := by simpa using hl
        go_wp2_with fail
        go_roundw
        case rel => exact ⟨k + 1, by omega, by go_num, by rw [Hstep.out, if_neg hl], HK2.out.alloc _⟩
        case measure => simp [intOf]; omega
    · have b1 : decide (k < m.ts.length) = false := by simpa using hlt
      have e : largest (m.ts.take k) level = R := by rw [List.take_of_length_le (by omega)]; exact HR.out
      rw [e]
      clear e
      go_wp2_with fail
      go_ret
      exact ⟨rfl, hK⟩

set_option maxRecDepth 100000 in
set_option maxHeartbeats 2000000 in
theorem bound_any (h : TabAt w p m x) : Calls Tryz.prog 70 #[.pointer (some ⟨p, 0, none⟩)] w fun e w' => e = .returned (.int .i64 (bound m.ts)) ∧ Keeps (fun _ => False) w w' := by
  have hf := h.tok.ok.fit
  generalize hR : bound m.ts = R at *
  have HR := hid hR
  have H := hid h
  have Hf := hid hf
  clear h hR hf
  go_enter Tryz.func70, Tryz.ntmps70
  go_wp2_with fail
  go_loopw [5, 3] (fun i y wr => ∃ (k : Nat), k ≤ 33 ∧ i = .int .i64 k ∧ y = .int .i64 (boundTo m.ts k) ∧ Keeps (fun _ => False) w wr) (fun i _ _ => 33 - (intOf i).toNat)
  case atStart => exact ⟨0, Nat.zero_le _, rfl, rfl, Keeps.refl _ _⟩
  case round =>
    obtain ⟨k, hk, rfl, rfl, hK⟩ := hrel
    by_cases hlt : k < 33
    · have b1 : decide ((k : Int) < 33) = true := by simp; omega
      have hb := boundTo_bd Hf.out k
      have hlb := largest_bd Hf.out k
      have hstep : boundTo m.ts (k + 1) = boundTo m.ts k + largest m.ts k := rfl
      have hl := largest_any (H.out.keeps hK) k
      generalize boundTo m.ts k = L at *
      generalize largest m.ts k = M at *
      have HK := hid hK
      have Hstep := hid hstep
      clear hstep hK
      go_wp2_with fail
      refine hl.mono ?_; rintro e w2 ⟨rfl, k2⟩
      have HK2 := hid (HK.out.trans k2)
      clear HK k2 hl
      go_wp2_with fail
      go_roundw
      case rel => exact ⟨k + 1, by omega, by go_num, by rw [Hstep.out], HK2.out⟩
      case measure => simp [intOf]; omega
    · have b1 : decide ((k : Int) < 33) = false := by simp; omega
      have e : boundTo m.ts k = R := by rw [← HR.out]; unfold bound; congr 1; omega
      rw [e]
      clear e
      go_wp2_with fail
      go_ret
      exact ⟨rfl, hK⟩

set_option maxRecDepth 100000 in
set_option maxHeartbeats 2000000 in
theorem with_any (h : TabAt w p m x) (level frame : Int) (hb : -9223372036854775808 ≤ frame ∧ frame ≤ 9223372036854775807) : Calls Tryz.prog 72 #[.pointer (some ⟨p, 0, none⟩), .int .i64 level, .int .i64 frame] w fun e w' => e = .returned (.int .i64 (withOne m.ts level frame)) ∧ Keeps (fun _ => False) w w' := by
  have hbd := bound_bd h.tok.ok.fit
  have hlb := largest_bd h.tok.ok.fit level
  by_cases hbad : bad level frame
  · have hR : withOne m.ts level frame = bound m.ts := by unfold withOne; rw [if_pos hbad]
    rw [hR]
    have hbn := bound_any h
    generalize bound m.ts = R at *
    clear hR h
    have fin : ∀ (b1 b2 b3 b4 : Bool), decide (level < 1) = b1 → decide (32 < level) = b2 → decide (frame < 0) = b3 → decide (4096 < frame) = b4 → (b1 = true ∨ b1 = false ∧ b2 = true ∨ b1 = false ∧ b2 = false ∧ b3 = true ∨ b1 = false ∧ b2 = false ∧ b3 = false ∧ b4 = true) := by
      intro b1 b2 b3 b4 h1 h2 h3 h4
      subst h1 h2 h3 h4
      simp only [decide_eq_true_eq, decide_eq_false_iff_not]
      unfold bad at hbad
      omega
    have fin := fin _ _ _ _ rfl rfl rfl rfl
    clear hbad
    rcases fin with h1 | ⟨h1, h2⟩ | ⟨h1, h2, h3⟩ | ⟨h1, h2, h3, h4⟩
    all_goals
      go_enter Tryz.func72, Tryz.ntmps72
      go_wp2_with fail
      refine hbn.mono ?_; rintro e w2 ⟨rfl, k2⟩
      go_wp2_with fail
      go_ret
      exact ⟨rfl, k2⟩
  · have hR : withOne m.ts level frame = bound m.ts + max 0 (frame - largest m.ts level) := by unfold withOne; rw [if_neg hbad]
    rw [hR]
    have hbn := bound_any h
    have hl := fun (w1 : World) (k : Keeps (fun _ => False) w w1) => largest_any (h.keeps k) level
    generalize bound m.ts = R at *
    generalize largest m.ts level = L at *
    unfold bad at hbad
    have b1 : decide (level < 1) = false := by simp; omega
    have b2 : decide (32 < level) = false := by simp; omega
    have b3 : decide (frame < 0) = false := by simp; omega
    have b4 : decide (4096 < frame) = false := by simp; omega
    have hf0 : 0 ≤ frame := by omega
    have hf1 : frame ≤ 4096 := by omega
    clear hR h hbad
    go_enter Tryz.func72, Tryz.ntmps72
    go_wp2_with fail
    refine hbn.mono ?_; rintro e w2 ⟨rfl, k2⟩
    go_wp2_with fail
    refine (hl _ k2).mono ?_; rintro e w3 ⟨rfl, k3⟩
    go_wp2_with fail
    go_ret
    exact ⟨ret_int (by first | rfl | omega), k2.trans k3⟩

theorem tget_any (h : TabAt w p m x) (k : ByteArray) : Calls Tryz.prog 75 #[.pointer (some ⟨p, 3, none⟩), .string k] w fun e w' => e = .returned (.tuple #[.int .i64 ((find m.ts k).getD 0 : Nat), .bool (find m.ts k).isSome]) ∧ Keeps (fun _ => False) w w' := by
  have hg := nget_any h.cells.2.2.2.1 h.names h.tok.names.1 (by rw [h.tok.nlen]; have := h.few; omega) k
  obtain ⟨h1, h2⟩ := h.tok.names.found k
  have e : (if Tn.foundAt k x.ns = true then Tn.atOf k x.ns else 0) = (find m.ts k).getD 0 := by
    split
    · rename_i hf; exact h2 hf
    · rename_i hf
      rw [h1] at hf
      cases hq : find m.ts k with
      | none => rfl
      | some v => rw [hq] at hf; simp at hf
  rw [e, h1] at hg
  exact hg
end
end Go.Proofs.YtnkjjhenfhnajaaGreatDoor
