/-
  Texts Rt Rtr in one.
-/
import Derived.Test.YtnkjjhenfhnajaaGreatDoorG13
import Derived.Test.YtnkjjhenfhnajaaGreatDoorG05
import Derived.Test.YtnkjjhenfhnajaaGreatDoorG04
/-
  The reference's table of tasks in memory, and how its readers see it.
-/
namespace Go.Proofs.YtnkjjhenfhnajaaGreatDoor
open Go.RowKit Go.Kw Go.Kreg Go.Tm

abbrev TRf : Nat := 35
structure RefX where
  uv : Value
  tv : Value
  nds : List Value
structure RefOk (m : TM) (y : RefX) : Prop where
  ok : m.Ok
  len : y.nds.length = m.ts.length
def needsCh : List Task → List Value → List Ch
  | t :: ts, nd :: nds => .row TNd 2 nd t.needs.length (needsC t.needs) :: needsCh ts nds
  | _, _ => []
theorem needsCh_app : ∀ {ts : List Task} {nds : List Value} (t : Task) (nd : Value), nds.length = ts.length → needsCh (ts ++ [t]) (nds ++ [nd]) = needsCh ts nds ++ [.row TNd 2 nd t.needs.length (needsC t.needs)]
  | [], [], t, nd, _ => by simp [needsCh]
  | u :: ts, y :: nds, t, nd, h => by
    simp only [List.cons_append, needsCh]
    rw [needsCh_app t nd (by simpa using h)]
theorem needsCh_at : ∀ {ts : List Task} {nds : List Value} {i : Nat} {t : Task} {nd : Value}, ts[i]? = some t → nds[i]? = some nd → (needsCh ts nds).getD i .emp = .row TNd 2 nd t.needs.length (needsC t.needs)
  | u :: ts, y :: nds, 0, t, nd, h, k => by
    obtain rfl : u = t := by simpa using h
    obtain rfl : y = nd := by simpa using k
    rfl
  | u :: ts, y :: nds, i + 1, t, nd, h, k => by
    simp only [needsCh, List.getD_cons_succ]
    exact needsCh_at (by simpa using h) (by simpa using k)
  | [], _, i, t, nd, h, _ => by simp at h
  | _ :: _, [], i, t, nd, _, k => by simp at k
theorem tasksV_app : ∀ {l : List Task} {nds : List Value} (x : Task) (nd : Value), nds.length = l.length → tasksV (l ++ [x]) (nds ++ [nd]) = tasksV l nds ++ [.string x.name, .int .i64 x.level, .int .i64 x.frame, nd, .string x.code, .int .i64 x.period, .int .i64 x.first, .int .i64 x.gap]
  | [], [], x, nd, _ => by simp [tasksV]
  | y :: l, md :: nds, x, nd, h => by
    simp only [List.cons_append, tasksV]
    rw [tasksV_app x nd (by simpa using h)]
    simp
theorem task8_one (x : Task) (nd : Value) (hnd : nd.oneCell' = true) : ∀ u ∈ [.string x.name, .int .i64 x.level, .int .i64 x.frame, nd, .string x.code, .int .i64 x.period, .int .i64 x.first, .int .i64 x.gap], Value.oneCell' u = true := by
  intro u hu; simp only [List.mem_cons, List.not_mem_nil, or_false] at hu; rcases hu with rfl | rfl | rfl | rfl | rfl | rfl | rfl | rfl <;> first | rfl | exact hnd
/-- The reference's table in memory. -/
def refCs (p : Nat) (m : TM) (y : RefX) : List Ch :=
  [.pt p TRf [.int .i64 m.words, y.uv, y.tv], .row TI' 1 y.uv m.units.length (intsC m.units), .row TTk 8 y.tv m.ts.length (tasksV m.ts y.nds), .stars (needsCh m.ts y.nds), .pr (RefOk m y)]
def refC (p : Nat) (m : TM) : Ch := .ex fun y : RefX => .stars (refCs p m y)
/-- For readers. -/
structure RefAt (w : World) (p : Nat) (m : TM) (y : RefX) : Prop where
  blk : Blk w p TRf [.int .i64 m.words, y.uv, y.tv]
  units : Own w TI' 1 y.uv m.units.length (intsC m.units)
  tasks : Own w TTk 8 y.tv m.ts.length (tasksV m.ts y.nds)
  each : ∀ (i : Nat) t, m.ts[i]? = some t → ∃ nd, y.nds[i]? = some nd ∧ Own w TNd 2 nd t.needs.length (needsC t.needs)
  tok : RefOk m y
theorem RefAt.keeps {w w' : World} {p : Nat} {m : TM} {y : RefX} (h : RefAt w p m y) (hk : Keeps (fun _ => False) w w') : RefAt w' p m y :=
  ⟨hk.blk h.blk id, h.units.keeps hk fun _ _ => id, h.tasks.keeps hk fun _ _ => id, fun i t ht => by
    obtain ⟨nd, h1, h2⟩ := h.each i t ht
    exact ⟨nd, h1, h2.keeps hk fun _ _ => id⟩, h.tok⟩
theorem ref_at {w : World} {F0 : Nat → Prop} {w0 : World} {cs : List Ch} (i : Nat) {p : Nat} {m : TM} (hS : St F0 w0 cs w) (hi : cs.getD i .emp = refC p m := by rfl) : ∃ y, RefAt w p m y := by
  obtain ⟨G, h, _⟩ := hS.at i hi
  obtain ⟨y, h⟩ := h
  have hS := St.of (cs := refCs p m y) h
  have tok : RefOk m y := hS.pr 4
  refine ⟨y, hS.blk 0, hS.own 1, hS.own 2, fun j t ht => ?_, tok⟩
  have hlt := (List.getElem?_eq_some_iff.1 ht).1
  have hx : y.nds[j]? = some (y.nds[j]'(by rw [tok.len]; exact hlt)) := List.getElem?_eq_getElem _
  generalize y.nds[j]'(by rw [tok.len]; exact hlt) = nd at hx
  obtain ⟨G2, h2⟩ := hS.elemAt 3 j (needsCh_at ht hx)
  exact ⟨nd, hx, h2.1⟩

section
variable {w : World} {p : Nat} {m : TM} {y : RefX}
theorem RefAt.cells (h : RefAt w p m y) : w.cell? ⟨p, 0, none⟩ = some (.int .i64 m.words) ∧ w.cell? ⟨p, 1, none⟩ = some y.uv ∧ w.cell? ⟨p, 2, none⟩ = some y.tv ∧ (∀ o, w.frozen? ⟨p, o, none⟩ = false) := cells3 h.blk
theorem RefAt.few (h : RefAt w p m y) : m.ts.length ≤ 64 := h.tok.ok.few
/-- A task's cells in an owned row. -/
theorem task_cells {ts : List Task} {nds : List Value} {g cap : Nat} (ho : Own w TTk 8 (.slice (some ⟨g, 0, none⟩) ts.length cap) ts.length (tasksV ts nds)) {k : Nat} {x : Task} {nd : Value} (hx : ts[k]? = some x) (hn : nds[k]? = some nd) : TkAt w g (k * 8) nd x := by
  have ha := tasksV_at hx hn
  have key : ∀ (j : Nat) u, j < 8 → [.string x.name, .int .i64 x.level, .int .i64 x.frame, nd, .string x.code, .int .i64 x.period, .int .i64 x.first, .int .i64 x.gap][j]? = some u → w.cell? ⟨g, k * 8 + j, none⟩ = some u := fun j u hj hu => ho.cells' (g := g) rfl ((ha j hj).trans hu)
  exact ⟨key 0 _ (by omega) rfl, key 1 _ (by omega) rfl, key 2 _ (by omega) rfl, key 3 _ (by omega) rfl, key 4 _ (by omega) rfl, key 5 _ (by omega) rfl, key 6 _ (by omega) rfl, key 7 _ (by omega) rfl⟩
/-- One task of the table: where the rows lie, its cells. -/
theorem ref_task (h : RefAt w p m y) {i : Nat} {t : Task} (ht : m.ts[i]? = some t) : ∃ g cap na nc, y.tv = .slice (some ⟨g, 0, none⟩) m.ts.length cap ∧ TkAt w g (i * 8) (.slice na t.needs.length nc) t ∧ Own w TNd 2 (.slice na t.needs.length nc) t.needs.length (needsC t.needs) := by
  obtain ⟨nd, h1, h2⟩ := h.each i t ht
  have hlt := (List.getElem?_eq_some_iff.1 ht).1
  obtain ⟨g, cap, e, _⟩ := h.tasks.form (by omega)
  have ho := h.tasks
  rw [e] at ho
  obtain ⟨na, nc, rfl, _⟩ := h2.shape
  exact ⟨g, cap, na, nc, e, task_cells ho ht h1, h2⟩
theorem ref_shape (h : RefAt w p m y) : ∃ a c, y.tv = .slice a m.ts.length c := by
  obtain ⟨a, c, e, _⟩ := h.tasks.shape; exact ⟨a, c, e⟩
theorem ref_ushape (h : RefAt w p m y) : ∃ a c, y.uv = .slice a m.units.length c := by
  obtain ⟨a, c, e, _⟩ := h.units.shape; exact ⟨a, c, e⟩
end
end Go.Proofs.YtnkjjhenfhnajaaGreatDoor

/-
  The reference's table of tasks: its readers, walked.
-/
namespace Go.Proofs.YtnkjjhenfhnajaaGreatDoor
open Go.RowKit Go.Kw Go.Kreg Go.Tm

theorem largest_zero {ts : List Task} (hf : ∀ t ∈ ts, Fit t) : largest ts 0 = 0 := by
  have key : ∀ (ts : List Task) (n : Int), (∀ t ∈ ts, Fit t) → largestFrom 0 ts n = n := by
    intro ts
    induction ts with
    | nil => intro n _; rfl
    | cons t ts ih =>
      intro n hf
      unfold largestFrom
      have := (hf t (by simp)).lev
      rw [if_neg (by omega)]
      exact ih n fun t ht => hf t (by simp [ht])
  exact key ts 0 hf
theorem findFrom_drop {name : ByteArray} {ts : List Task} {k : Nat} (hk : k < ts.length) : findFrom name (ts.drop k) k = if ts[k].name = name then some k else findFrom name (ts.drop (k + 1)) (k + 1) := by
  rw [List.drop_eq_getElem_cons hk]
  rfl
theorem needOf_drop {l : List Need} {k : Nat} (hk : k < l.length) (res : Int) : needOf (l.drop k) res = if l[k].res = res then l[k].units else needOf (l.drop (k + 1)) res := by
  rw [List.drop_eq_getElem_cons hk]
  rfl

section
variable {w : World} {p : Nat} {m : TM} {y : RefX}
set_option maxRecDepth 100000 in
set_option maxHeartbeats 2000000 in
theorem largestR_any (h : RefAt w p m y) (level : Int) : Calls Tryz.prog 91 #[.pointer (some ⟨p, 0, none⟩), .int .i64 level] w fun e w' => e = .returned (.int .i64 (largest m.ts level)) ∧ w = w' := by
  obtain ⟨c0, c1, c2, cz⟩ := h.cells
  have hlen := h.few
  obtain ⟨ta, tc, etv⟩ := ref_shape h
  rw [etv] at c2
  generalize hR : largest m.ts level = R
  have HR := hid hR
  have H := hid h
  have Htv := hid etv
  clear h hR etv
  go_enter Tryz.func91, Tryz.ntmps91
  go_wp2_with fail
  go_loopw [6, 5] (fun i z wr => ∃ (k : Nat), k ≤ m.ts.length ∧ i = .int .i64 k ∧ z = .int .i64 (largest (m.ts.take k) level) ∧ w = wr) (fun i _ _ => m.ts.length - (intOf i).toNat)
  case atStart => exact ⟨0, Nat.zero_le _, rfl, rfl, rfl⟩
  case round =>
    obtain ⟨k, hk, rfl, rfl, rfl⟩ := hrel
    by_cases hlt : k < m.ts.length
    · have b1 : decide (k < m.ts.length) = true := by simpa using hlt
      have ht := List.getElem?_eq_getElem hlt
      have hstep := largest_take ht level
      obtain ⟨g, cap, na, nc, e, ⟨d0, d1, d2, d3, d4, d5, d6, d7⟩, -⟩ := ref_task H.out ht
      rw [Htv.out] at e
      cases e
      generalize m.ts[k] = t at *
      generalize largest (m.ts.take k) level = L at *
      have i0 : (0 : Int) ≤ (k : Int) := by omega
      have i1 : (k : Int) < (m.ts.length : Int) := by omega
      have Hstep := hid hstep
      clear ht hstep
      by_cases hl : t.level = level
      · have e1 : (t.level == level) = true := by simpa using hl
        by_cases hf : L < t.frame
        · have e2 : decide (L < t.frame) = true := by simpa using hf
          have e3 : max L t.frame = t.frame := by omega
          go_wp2_with fail
          go_roundw
          case rel => exact ⟨k + 1, by omega, by go_num, by rw [Hstep.out, if_pos hl, e3], by first | rfl | trivial⟩
          case measure => simp [intOf]; omega
        · have e2 : decide (L < t.frame) = false := by simpa using hf
          have e3 : max L t.frame = L := by omega
          go_wp2_with fail
          go_roundw
          case rel => exact ⟨k + 1, by omega, by go_num, by rw [Hstep.out, if_pos hl, e3], by first | rfl | trivial⟩
          case measure => simp [intOf]; omega
      · have e1 : (t.level == level) = false := by simpa using hl
        go_wp2_with fail
        go_roundw
        case rel => exact ⟨k + 1, by omega, by go_num, by rw [Hstep.out, if_neg hl], by first | rfl | trivial⟩
        case measure => simp [intOf]; omega
    · have b1 : decide (k < m.ts.length) = false := by simpa using hlt
      have e : largest (m.ts.take k) level = R := by rw [List.take_of_length_le (by omega)]; exact HR.out
      rw [e]
      clear e
      go_wp2_with fail
      go_ret
      exact ⟨rfl, rfl⟩

set_option maxRecDepth 100000 in
set_option maxHeartbeats 2000000 in
theorem boundTR_any (h : RefAt w p m y) : Calls Tryz.prog 92 #[.pointer (some ⟨p, 0, none⟩)] w fun e w' => e = .returned (.int .i64 (bound m.ts)) ∧ w = w' := by
  have hf := h.tok.ok.fit
  have h1 : boundTo m.ts 1 = 0 := by unfold boundTo boundTo; rw [show ((0 : Nat) : Int) = 0 from rfl, largest_zero hf]; rfl
  generalize hR : bound m.ts = R at *
  have HR := hid hR
  have H := hid h
  have Hf := hid hf
  have H1 := hid h1
  clear h hR hf h1
  go_enter Tryz.func92, Tryz.ntmps92
  go_wp2_with fail
  go_loopw [4, 3] (fun i z wr => ∃ (k : Nat), 1 ≤ k ∧ k ≤ 33 ∧ i = .int .i64 k ∧ z = .int .i64 (boundTo m.ts k) ∧ w = wr) (fun i _ _ => 33 - (intOf i).toNat)
  case atStart => exact ⟨1, Nat.le_refl _, by omega, rfl, by rw [H1.out], rfl⟩
  case round =>
    obtain ⟨k, hk1, hk, rfl, rfl, rfl⟩ := hrel
    by_cases hlt : k < 33
    · have b1 : decide ((k : Int) ≤ 32) = true := by simp; omega
      have hb := boundTo_bd Hf.out k
      have hlb := largest_bd Hf.out k
      have hstep : boundTo m.ts (k + 1) = boundTo m.ts k + largest m.ts k := rfl
      have hl := largestR_any H.out k
      generalize boundTo m.ts k = L at *
      generalize largest m.ts k = M at *
      have Hstep := hid hstep
      have Hl := hid hl
      clear hstep hl
      go_wp2_with fail
      refine Hl.out.mono ?_; rintro e w2 ⟨rfl, rfl⟩
      clear Hl
      go_wp2_with fail
      go_roundw
      case rel => exact ⟨k + 1, by omega, by omega, by go_num, by rw [Hstep.out], by first | rfl | trivial⟩
      case measure => simp [intOf]; omega
    · have b1 : decide ((k : Int) ≤ 32) = false := by simp; omega
      have e : boundTo m.ts k = R := by rw [← HR.out]; unfold bound; congr 1; omega
      rw [e]
      clear e
      go_wp2_with fail
      go_ret
      exact ⟨rfl, rfl⟩

set_option maxRecDepth 100000 in
set_option maxHeartbeats 2000000 in
theorem withR_any (h : RefAt w p m y) (level frame : Int) (hb : -9223372036854775808 ≤ frame ∧ frame ≤ 9223372036854775807) : Calls Tryz.prog 80 #[.pointer (some ⟨p, 0, none⟩), .int .i64 level, .int .i64 frame] w fun e w' => e = .returned (.int .i64 (withOne m.ts level frame)) ∧ w = w' := by
  have hbd := bound_bd h.tok.ok.fit
  have hlb := largest_bd h.tok.ok.fit level
  have hbn := boundTR_any h
  have hlr := largestR_any h level
  by_cases hbad : bad level frame
  · rw [with_le m.ts level frame (.inl hbad)]
    generalize bound m.ts = R at *
    have fin : ∀ (b1 b2 b3 b4 : Bool), decide (level < 1) = b1 → decide (32 < level) = b2 → decide (frame < 0) = b3 → decide (4096 < frame) = b4 → (b1 = true ∨ b1 = false ∧ b2 = true ∨ b1 = false ∧ b2 = false ∧ b3 = true ∨ b1 = false ∧ b2 = false ∧ b3 = false ∧ b4 = true) := by
      intro b1 b2 b3 b4 h1 h2 h3 h4
      subst h1 h2 h3 h4
      simp only [decide_eq_true_eq, decide_eq_false_iff_not]
      unfold bad at hbad
      omega
    have fin := fin _ _ _ _ rfl rfl rfl rfl
    clear hbad h hlr
    rcases fin with h1 | ⟨h1, h2⟩ | ⟨h1, h2, h3⟩ | ⟨h1, h2, h3, h4⟩
    all_goals
      go_enter Tryz.func80, Tryz.ntmps80
      go_wp2_with fail
      refine hbn.mono ?_; rintro e w2 ⟨rfl, rfl⟩
      go_wp2_with fail
      go_ret
      exact ⟨rfl, rfl⟩
  · have hbb := hbad
    unfold bad at hbb
    have b1 : decide (level < 1) = false := by simp; omega
    have b2 : decide (32 < level) = false := by simp; omega
    have b3 : decide (frame < 0) = false := by simp; omega
    have b4 : decide (4096 < frame) = false := by simp; omega
    by_cases hle : frame ≤ largest m.ts level
    · rw [with_le m.ts level frame (.inr hle)]
      generalize bound m.ts = R at *
      generalize largest m.ts level = L at *
      have b5 : decide (frame ≤ L) = true := by simpa using hle
      have Hb := hid hbn
      have Hl := hid hlr
      clear hbad h hbb hle hbn hlr
      go_enter Tryz.func80, Tryz.ntmps80
      go_wp2_with fail
      refine Hl.out.mono ?_; rintro e w2 ⟨rfl, rfl⟩
      go_wp2_with fail
      refine Hb.out.mono ?_; rintro e w2 ⟨rfl, rfl⟩
      go_wp2_with fail
      go_ret
      exact ⟨rfl, rfl⟩
    · rw [with_gt m.ts level frame hbad (by omega)]
      generalize bound m.ts = R at *
      generalize largest m.ts level = L at *
      have b5 : decide (frame ≤ L) = false := by simpa using hle
      have hf0 : 0 ≤ frame := by omega
      have hf1 : frame ≤ 4096 := by omega
      have Hb := hid hbn
      have Hl := hid hlr
      clear hbad h hbb hle hbn hlr
      go_enter Tryz.func80, Tryz.ntmps80
      go_wp2_with fail
      refine Hl.out.mono ?_; rintro e w2 ⟨rfl, rfl⟩
      go_wp2_with fail
      refine Hb.out.mono ?_; rintro e w2 ⟨rfl, rfl⟩
      go_wp2_with fail
      refine Hl.out.mono ?_; rintro e w2 ⟨rfl, rfl⟩
      go_wp2_with fail
      go_ret
      exact ⟨ret_int (by first | rfl | omega), rfl⟩

set_option maxRecDepth 100000 in
set_option maxHeartbeats 2000000 in
theorem findR_any (h : RefAt w p m y) (name : ByteArray) : Calls Tryz.prog 24 #[.pointer (some ⟨p, 0, none⟩), .string name] w fun e w' => e = .returned (.tuple #[.int .i64 ((find m.ts name).getD 0 : Nat), .bool (find m.ts name).isSome]) ∧ w = w' := by
  obtain ⟨c0, c1, c2, cz⟩ := h.cells
  have hlen := h.few
  obtain ⟨ta, tc, etv⟩ := ref_shape h
  rw [etv] at c2
  generalize hR : find m.ts name = R
  have HR := hid (show findFrom name (m.ts.drop 0) 0 = R from hR)
  have H := hid h
  have Htv := hid etv
  clear h hR etv
  go_enter Tryz.func24, Tryz.ntmps24
  go_wp2_with fail
  go_loopw [6] (fun i wr => ∃ (k : Nat), k ≤ m.ts.length ∧ i = .int .i64 k ∧ Hid (findFrom name (m.ts.drop k) k = R) ∧ w = wr) (fun i _ => m.ts.length - (intOf i).toNat)
  case atStart => exact ⟨0, Nat.zero_le _, rfl, HR, rfl⟩
  case round =>
    obtain ⟨k, hk, rfl, HQ, rfl⟩ := hrel
    by_cases hlt : k < m.ts.length
    · have b1 : decide (k < m.ts.length) = true := by simpa using hlt
      have ht := List.getElem?_eq_getElem hlt
      have hq := HQ.out
      rw [findFrom_drop hlt] at hq
      obtain ⟨g, cap, na, nc, e, ⟨d0, d1, d2, d3, d4, d5, d6, d7⟩, -⟩ := ref_task H.out ht
      rw [Htv.out] at e
      cases e
      generalize m.ts[k] = t at *
      have i0 : (0 : Int) ≤ (k : Int) := by omega
      have i1 : (k : Int) < (m.ts.length : Int) := by omega
      clear ht
      by_cases hn : t.name = name
      · have e1 : (t.name.toList == name.toList) = true := by rw [hn]; simp
        rw [if_pos hn] at hq
        subst hq
        clear hn HQ HR
        go_wp2_with fail
        go_ret2
        exact ⟨rfl, rfl⟩
      · have e1 : (t.name.toList == name.toList) = false := by simpa using fun e => hn (Tn.toList_inj e)
        rw [if_neg hn] at hq
        have Hq := hid hq
        clear hq hn HQ
        go_wp2_with fail
        go_roundw
        case rel => exact ⟨k + 1, by omega, by go_num, Hq, by first | rfl | trivial⟩
        case measure => simp [intOf]; omega
    · have b1 : decide (k < m.ts.length) = false := by simpa using hlt
      have hq := HQ.out
      rw [List.drop_eq_nil_of_le (by omega)] at hq
      obtain rfl : none = R := hq
      clear HQ HR
      go_wp2_with fail
      go_ret2
      exact ⟨rfl, rfl⟩

set_option maxRecDepth 100000 in
set_option maxHeartbeats 2000000 in
theorem needR_any (h : RefAt w p m y) (id res : Int) : Calls Tryz.prog 89 #[.pointer (some ⟨p, 0, none⟩), .int .i64 id, .int .i64 res] w fun e w' => e = .returned (.int .i64 (Tm.need m.ts id res)) ∧ w = w' := by
  obtain ⟨c0, c1, c2, cz⟩ := h.cells
  have hlen := h.few
  obtain ⟨ta, tc, etv⟩ := ref_shape h
  rw [etv] at c2
  by_cases h0 : id < 0
  · have b0 : decide (id < 0) = true := by simpa using h0
    have hR : Tm.need m.ts id res = 0 := by unfold Tm.need; rw [if_pos h0]
    rw [hR]
    clear hR h h0
    go_enter Tryz.func89, Tryz.ntmps89
    go_wp2_with fail
    go_ret
    exact ⟨rfl, rfl⟩
  · have b0 : decide (id < 0) = false := by simpa using h0
    obtain ⟨n, rfl⟩ := Int.eq_ofNat_of_zero_le (show 0 ≤ id by omega)
    by_cases h1 : n < m.ts.length
    · have b2 : decide ((m.ts.length : Int) ≤ (n : Int)) = false := decide_eq_false (by omega)
      have b3 : decide (m.ts.length ≤ n) = false := decide_eq_false (by omega)
      have ht := List.getElem?_eq_getElem h1
      have hR : Tm.need m.ts n res = needOf (m.ts[n]).needs res := by unfold Tm.need; rw [if_neg (by omega), Int.toNat_natCast, ht]
      have hlt16 : (m.ts[n]).needs.length ≤ 16 := by
        have hu := needs_few (h.tok.ok.needs _ (List.getElem_mem h1))
        have hbg := h.tok.ok.begins
        unfold begins at hbg
        split at hbg
        · omega
        · split at hbg <;> omega
      obtain ⟨g, cap, na, nc, e, ⟨d0, d1, d2, d3, d4, d5, d6, d7⟩, hown⟩ := ref_task h ht
      rw [etv] at e
      cases e
      generalize m.ts[n] = t at *
      rw [hR]
      generalize hQ : needOf t.needs res = R
      have HQ := hid (show needOf (t.needs.drop 0) res = R from hQ)
      have Hown := hid hown
      have i0 : (0 : Int) ≤ (n : Int) := by omega
      have i1 : (n : Int) < (m.ts.length : Int) := by omega
      clear h h0 ht hR hQ etv hown
      go_enter Tryz.func89, Tryz.ntmps89
      go_wp2_with fail
      go_loopw [7] (fun i wr => ∃ (k : Nat), k ≤ t.needs.length ∧ i = .int .i64 k ∧ Hid (needOf (t.needs.drop k) res = R) ∧ w = wr) (fun i _ => t.needs.length - (intOf i).toNat)
      case atStart => exact ⟨0, Nat.zero_le _, rfl, HQ, rfl⟩
      case round =>
        clear HQ
        obtain ⟨k, hk, rfl, HQ, rfl⟩ := hrel
        by_cases hlt : k < t.needs.length
        · have a1 : decide (k < t.needs.length) = true := by simpa using hlt
          have hx := List.getElem?_eq_getElem hlt
          have hq := HQ.out
          rw [needOf_drop hlt] at hq
          generalize t.needs[k] = u at *
          obtain ⟨x0, x1⟩ := needsC_at hx
          obtain ⟨gn, capn, e, _⟩ := Hown.out.form (by omega)
          cases e
          have k0 := Hown.out.cells' (g := gn) rfl x0
          have k1 := Hown.out.cells' (g := gn) rfl x1
          have j0 : (0 : Int) ≤ (k : Int) := by omega
          have j1 : (k : Int) < (t.needs.length : Int) := by omega
          clear hx x0 x1 HQ
          by_cases hr : u.res = res
          · have e1 : (u.res == res) = true := by simpa using hr
            rw [if_pos hr] at hq
            subst hq
            clear hr
            go_wp2_with fail
            go_ret
            exact ⟨rfl, rfl⟩
          · have e1 : (u.res == res) = false := by simpa using hr
            rw [if_neg hr] at hq
            have Hq := hid hq
            clear hr hq
            go_wp2_with fail
            go_roundw
            case rel => exact ⟨k + 1, by omega, by go_num, Hq, by first | rfl | trivial⟩
            case measure => simp [intOf]; omega
        · have a1 : decide (k < t.needs.length) = false := by simpa using hlt
          have hq := HQ.out
          rw [List.drop_eq_nil_of_le (by omega)] at hq
          obtain rfl : 0 = R := hq
          clear HQ
          go_wp2_with fail
          go_ret
          exact ⟨rfl, rfl⟩
    · have b2 : decide ((m.ts.length : Int) ≤ (n : Int)) = true := decide_eq_true (by omega)
      have b3 : decide (m.ts.length ≤ n) = true := decide_eq_true (by omega)
      have hR : Tm.need m.ts n res = 0 := by unfold Tm.need; rw [if_neg (by omega), Int.toNat_natCast, List.getElem?_eq_none (by omega)]
      rw [hR]
      clear hR h h0
      go_enter Tryz.func89, Tryz.ntmps89
      go_wp2_with fail
      go_ret
      exact ⟨rfl, rfl⟩
end
end Go.Proofs.YtnkjjhenfhnajaaGreatDoor
