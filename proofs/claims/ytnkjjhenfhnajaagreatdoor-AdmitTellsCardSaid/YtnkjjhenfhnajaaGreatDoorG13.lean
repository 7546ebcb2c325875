/-
  Texts Ty Tf in one.
-/
import Derived.Test.YtnkjjhenfhnajaaGreatDoorTz
/-
  Package tasks, walked: Add.
-/
namespace Go.Proofs.YtnkjjhenfhnajaaGreatDoor
open Go.RowKit Go.Kw Go.Kreg Go.Tm

theorem laid_len (k : ByteArray) (v : Nat) (ns : List Tn.Row) : (Tn.laid k v ns).length = ns.length + 1 := by
  have hble := Tn.below_le k ns
  simp only [Tn.laid, List.length_append, List.length_cons, List.length_take, List.length_drop]
  omega
theorem tabx_add {m : TM} {y : TabX} {x : Task} {uv rv nv nd st : Value} (h : TabOk m y) (hc : m.check x = 0) :
    TabOk ⟨m.words, m.units, m.ts ++ [x]⟩ ⟨uv, rv, nv, y.xs ++ [(nd, st)], Tn.laid x.name m.ts.length y.ns⟩ := by
  have ha := TM.add_ok h.ok x
  unfold TM.add at ha
  rw [if_neg (by simp [hc])] at ha
  have hn := (TM.check_fit hc).2.1
  have hble := Tn.below_le x.name y.ns
  refine ⟨ha, by simp [h.len], h.names.add hn (Tn.find_add hn), ?_⟩
  simp only [Tn.laid, List.length_append, List.length_cons, List.length_take, List.length_drop, List.length_nil]
  have := h.nlen
  omega

section
variable {W w : World} {F : Nat → Prop} {p : Nat} {m : TM}
set_option maxRecDepth 100000 in
set_option maxHeartbeats 4000000 in
theorem add_any (hG : Glob W) (h : Sts [glC W, tabC p m] F w) (x : Task) {nd : Value} (hv : SlNd w nd x.needs) (hb : -9223372036854775808 ≤ x.frame ∧ x.frame ≤ 9223372036854775807) :
    Calls Tryz.prog 19 #[.pointer (some ⟨p, 0, none⟩), taskV x nd] w fun e w' => e = .returned (.tuple #[.int .i64 (m.add x).1, .int .i64 (m.add x).2.1]) ∧ St F w [glC W, tabC p (m.add x).2.2] w' := by
  have hv' := hv
  obtain ⟨na, nc, rfl, _⟩ := hv
  have hS0 := (St.of h).new TTk [.string x.name, .int .i64 x.level, .int .i64 x.frame, .slice na x.needs.length nc, .string x.code, .int .i64 x.period, .int .i64 x.first, .int .i64 x.gap]
  simp only [Kw.red] at hS0
  have hV0 := hv'.new ((Keeps.refl (fun _ => False) w).alloc (.cells #[.string x.name, .int .i64 x.level, .int .i64 x.frame, .slice na x.needs.length nc, .string x.code, .int .i64 x.period, .int .i64 x.first, .int .i64 x.gap] TTk))
  obtain ⟨y0, hy0⟩ := tab_at 1 hS0
  obtain ⟨F0, hg0, _⟩ := hS0.at 0 rfl
  have hck := tcheck_any hG hg0 hy0 x hV0 hb
  obtain ⟨c0, c1, c2, c3, c4, c5, c6, c7, cz⟩ := cells8 (hS0.blk 2)
  have HS0 := hid hS0
  have HV0 := hid hV0
  have HC := hid hck
  unfold taskV at *
  by_cases hc : m.check x ≠ 0
  · have ha : m.add x = (-1, m.check x, m) := by unfold TM.add; rw [if_pos hc]
    rw [ha]
    have bc : (m.check x != 0) = true := by simpa using hc
    generalize m.check x = E at *
    clear hc ha h hv' hS0 hV0 hy0 hg0 hck
    go_enter Tryz.func19, Tryz.ntmps19
    go_wp2_with fail
    refine HC.out.mono ?_; rintro e w1 ⟨rfl, k1⟩
    have HS1 := hid (HS0.out.step k1)
    clear k1 HC HS0
    go_wp2_with fail
    go_ret2
    exact ⟨rfl, HS1.out.sub [0, 1]⟩
  · have hc0 : m.check x = 0 := by simpa using hc
    have ha : m.add x = ((m.ts.length : Int), 0, ⟨m.words, m.units, m.ts ++ [x]⟩) := by unfold TM.add; rw [if_neg hc]
    rw [ha]
    rw [hc0] at HC
    have hfit := TM.check_fit hc0
    have hfew := hfit.2.2.2.1
    have HFit := hid hfit
    have HC0 := hid hc0
    clear hc ha h hv' hS0 hV0 hy0 hg0 hck hfit hc0
    go_enter Tryz.func19, Tryz.ntmps19
    go_wp2_with fail
    refine HC.out.mono ?_; rintro e w1 ⟨rfl, k1⟩
    have hS1 := HS0.out.step k1
    obtain ⟨c0, c1, c2, c3, c4, c5, c6, c7, cz⟩ := cells8 (hS1.blk 2)
    obtain ⟨y1, hy1⟩ := tab_at 1 hS1
    have hsl := stackLen_any hy1.cells.2.2.1 hy1.rows
    have HV1 := hid (HV0.out.new k1)
    have HS1 := hid hS1
    clear k1 HC HS0 HV0 hy1 hS1
    go_wp2_with fail
    refine hsl.mono ?_; rintro e w2 ⟨rfl, rfl⟩
    clear hsl
    obtain ⟨Fg, hg1, _⟩ := HS1.out.at 0 rfl
    have hp := prog_fresh hG hg1 x.code
    rw [show Cm.program x.code.data.toList = prog x from rfl] at hp
    have h0 := HFit.out.1.code
    rw [h0] at hp
    go_wp2_with fail
    refine hp.mono ?_; rintro e w2 ⟨lv, rfl, k2, hst⟩
    have hS2 := HS1.out.adds (hst (by trivial))
    simp only [Kw.red] at hS2
    obtain ⟨sa, sc, rfl, _⟩ := (hS2.own 3).shape
    have HV2 := hid (HV1.out.new k2)
    have hcl := cloneN_any HV2.out (by have h1 := HFit.out.2.2.1; have h2 := needs_few h1; obtain ⟨y1, hy1⟩ := tab_at 1 HS1.out; have h3 := hy1.tok.ok.begins; unfold begins at h3; split at h3; (omega); split at h3 <;> omega)
    obtain ⟨c0, c1, c2, c3, c4, c5, c6, c7, cz⟩ := cells8 (hS2.blk 2)
    have HS2 := hid hS2
    clear hp hst k2 hS2 HS1 HV1 hg1 h0
    go_wp2_with fail
    refine hcl.mono ?_; rintro e w3 ⟨nd', rfl, hnd⟩
    have hS3 := HS2.out.adds hnd
    simp only [Kw.red] at hS3
    obtain ⟨da, dc, rfl, _⟩ := (hS3.own 4).shape
    obtain ⟨c0, c1, c2, c3, c4, c5, c6, c7, cz⟩ := cells8 (hS3.blk 2)
    have HS3 := hid hS3
    clear hcl hnd hS3 HS2
    go_wp2_with fail
    have hS4 := HS3.out.set 2 3 (.slice da x.needs.length dc)
    simp only [Kw.red] at hS4
    simp only [List.set_cons_succ, List.set_cons_zero] at hS4
    obtain ⟨y4, hS4⟩ := hS4.opens 1 (tabCs p m) (fun F h => h)
    simp only [tabCs] at hS4
    simp only [Kw.red] at hS4
    have htok : TabOk m y4 := hS4.pr 10
    obtain ⟨c0, c1, c2, c3, c4, c5, c6, c7, cz⟩ := cells8 (hS4.blk 2)
    have HS4 := hid hS4
    have Htok := hid htok
    clear hS4 HS3 htok
    have hS4 := HS4.out.drew
    obtain ⟨F1, g1, _, _, bk⟩ := hS4.sel [5, 7]
    have hlen := Htok.out.len
    have hpush := stackPush_any (o := 2) g1 rfl (by omega) (a := .string x.name) (b := .int .i64 x.level) (c := .int .i64 x.frame) (d := .slice da x.needs.length dc) (e := .string x.code) (f := .int .i64 x.period) (g := .int .i64 x.first) (h := .int .i64 x.gap) (k := .slice sa (prog x).1.length sc)
      (by intro u hu; simp only [List.mem_cons, List.not_mem_nil, or_false] at hu; rcases hu with rfl | rfl | rfl | rfl | rfl | rfl | rfl | rfl | rfl <;> rfl)
    have HPush := hid hpush
    clear hS4 g1 hlen hpush
    refine wp_region_mix [true, true, true, true, true, true, false] 0 (fun _ => False) (by kernel_rfl) (by decide +kernel) ?_
    simp only [front, back, List.take_zero, List.drop_zero]
    repeat ((first | refine wpFront_load rfl ?_ | refine wpFront_other rfl ?_); (first | go_big_quiet_step (fail) | quiet_step (fail)); refine wpQuiet_nil ?_)
    refine wpFront_nil ?_
    simp only [wpSegs]
    go_wp2_with fail
    refine HPush.out.mono ?_; rintro e w5 ⟨rfl, rv', hS⟩
    have hS5 := bk hS
    simp only [Kw.red] at hS5
    simp only [List.set_cons_succ, List.set_cons_zero] at hS5
    rw [show rowsC m.ts y4.xs ++ [.string x.name, .int .i64 x.level, .int .i64 x.frame, .slice da x.needs.length dc, .string x.code, .int .i64 x.period, .int .i64 x.first, .int .i64 x.gap, .slice sa (prog x).1.length sc] = rowsC (m.ts ++ [x]) (y4.xs ++ [(.slice da x.needs.length dc, .slice sa (prog x).1.length sc)]) from (rowsC_app x (.slice da x.needs.length dc, .slice sa (prog x).1.length sc) Htok.out.len).symm] at hS5
    obtain ⟨c0, c1, c2, c3, c4, c5, c6, c7, cz⟩ := cells8 (hS5.blk 2)
    have HS5 := hid hS5
    clear hS hS5 bk HPush HS4
    go_wp2_with fail
    refine NoPanic.normal ?_
    go_wp2_with fail
    have hS6 := HS5.out.drew
    obtain ⟨F2, g2, _, _, bk⟩ := hS6.sel [5, 8]
    have hfn : Tn.foundAt x.name y4.ns = false := by rw [(Htok.out.names.found x.name).1, HFit.out.2.1]; rfl
    have hset := nset_any (o := 3) g2 rfl Htok.out.names.1 (by have := Htok.out.nlen; omega) x.name m.ts.length hfn
    have HSet := hid hset
    clear hS6 g2 hfn hset
    refine wp_region_mix [true, true, true, true, true, true, false] 0 (fun _ => False) (by kernel_rfl) (by decide +kernel) ?_
    simp only [front, back, List.take_zero, List.drop_zero]
    repeat ((first | refine wpFront_load rfl ?_ | refine wpFront_other rfl ?_); (first | go_big_quiet_step (fail) | quiet_step (fail)); refine wpQuiet_nil ?_)
    refine wpFront_nil ?_
    simp only [wpSegs]
    go_wp2_with fail
    refine HSet.out.mono ?_; rintro e w6 ⟨rfl, nv', hS⟩
    have hS7 := bk hS
    simp only [Kw.red] at hS7
    simp only [List.set_cons_succ, List.set_cons_zero] at hS7
    have HS7 := hid hS7
    clear hS hS7 bk HSet HS5
    go_wp2_with fail
    refine NoPanic.normal ?_
    go_wp2_with fail
    go_ret2
    refine ⟨rfl, ?_⟩
    have q1 := HS7.out.fold [4, 3] (taskCh x (.slice da x.needs.length dc, .slice sa (prog x).1.length sc)) (fun F h => h)
    simp only [Kw.red] at q1
    have q2 := q1.snoc 9 4
    simp only [Kw.red] at q2
    rw [← tasksCh_app x (.slice da x.needs.length dc, .slice sa (prog x).1.length sc) Htok.out.len] at q2
    have q3 := q2.imp 10 (c := .pr (TabOk m y4)) (.pr (TabOk ⟨m.words, m.units, m.ts ++ [x]⟩ ⟨y4.uv, rv', nv', y4.xs ++ [(.slice da x.needs.length dc, .slice sa (prog x).1.length sc)], Tn.laid x.name m.ts.length y4.ns⟩)) (fun F h => ⟨tabx_add h.1 HC0.out, h.2⟩)
    simp only [Kw.red] at q3
    rw [show m.ts.length + 1 = (m.ts ++ [x]).length by simp, show y4.ns.length + 1 = (Tn.laid x.name m.ts.length y4.ns).length from (laid_len _ _ _).symm] at q3
    have q4 := q3.fold [5, 6, 7, 8, 9, 10] (tabC p ⟨m.words, m.units, m.ts ++ [x]⟩) (fun F h => ⟨⟨y4.uv, rv', nv', y4.xs ++ [(Value.slice da x.needs.length dc, Value.slice sa (prog x).1.length sc)], Tn.laid x.name m.ts.length y4.ns⟩, h⟩)
    exact q4.sub [0, 5]
end
end Go.Proofs.YtnkjjhenfhnajaaGreatDoor

/-
  Lists of tasks: how they read.
-/
namespace Go.Proofs.YtnkjjhenfhnajaaGreatDoor
open Go.RowKit Go.Kw Go.Kreg Go.Tm

abbrev TTks : Nat := 23
def big (n : Int) : Prop := -9223372036854775808 ≤ n ∧ n ≤ 9223372036854775807
instance (n : Int) : Decidable (big n) := by unfold big; infer_instance
/-- The cells of a task at this place. -/
def TkAt (w : World) (b o : Nat) (nd : Value) (x : Task) : Prop :=
  w.cell? ⟨b, o, none⟩ = some (.string x.name) ∧ w.cell? ⟨b, o + 1, none⟩ = some (.int .i64 x.level) ∧ w.cell? ⟨b, o + 2, none⟩ = some (.int .i64 x.frame) ∧ w.cell? ⟨b, o + 3, none⟩ = some nd ∧
  w.cell? ⟨b, o + 4, none⟩ = some (.string x.code) ∧ w.cell? ⟨b, o + 5, none⟩ = some (.int .i64 x.period) ∧ w.cell? ⟨b, o + 6, none⟩ = some (.int .i64 x.first) ∧ w.cell? ⟨b, o + 7, none⟩ = some (.int .i64 x.gap)
/-- A slice value that reads as a list of tasks. -/
def SlTk (w : World) (v : Value) (l : List Task) : Prop :=
  ∃ ao c, v = .slice ao l.length c ∧ l.length ≤ 9223372036854775807 ∧ l.length ≤ c ∧ c ≤ maxLen ∧
    ∀ (j : Nat) x, l[j]? = some x → ∃ b o nd, ao = some ⟨b, o, none⟩ ∧ TkAt w b (o + j * 8) nd x ∧ SlNd w nd x.needs ∧ big x.level ∧ big x.frame ∧ big x.period ∧ big x.first ∧ big x.gap
theorem TkAt.keeps {w w' : World} {b o : Nat} {nd : Value} {x : Task} {F : Nat → Prop} (h : TkAt w b o nd x) (hk : Keeps F w w') (hF : ¬ F b) : TkAt w' b o nd x := by
  have hb := hk.block b (World.block_lt_of_cell? w _ h.1) hF
  have key : ∀ (o : Nat) (u : Value), w.cell? ⟨b, o, none⟩ = some u → w'.cell? ⟨b, o, none⟩ = some u := fun o u h => (World.cell?_of_block (w := w) hb).trans h
  obtain ⟨h0, h1, h2, h3, h4, h5, h6, h7⟩ := h
  exact ⟨key _ _ h0, key _ _ h1, key _ _ h2, key _ _ h3, key _ _ h4, key _ _ h5, key _ _ h6, key _ _ h7⟩
/-- Outside what is new nothing turns. -/
theorem SlTk.newer {w w' : World} {v : Value} {l : List Task} {F : Nat → Prop} (h : SlTk w v l) (hk : Keeps F w w') (hF : ∀ b, F b → w.heap.size ≤ b) : SlTk w' v l := by
  obtain ⟨ao, c, rfl, hl, hlc, hcm, hx⟩ := h
  refine ⟨ao, c, rfl, hl, hlc, hcm, fun j x hj => ?_⟩
  obtain ⟨b, o, nd, rfl, h1, h2, h3⟩ := hx j x hj
  have hb : b < w.heap.size := World.block_lt_of_cell? w _ h1.1
  exact ⟨b, o, nd, rfl, h1.keeps hk fun hf => by have := hF _ hf; omega, h2.newer h2 hk hF, h3⟩
theorem SlTk.new {w w' : World} {v : Value} {l : List Task} (h : SlTk w v l) (hk : Keeps (fun _ => False) w w') : SlTk w' v l := h.newer hk fun _ => False.elim

def tasksV : List Task → List Value → List Value
  | x :: l, nd :: nds => [.string x.name, .int .i64 x.level, .int .i64 x.frame, nd, .string x.code, .int .i64 x.period, .int .i64 x.first, .int .i64 x.gap] ++ tasksV l nds
  | _, _ => []
theorem tasksV_at : ∀ {l : List Task} {nds : List Value} {i : Nat} {x : Task} {nd : Value}, l[i]? = some x → nds[i]? = some nd → ∀ j, j < 8 →
    (tasksV l nds)[i * 8 + j]? = [.string x.name, .int .i64 x.level, .int .i64 x.frame, nd, .string x.code, .int .i64 x.period, .int .i64 x.first, .int .i64 x.gap][j]?
  | u :: l, y :: nds, 0, x, nd, h, k, j, hj => by
    obtain rfl : u = x := by simpa using h
    obtain rfl : y = nd := by simpa using k
    simp only [tasksV, Nat.zero_mul, Nat.zero_add]
    rw [List.getElem?_append_left (by simp; omega)]
  | u :: l, y :: nds, i + 1, x, nd, h, k, j, hj => by
    simp only [tasksV]
    rw [List.getElem?_append_right (by simp; omega), ← tasksV_at (l := l) (nds := nds) (by simpa using h) (by simpa using k) j hj]
    congr 1; simp; omega
  | [], _, i, x, nd, h, _, _, _ => by simp at h
  | _ :: _, [], i, x, nd, _, k, _, _ => by simp at k
theorem SlTk.of_blk {w : World} {b : Nat} {l : List Task} {nds : List Value} (hb : Blk w b TTk (tasksV l nds)) (hl : l.length ≤ 1000000)
    (hn : ∀ (k : Nat) x, l[k]? = some x → (∃ nd, nds[k]? = some nd ∧ SlNd w nd x.needs) ∧ big x.level ∧ big x.frame ∧ big x.period ∧ big x.first ∧ big x.gap) : SlTk w (.slice (some ⟨b, 0, none⟩) l.length l.length) l := by
  refine ⟨_, _, rfl, by omega, Nat.le_refl _, by unfold maxLen; omega, fun j x hj => ?_⟩
  obtain ⟨⟨nd, hk, hs⟩, hbd⟩ := hn j x hj
  have ha := tasksV_at hj hk
  refine ⟨b, 0, nd, rfl, ?_, hs, hbd⟩
  rw [Nat.zero_add]
  exact ⟨hb.at (ha 0 (by omega)), hb.at (ha 1 (by omega)), hb.at (ha 2 (by omega)), hb.at (ha 3 (by omega)), hb.at (ha 4 (by omega)), hb.at (ha 5 (by omega)), hb.at (ha 6 (by omega)), hb.at (ha 7 (by omega))⟩
theorem SlNd.nil (w : World) : SlNd w (.slice none 0 0) [] := ⟨none, 0, rfl, by simp, by simp, by simp [maxLen], fun j x hj => by simp at hj, fun _ => rfl, by simp⟩
theorem SlNd.blk {w : World} {b : Nat} {l : List Need} (h : Blk w b TNd (needsC l)) (hl : l.length ≤ 1000000) (hb : ∀ x ∈ l, big x.res ∧ big x.units) : SlNd w (.slice (some ⟨b, 0, none⟩) l.length l.length) l :=
  ⟨_, _, rfl, by omega, Nat.le_refl _, by unfold maxLen; omega, fun j x hj => ⟨b, 0, rfl, by rw [Nat.zero_add]; exact h.at (needsC_at hj).1, by rw [Nat.zero_add]; exact h.at (needsC_at hj).2⟩, (fun e => by cases e), hb⟩
end Go.Proofs.YtnkjjhenfhnajaaGreatDoor
