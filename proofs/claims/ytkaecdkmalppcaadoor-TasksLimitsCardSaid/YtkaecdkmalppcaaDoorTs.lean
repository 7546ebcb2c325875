/-
  Package shelf at the tasks' rows, walked: Stack.Len, At, Push.
-/
import Derived.Test.YtkaecdkmalppcaaDoorCw
import Derived.Test.YtkaecdkmalppcaaDoorTl
namespace Go.Proofs.YtkaecdkmalppcaaDoor
open Go.RowKit Go.Kw Go.Kreg Go.Tm

abbrev TR : Nat := 69
abbrev TRs : Nat := 59
abbrev zrow : List Value := [.string ⟨#[]⟩, .int .i64 0, .int .i64 0, .slice none 0 0, .string ⟨#[]⟩, .int .i64 0, .int .i64 0, .int .i64 0, .slice none 0 0]
theorem infoR : (Tryd.prog.info? TR).map (fun i => (i.zero, i.size, i.bytes)) = some (some (.agg zrow.toArray), 9, 120) := by kernel_rfl
theorem zeroR : (Tryd.prog.info? TR).map (fun i => i.zero) = some (some (.agg zrow.toArray)) := by kernel_rfl
theorem sizeR : (Tryd.prog.info? TR).map (·.size) = some 9 := by kernel_rfl
theorem cellIn {w w1 : World} (hk : Keeps (fun _ => False) w w1) {a : Addr} {u : Value} (h : w.cell? a = some u) : w1.cell? a = some u :=
  (World.cell?_of_block (w := w) (hk.block a.block (World.block_lt_of_cell? w _ h) id)).trans h
theorem cells9 {w : World} {p : Nat} {T : TypeId} {a b c d e f g h i : Value} (hb : Blk w p T [a, b, c, d, e, f, g, h, i]) :
    w.cell? ⟨p, 0, none⟩ = some a ∧ w.cell? ⟨p, 1, none⟩ = some b ∧ w.cell? ⟨p, 2, none⟩ = some c ∧ w.cell? ⟨p, 3, none⟩ = some d ∧ w.cell? ⟨p, 4, none⟩ = some e ∧ w.cell? ⟨p, 5, none⟩ = some f ∧ w.cell? ⟨p, 6, none⟩ = some g ∧ w.cell? ⟨p, 7, none⟩ = some h ∧ w.cell? ⟨p, 8, none⟩ = some i ∧ (∀ o, w.frozen? ⟨p, o, none⟩ = false) :=
  ⟨hb.cell 0, hb.cell 1, hb.cell 2, hb.cell 3, hb.cell 4, hb.cell 5, hb.cell 6, hb.cell 7, hb.cell 8, hb.fz⟩

section
variable {w : World} {p o n : Nat} {rv : Value} {xs : List Value}

set_option maxRecDepth 100000 in
theorem stackLen_any (hc : w.cell? ⟨p, o, none⟩ = some rv) (hown : Own w TR 9 rv n xs) :
    Calls Tryd.prog 26 #[.pointer (some ⟨p, o, none⟩)] w fun e w' => e = .returned (.int .i64 n) ∧ w = w' := by
  obtain ⟨a, c, rfl, _⟩ := hown.shape
  clear hown
  go_enter Tryd.func26, Tryd.ntmps26
  go_wp2_with fail
  go_ret
  exact ⟨rfl, rfl⟩

set_option maxRecDepth 100000 in
set_option maxHeartbeats 1000000 in
theorem stackAt_out (hc : w.cell? ⟨p, o, none⟩ = some rv) (hown : Own w TR 9 rv n xs) (i : Int) (hi : i < 0 ∨ (n : Int) ≤ i) :
    Calls Tryd.prog 31 #[.pointer (some ⟨p, o, none⟩), .int .i64 i] w fun e w' => e = .returned (.tuple #[.agg zrow.toArray, .bool false]) ∧ Keeps (fun _ => False) w w' := by
  obtain ⟨a, c, rfl, _⟩ := hown.shape
  clear hown
  by_cases h0 : i < 0
  · have b0 : decide (i < 0) = true := by simpa using h0
    clear hi h0
    go_enter Tryd.func31, Tryd.ntmps31
    go_wp2_with fail
    exact bodyPost_ret (v := .tuple #[.agg zrow.toArray, .bool false]) (by simp [results, Tryd.results31, go_sem]) rfl ⟨rfl, ((Keeps.refl _ _).alloc _).alloc _⟩
  · have b0 : decide (i < 0) = false := by simpa using h0
    have b1 : decide ((n : Int) ≤ i) = true := by simp; omega
    clear hi h0
    go_enter Tryd.func31, Tryd.ntmps31
    go_wp2_with fail
    exact bodyPost_ret (v := .tuple #[.agg zrow.toArray, .bool false]) (by simp [results, Tryd.results31, go_sem]) rfl ⟨rfl, ((Keeps.refl _ _).alloc _).alloc _⟩

set_option maxRecDepth 100000 in
set_option maxHeartbeats 1000000 in
theorem stackAt_in (hc : w.cell? ⟨p, o, none⟩ = some rv) (hown : Own w TR 9 rv n xs) (i : Nat) (hi : i < n) {a b c d e f g h k : Value}
    (hx : xs[i * 9]? = some a ∧ xs[i * 9 + 1]? = some b ∧ xs[i * 9 + 2]? = some c ∧ xs[i * 9 + 3]? = some d ∧ xs[i * 9 + 4]? = some e ∧ xs[i * 9 + 5]? = some f ∧ xs[i * 9 + 6]? = some g ∧ xs[i * 9 + 7]? = some h ∧ xs[i * 9 + 8]? = some k) (h1 : ∀ u ∈ [a, b, c, d, e, f, g, h, k], u.oneCell' = true) :
    Calls Tryd.prog 31 #[.pointer (some ⟨p, o, none⟩), .int .i64 i] w fun r w' => r = .returned (.tuple #[.agg #[a, b, c, d, e, f, g, h, k], .bool true]) ∧ Keeps (fun _ => False) w w' := by
  obtain ⟨gb, cap, rfl, hlt⟩ := hown.form (by omega)
  obtain ⟨x0, x1, x2, x3, x4, x5, x6, x7, x8⟩ := hx
  have d0 := hown.cells' (g := gb) rfl x0
  have d1 := hown.cells' (g := gb) rfl x1
  have d2 := hown.cells' (g := gb) rfl x2
  have d3 := hown.cells' (g := gb) rfl x3
  have d4 := hown.cells' (g := gb) rfl x4
  have d5 := hown.cells' (g := gb) rfl x5
  have d6 := hown.cells' (g := gb) rfl x6
  have d7 := hown.cells' (g := gb) rfl x7
  have d8 := hown.cells' (g := gb) rfl x8
  have hS := hid ((St.start w).new TR zrow)
  clear x0 x1 x2 x3 x4 x5 x6 x7 x8 hown
  have b0 : decide ((i : Int) < 0) = false := by simp
  have b1 : decide (n ≤ i) = false := by simpa using hi
  have i0 : (0 : Int) ≤ (i : Int) := by omega
  have i1 : (i : Int) < (n : Int) := by omega
  go_enter Tryd.func31, Tryd.ntmps31
  go_wp2_with (refine wpList_storeS 0 TR _ _ rfl rfl [a, b, c, d, e, f, g, h, k] hS.out rfl rfl rfl sizeR rfl h1 ?_; intro w2 hS2; obtain ⟨f0, f1, f2, f3, f4, f5, f6, f7, f8, fz⟩ := cells9 (hS2.blk 0))
  exact bodyPost_ret (v := .tuple #[.agg #[a, b, c, d, e, f, g, h, k], .bool true]) (by simp [results, Tryd.results31, go_sem, f0, f1, f2, f3, f4, f5, f6, f7, f8]) rfl ⟨rfl, hS2.keeps⟩
end

set_option maxRecDepth 100000 in
set_option maxHeartbeats 2000000 in
theorem stackPush_any {w : World} {F : Nat → Prop} {p o n : Nat} {T : TypeId} {ys xs : List Value} {rv : Value} (H : Sts [.pt p T ys, .row TR 9 rv n xs] F w) (ho : ys[o]? = some rv) (hn : n ≤ 1000000) {a b c d e f g h k : Value}
    (h1 : ∀ u ∈ [a, b, c, d, e, f, g, h, k], u.oneCell' = true) :
    Calls Tryd.prog 29 #[.pointer (some ⟨p, o, none⟩), .agg #[a, b, c, d, e, f, g, h, k]] w fun r w' => r = .returned (.tuple #[]) ∧
      ∃ rv', St F w [.pt p T (ys.set o rv'), .row TR 9 rv' (n + 1) (xs ++ [a, b, c, d, e, f, g, h, k])] w' := by
  have hcell := ((St.of H).blk 0).at ho
  have hfz := ((St.of H).blk 0).fz o
  have hS := (St.of H).new TR [a, b, c, d, e, f, g, h, k]
  simp only [Kw.red] at hS
  obtain ⟨c0, c1, c2, c3, c4, c5, c6, c7, c8, cz⟩ := cells9 (hS.blk 2)
  have hpw : p < w.heap.size := ((St.of H).blk 0).lt
  have HS := hid hS
  have H1 := hid h1
  clear hS H h1
  go_enter Tryd.func29, Tryd.ntmps29
  go_wp2_with fail
  refine wp_region_mix [true, true, true, true, true, true, false, false, false, false, false] 1 (fun _ => False) (by kernel_rfl) (by decide +kernel) ?_
  simp only [front, back, List.take_succ_cons, List.take_zero, List.drop_succ_cons, List.drop_zero]
  repeat ((first | refine wpFront_load rfl ?_ | refine wpFront_other rfl ?_); (first | go_big_quiet_step (fail) | quiet_step (fail)); refine wpQuiet_nil ?_)
  refine wpFront_nil ?_
  simp only [wpSegs]
  go_wp2_with fail
  refine segQ_normal (((Keeps.refl _ _).alloc _).drew) ?_
  have hSb := (HS.out.new TR [a, b, c, d, e, f, g, h, k]).drew
  simp only [Kw.red] at hSb
  rw [show (w.alloc (.cells [a, b, c, d, e, f, g, h, k].toArray TR)).heap.size = w.heap.size + 1 by simp] at hSb
  refine wpList_appS 1 3 _ _ TRs TR (.agg zrow.toArray) 9 120 infoR Tryd.underlying59 rfl (by decide) rfl rfl hSb rfl rfl rfl rfl rfl H1.out (by omega) (by unfold maxLen; omega) (by omega) ?_
  intro gb gc w7 hSc hat
  have hc7 := (hSc.blk 0).at ho
  have hfz7 := (hSc.blk 0).fz o
  clear c0 c1 c2 c3 c4 c5 c6 c7 c8 cz hcell hfz
  go_wp2_with fail
  refine NoPanic.normal ?_
  go_wp2_with fail
  go_end0
  refine ⟨rfl, .slice (some ⟨gb, 0, none⟩) (n + 1) gc, ?_⟩
  exact (hSc.set 0 o (.slice (some ⟨gb, 0, none⟩) (n + 1) gc)).sub [0, 1]
end Go.Proofs.YtkaecdkmalppcaaDoor
