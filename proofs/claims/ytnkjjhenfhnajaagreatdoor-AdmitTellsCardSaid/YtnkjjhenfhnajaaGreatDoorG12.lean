/-
  Texts Tw Tx in one.
-/
import Derived.Test.YtnkjjhenfhnajaaGreatDoorTr
/-
  Package tasks, walked: what hands out copies.
-/
namespace Go.Proofs.YtnkjjhenfhnajaaGreatDoor
open Go.RowKit Go.Kw Go.Kreg Go.Tm

abbrev ztask : List Value := [.string ⟨#[]⟩, .int .i64 0, .int .i64 0, .slice none 0 0, .string ⟨#[]⟩, .int .i64 0, .int .i64 0, .int .i64 0]
theorem infoTk : (Tryz.prog.info? TTk).map (fun i => (i.zero, i.size, i.bytes)) = some (some (.agg ztask.toArray), 8, 96) := by kernel_rfl
theorem sizeTk : (Tryz.prog.info? TTk).map (·.size) = some 8 := by kernel_rfl
theorem cells8 {w : World} {p : Nat} {T : TypeId} {a b c d e f g h : Value} (hb : Blk w p T [a, b, c, d, e, f, g, h]) :
    w.cell? ⟨p, 0, none⟩ = some a ∧ w.cell? ⟨p, 1, none⟩ = some b ∧ w.cell? ⟨p, 2, none⟩ = some c ∧ w.cell? ⟨p, 3, none⟩ = some d ∧ w.cell? ⟨p, 4, none⟩ = some e ∧ w.cell? ⟨p, 5, none⟩ = some f ∧ w.cell? ⟨p, 6, none⟩ = some g ∧ w.cell? ⟨p, 7, none⟩ = some h ∧ (∀ o, w.frozen? ⟨p, o, none⟩ = false) :=
  ⟨hb.cell 0, hb.cell 1, hb.cell 2, hb.cell 3, hb.cell 4, hb.cell 5, hb.cell 6, hb.cell 7, hb.fz⟩
theorem needs_16 {m : TM} (h : m.Ok) {t : Task} (ht : t ∈ m.ts) : t.needs.length ≤ 16 := by
  have h1 := needs_few (h.needs t ht)
  have h2 := h.begins
  unfold begins at h2
  split at h2
  · omega
  · split at h2
    · omega
    · omega

theorem taskV_one (t : Task) (g nl : Nat) : ∀ u ∈ [.string t.name, .int .i64 t.level, .int .i64 t.frame, .slice (some ⟨g, 0, none⟩) nl nl, .string t.code, .int .i64 t.period, .int .i64 t.first, .int .i64 t.gap], Value.oneCell' u = true := by
  intro u hu; simp only [List.mem_cons, List.not_mem_nil, or_false] at hu; rcases hu with rfl | rfl | rfl | rfl | rfl | rfl | rfl | rfl <;> rfl
theorem ztask_one : ∀ u ∈ ztask, Value.oneCell' u = true := by
  intro u hu; simp only [List.mem_cons, List.not_mem_nil, or_false] at hu; rcases hu with rfl | rfl | rfl | rfl | rfl | rfl | rfl | rfl <;> rfl
theorem own_src {w : World} {T : TypeId} {sz n c : Nat} {ao : Option Addr} {xs : List Value} (h : Own w T sz (.slice ao n c) n xs) : ∀ ad, ao = some ad → ∀ (j : Nat) u, xs[j]? = some u → w.cell? (ad.add j) = some u := by
  intro ad had j u hu
  subst had
  rcases h.2 with ⟨e, _⟩ | ⟨g, cap, cur, e, _⟩
  · cases e
  · simp only [Value.slice.injEq, Option.some.injEq] at e
    obtain ⟨e, _⟩ := e
    subst e
    rw [add_at, Nat.zero_add]
    exact h.cells' (g := g) rfl hu
theorem own_nil {w : World} {T : TypeId} {sz n c : Nat} {ao : Option Addr} {xs : List Value} (h : Own w T sz (.slice ao n c) n xs) : ao = none → n = 0 ∧ c = 0 := by
  intro e
  subst e
  rcases h.2 with ⟨e, hn⟩ | ⟨g, cap, cur, e, _⟩
  · cases e; exact ⟨rfl, rfl⟩
  · cases e
section
variable {w : World} {p : Nat} {m : TM} {x : TabX}

set_option maxRecDepth 100000 in
set_option maxHeartbeats 2000000 in
theorem get_in (h : TabAt w p m x) {i : Nat} {t : Task} (ht : m.ts[i]? = some t) : Calls Tryz.prog 67 #[.pointer (some ⟨p, 0, none⟩), .int .i64 i] w fun e w' =>
    ∃ g, e = .returned (.tuple #[taskV t (.slice (some ⟨g, 0, none⟩) t.needs.length t.needs.length), .bool true]) ∧ St (fun _ => False) w [.pt g TNd (needsC t.needs)] w' := by
  obtain ⟨na, nc, sa, sc, hn1, _, hr⟩ := row_in (h.keeps ((Keeps.refl _ w).alloc (.cells ztask.toArray TTk))) ht
  have HS0 := hid ((St.start w).new TTk ztask)
  have hfew := needs_16 h.tok.ok (List.mem_of_getElem? ht)
  have Hn := hid hn1
  unfold rowC at hr
  unfold taskV
  generalize (prog t).1.length = sl at *
  generalize hnl : t.needs.length = nl at *
  have Hnl := hid hnl
  clear hn1 h ht hnl
  go_enter Tryz.func67, Tryz.ntmps67
  go_wp2_with fail
  refine hr.mono ?_; rintro e w2 ⟨rfl, k2⟩
  have HS1 := hid (((HS0.out.step k2).new TR (rowC t (.slice na nl nc, .slice sa sl sc))).new TTk [.string t.name, .int .i64 t.level, .int .i64 t.frame, .slice na nl nc, .string t.code, .int .i64 t.period, .int .i64 t.first, .int .i64 t.gap])
  clear hr HS0
  go_wp2_with fail
  refine wp_region_mix [true, true, true, false, true, true, false, false, false] 1 (fun _ => False) (by kernel_rfl) (by decide +kernel) ?_
  simp only [front, back, List.take_succ_cons, List.take_zero, List.drop_succ_cons, List.drop_zero]
  repeat ((first | refine wpFront_load rfl ?_ | refine wpFront_other rfl ?_); (first | go_big_quiet_step (fail) | quiet_step (fail)); refine wpQuiet_nil ?_)
  refine wpFront_nil ?_
  simp only [wpSegs]
  refine wpList_mkg _ _ TNds TNd (.agg #[.int .i64 0, .int .i64 0]) 2 16 infoNd Tryz.underlying36 rfl rfl HS1.out.drew .i64 .i64 _ nl rfl rfl rfl (by omega) (by unfold maxLen; omega) ?_
  intro g w3 hown3 hk3 hg hS3
  have Hn3 := hid (Hn.out.keeps ((((k2.alloc (.cells #[.string t.name, .int .i64 t.level, .int .i64 t.frame, .slice na nl nc, .string t.code, .int .i64 t.period, .int .i64 t.first, .int .i64 t.gap, .slice sa sl sc] TR)).alloc (.cells #[.string t.name, .int .i64 t.level, .int .i64 t.frame, .slice na nl nc, .string t.code, .int .i64 t.period, .int .i64 t.first, .int .i64 t.gap] TTk)).drew.trans hk3)) fun _ _ => id)
  simp only [Kw.red] at hS3
  have HS3 := hid hS3
  refine wpList_nil (segQ_normal ((Keeps.refl _ _).drew.trans hk3) ?_)
  refine wpList_app_copy _ _ TNds TNd (.agg #[.int .i64 0, .int .i64 0]) 2 16 infoNd Tryz.underlying36 rfl rfl g nl rfl hown3 na nc (needsC t.needs) rfl (by rw [needsC_len, Hnl.out]) (own_nil Hn3.out) (own_src Hn3.out) (needsC_one _) ?_
  intro w4 hb4 hk4
  have hS4 := HS3.out.filled 3 hb4 hk4
  simp only [Kw.red] at hS4
  rw [show (w2.alloc (.cells (rowC t (.slice na nl nc, .slice sa sl sc)).toArray TR)).heap.size = w2.heap.size + 1 by simp] at hS4
  obtain ⟨c0, c1, c2, c3, c4, c5, c6, c7, cz⟩ := cells8 (hS4.blk 2)
  obtain ⟨d0, d1, d2, d3, d4, d5, d6, d7, dz⟩ := cells8 (hS4.blk 0)
  have HS4 := hid hS4
  clear hS4 hS3 hk3 hk4 hb4 hown3 HS3 Hn3 HS1 hg
  go_wp2_with fail
  refine NoPanic.normal ?_
  have hS5 := HS4.out.set 2 3 (.slice (some ⟨g, 0, none⟩) nl nl)
  simp only [Kw.red] at hS5
  simp only [List.set_cons_succ, List.set_cons_zero] at hS5
  have e0 := cells8 (hS5.blk 2)
  have e1 := cells8 (hS5.blk 0)
  obtain ⟨c0, c1, c2, c3, c4, c5, c6, c7, cz⟩ := e0
  obtain ⟨d0, d1, d2, d3, d4, d5, d6, d7, dz⟩ := e1
  have HS5 := hid hS5
  clear hS5 HS4
  go_wp2_with (refine wpList_storeS 0 TTk _ _ rfl rfl [.string t.name, .int .i64 t.level, .int .i64 t.frame, .slice (some ⟨g, 0, none⟩) nl nl, .string t.code, .int .i64 t.period, .int .i64 t.first, .int .i64 t.gap] HS5.out rfl rfl rfl sizeTk rfl (taskV_one t g nl) ?_; intro w6 hS6; obtain ⟨f0, f1, f2, f3, f4, f5, f6, f7, fz⟩ := cells8 (hS6.blk 0))
  exact bodyPost_ret (v := .tuple #[.agg #[.string t.name, .int .i64 t.level, .int .i64 t.frame, .slice (some ⟨g, 0, none⟩) nl nl, .string t.code, .int .i64 t.period, .int .i64 t.first, .int .i64 t.gap], .bool true])
    (by simp [results, Tryz.results67, go_sem, f0, f1, f2, f3, f4, f5, f6, f7]) rfl ⟨g, rfl, hS6.sub [3]⟩

set_option maxRecDepth 100000 in
set_option maxHeartbeats 2000000 in
theorem get_out (h : TabAt w p m x) (i : Int) (hi : i < 0 ∨ (m.ts.length : Int) ≤ i) : Calls Tryz.prog 67 #[.pointer (some ⟨p, 0, none⟩), .int .i64 i] w fun e w' =>
    e = .returned (.tuple #[.agg ztask.toArray, .bool false]) ∧ Keeps (fun _ => False) w w' := by
  have hr := row_out (h.keeps ((Keeps.refl _ w).alloc (.cells ztask.toArray TTk))) i hi
  have HS0 := hid ((St.start w).new TTk ztask)
  clear h
  go_enter Tryz.func67, Tryz.ntmps67
  go_wp2_with fail
  refine hr.mono ?_; rintro e w2 ⟨rfl, k2⟩
  have HS1 := hid (((HS0.out.step k2).new TR zrow).new TTk ztask)
  clear hr HS0
  go_wp2_with fail
  refine wp_region_mix [true, true, true, false, true, true, false, false, false] 1 (fun _ => False) (by kernel_rfl) (by decide +kernel) ?_
  simp only [front, back, List.take_succ_cons, List.take_zero, List.drop_succ_cons, List.drop_zero]
  repeat ((first | refine wpFront_load rfl ?_ | refine wpFront_other rfl ?_); (first | go_big_quiet_step (fail) | quiet_step (fail)); refine wpQuiet_nil ?_)
  refine wpFront_nil ?_
  simp only [wpSegs]
  refine wpList_mkg _ _ TNds TNd (.agg #[.int .i64 0, .int .i64 0]) 2 16 infoNd Tryz.underlying36 rfl rfl HS1.out.drew .i64 .i64 _ 0 rfl rfl rfl (by omega) (by unfold maxLen; omega) ?_
  intro g w3 hown3 hk3 hg hS3
  simp only [Kw.red] at hS3
  have HS3 := hid hS3
  refine wpList_nil (segQ_normal ((Keeps.refl _ _).drew.trans hk3) ?_)
  refine wpList_app_copy _ _ TNds TNd (.agg #[.int .i64 0, .int .i64 0]) 2 16 infoNd Tryz.underlying36 rfl rfl g 0 rfl hown3 none 0 [] rfl rfl (fun _ => ⟨rfl, rfl⟩) (fun _ e => by cases e) (by simp) ?_
  intro w4 hb4 hk4
  have hS4 := HS3.out.filled 3 hb4 hk4
  simp only [Kw.red] at hS4
  rw [show (w2.alloc (.cells zrow.toArray TR)).heap.size = w2.heap.size + 1 by simp] at hS4
  obtain ⟨c0, c1, c2, c3, c4, c5, c6, c7, cz⟩ := cells8 (hS4.blk 2)
  obtain ⟨d0, d1, d2, d3, d4, d5, d6, d7, dz⟩ := cells8 (hS4.blk 0)
  have HS4 := hid hS4
  clear hS4 hS3 hk3 hk4 hb4 hown3 HS3 HS1 hg
  go_wp2_with fail
  refine NoPanic.normal ?_
  have hS5 := HS4.out.set 2 3 (.slice (some ⟨g, 0, none⟩) 0 0)
  simp only [Kw.red] at hS5
  simp only [List.set_cons_succ, List.set_cons_zero] at hS5
  obtain ⟨d0, d1, d2, d3, d4, d5, d6, d7, dz⟩ := cells8 (hS5.blk 0)
  have HS5 := hid hS5
  clear hS5 HS4
  go_wp2_with (refine wpList_storeS 0 TTk _ _ rfl rfl ztask HS5.out rfl rfl rfl sizeTk rfl ztask_one ?_; intro w6 hS6; obtain ⟨f0, f1, f2, f3, f4, f5, f6, f7, fz⟩ := cells8 (hS6.blk 0))
  exact bodyPost_ret (v := .tuple #[.agg ztask.toArray, .bool false])
    (by simp [results, Tryz.results67, go_sem, f0, f1, f2, f3, f4, f5, f6, f7]) rfl ⟨rfl, hS6.keeps⟩

set_option maxRecDepth 100000 in
set_option maxHeartbeats 2000000 in
theorem tsteps_in (h : TabAt w p m x) {i : Nat} {t : Task} (ht : m.ts[i]? = some t) (hl : (prog t).1.length ≤ 4096) : Calls Tryz.prog 85 #[.pointer (some ⟨p, 0, none⟩), .int .i64 i] w fun e w' =>
    ∃ g, e = .returned (.tuple #[.slice (some ⟨g, 0, none⟩) (prog t).1.length (prog t).1.length, .bool true]) ∧ St (fun _ => False) w [.pt g TOp (opsC (prog t).1)] w' := by
  obtain ⟨na, nc, sa, sc, _, hn1, hr⟩ := row_in h ht
  have Hn := hid hn1
  unfold rowC at hr
  generalize t.needs.length = nl at *
  generalize (prog t).1 = P at *
  have HS0 := hid (St.start w)
  clear hn1 h ht
  go_enter Tryz.func85, Tryz.ntmps85
  go_wp2_with fail
  refine hr.mono ?_; rintro e w2 ⟨rfl, k2⟩
  have HS1 := hid ((HS0.out.step k2).new TR (rowC t (.slice na nl nc, .slice sa P.length sc)))
  clear hr HS0
  go_wp2_with fail
  refine wp_region_mix [true, true, true, false, true, true, false, false, false] 1 (fun _ => False) (by kernel_rfl) (by decide +kernel) ?_
  simp only [front, back, List.take_succ_cons, List.take_zero, List.drop_succ_cons, List.drop_zero]
  repeat ((first | refine wpFront_load rfl ?_ | refine wpFront_other rfl ?_); (first | go_big_quiet_step (fail) | quiet_step (fail)); refine wpQuiet_nil ?_)
  refine wpFront_nil ?_
  simp only [wpSegs]
  refine wpList_mkg _ _ TOps TOp (.agg #[.int .i64 0, .int .i64 0, .int .i64 0, .int .i64 0]) 4 32 infoOp Tryz.underlying133 rfl rfl HS1.out.drew .i64 .i64 _ P.length rfl rfl rfl (by omega) (by unfold maxLen; omega) ?_
  intro g w3 hown3 hk3 hg hS3
  have Hn3 := hid (Hn.out.keeps ((k2.alloc (.cells #[.string t.name, .int .i64 t.level, .int .i64 t.frame, .slice na nl nc, .string t.code, .int .i64 t.period, .int .i64 t.first, .int .i64 t.gap, .slice sa P.length sc] TR)).drew.trans hk3) fun _ _ => id)
  simp only [Kw.red] at hS3
  have HS3 := hid hS3
  refine wpList_nil (segQ_normal ((Keeps.refl _ _).drew.trans hk3) ?_)
  refine wpList_app_copy _ _ TOps TOp (.agg #[.int .i64 0, .int .i64 0, .int .i64 0, .int .i64 0]) 4 32 infoOp Tryz.underlying133 rfl rfl g P.length rfl hown3 sa sc (opsC P) rfl (by rw [opsC_len]) (own_nil Hn3.out) (own_src Hn3.out) (opsC_one _) ?_
  intro w4 hb4 hk4
  have HS4 := hid (HS3.out.filled 1 hb4 hk4)
  clear hS3 hk3 hk4 hb4 hown3 HS3 Hn3 HS1 hg
  go_wp2_with fail
  refine NoPanic.normal ?_
  go_wp2_with fail
  go_ret2
  exact ⟨g, rfl, HS4.out.sub [1]⟩

set_option maxRecDepth 100000 in
set_option maxHeartbeats 1000000 in
theorem tsteps_out (h : TabAt w p m x) (i : Int) (hi : i < 0 ∨ (m.ts.length : Int) ≤ i) : Calls Tryz.prog 85 #[.pointer (some ⟨p, 0, none⟩), .int .i64 i] w fun e w' =>
    e = .returned (.tuple #[.slice none 0 0, .bool false]) ∧ Keeps (fun _ => False) w w' := by
  have hr := row_out h i hi
  clear h
  go_enter Tryz.func85, Tryz.ntmps85
  go_wp2_with fail
  refine hr.mono ?_; rintro e w2 ⟨rfl, k2⟩
  clear hr
  go_wp2_with fail
  go_ret2
  exact ⟨rfl, k2.alloc _⟩

set_option maxRecDepth 100000 in
set_option maxHeartbeats 1000000 in
theorem tunits_any (h : TabAt w p m x) : Calls Tryz.prog 93 #[.pointer (some ⟨p, 0, none⟩)] w fun e w' =>
    ∃ g, e = .returned (.slice (some ⟨g, 0, none⟩) m.units.length m.units.length) ∧ St (fun _ => False) w [.pt g TI' (intsC m.units)] w' := by
  have hb := h.tok.ok.begins
  have hl : m.units.length ≤ 16 := by
    unfold begins at hb
    split at hb
    · omega
    · split at hb <;> omega
  obtain ⟨ua, uc, eu, _⟩ := h.units.shape
  obtain ⟨c0, c1, c2, c3, cz⟩ := h.cells
  have hun := h.units
  rw [eu] at c1 hun
  have Hun := hid hun
  have HS0 := hid (St.start w)
  generalize m.units = us at *
  clear hun h eu hb c0 c2 c3
  go_enter Tryz.func93, Tryz.ntmps93
  go_wp2_with fail
  refine wp_region_mix [true, true, true, true, true, false, true, true, true, true, false, false] 1 (fun _ => False) (by kernel_rfl) (by decide +kernel) ?_
  simp only [front, back, List.take_succ_cons, List.take_zero, List.drop_succ_cons, List.drop_zero]
  repeat ((first | refine wpFront_load rfl ?_ | refine wpFront_other rfl ?_); (first | go_big_quiet_step (fail) | quiet_step (fail)); refine wpQuiet_nil ?_)
  refine wpFront_nil ?_
  simp only [wpSegs]
  refine wpList_mkg _ _ 22 TI' (.int .i64 0) 1 8 infoI Tryz.underlying22 rfl rfl HS0.out.drew .i64 .i64 _ us.length rfl rfl rfl (by omega) (by unfold maxLen; omega) ?_
  intro g w3 hown3 hk3 hg hS3
  have Hn3 := hid (Hun.out.keeps ((Keeps.refl _ _).drew.trans hk3) fun _ _ => id)
  simp only [Kw.red] at hS3
  have HS3 := hid hS3
  refine wpList_nil (segQ_normal ((Keeps.refl _ _).drew.trans hk3) ?_)
  refine wpList_app_copy _ _ 22 TI' (.int .i64 0) 1 8 infoI Tryz.underlying22 rfl rfl g us.length rfl hown3 ua uc (intsC us) rfl (by rw [intsC_len, Nat.mul_one]) (own_nil Hn3.out) (own_src Hn3.out) (intsC_one _) ?_
  intro w4 hb4 hk4
  have HS4 := hid (HS3.out.filled 0 hb4 hk4)
  clear hS3 hk3 hk4 hb4 hown3 HS3 Hn3 hg
  go_wp2_with fail
  refine NoPanic.normal ?_
  go_wp2_with fail
  go_ret
  exact ⟨g, rfl, HS4.out⟩
end
end Go.Proofs.YtnkjjhenfhnajaaGreatDoor

/-
  Package tasks, walked: slices.Clone, New, Check, Add.
-/
namespace Go.Proofs.YtnkjjhenfhnajaaGreatDoor
open Go.RowKit Go.Kw Go.Kreg Go.Tm

/-- A slice value that reads as a list of numbers. -/
def SlIn (w : World) (v : Value) (l : List Int) : Prop :=
  ∃ ao c, v = .slice ao l.length c ∧ l.length ≤ 140737488351232 ∧ l.length ≤ c ∧ c ≤ maxLen ∧
    (∀ (j : Nat) x, l[j]? = some x → ∃ b o, ao = some ⟨b, o, none⟩ ∧ w.cell? ⟨b, o + j, none⟩ = some (.int .i64 x)) ∧ (ao = none → c = 0)
theorem SlIn.keeps {w w' : World} {v : Value} {l : List Int} {F : Nat → Prop} (h : SlIn w v l) (hk : Keeps F w w') (hF : ∀ b, b < w.heap.size → (∃ o n c, v = .slice (some ⟨b, o, none⟩) n c) → ¬ F b) : SlIn w' v l := by
  obtain ⟨ao, c, rfl, hl, hlc, hcm, hc, h0⟩ := h
  refine ⟨ao, c, rfl, hl, hlc, hcm, fun j x hj => ?_, h0⟩
  obtain ⟨b, o, rfl, h1⟩ := hc j x hj
  have hb := hk.block b (World.block_lt_of_cell? w _ h1) (hF b (World.block_lt_of_cell? w _ h1) ⟨o, _, c, rfl⟩)
  exact ⟨b, o, rfl, (World.cell?_of_block (w := w) hb).trans h1⟩
theorem SlIn.new {w w' : World} {v : Value} {l : List Int} (h : SlIn w v l) (hk : Keeps (fun _ => False) w w') : SlIn w' v l := h.keeps hk fun _ _ _ => id
theorem SlIn.blk {w : World} {b : Nat} {l : List Int} (h : Blk w b TI' (intsC l)) (hl : l.length ≤ 1000000) : SlIn w (.slice (some ⟨b, 0, none⟩) l.length l.length) l :=
  ⟨_, _, rfl, by omega, Nat.le_refl _, by unfold maxLen; omega, fun j x hj => ⟨b, 0, rfl, by rw [Nat.zero_add]; exact h.at (intsC_at hj)⟩, fun e => by cases e⟩

theorem slin_src {w : World} {ao : Option Addr} {l : List Int} (hc : ∀ (j : Nat) x, l[j]? = some x → ∃ b o, ao = some ⟨b, o, none⟩ ∧ w.cell? ⟨b, o + j, none⟩ = some (.int .i64 x)) : ∀ ad, ao = some ad → ∀ (j : Nat) u, (intsC l)[j]? = some u → w.cell? (ad.add j) = some u := by
  intro ad had j u hu
  simp only [intsC, List.getElem?_map] at hu
  cases hx : l[j]? with
  | none => rw [hx] at hu; cases hu
  | some x =>
    rw [hx] at hu
    obtain ⟨b, o, e, h1⟩ := hc j x hx
    rw [e] at had; cases had
    rw [add_at, h1]; simpa using hu
theorem slnd_src {w : World} {ao : Option Addr} {l : List Need} (hc : ∀ (j : Nat) x, l[j]? = some x → ∃ b o, ao = some ⟨b, o, none⟩ ∧ w.cell? ⟨b, o + j * 2, none⟩ = some (.int .i64 x.res) ∧ w.cell? ⟨b, o + j * 2 + 1, none⟩ = some (.int .i64 x.units)) : ∀ ad, ao = some ad → ∀ (j : Nat) u, (needsC l)[j]? = some u → w.cell? (ad.add j) = some u := by
  intro ad had j u hu
  have hj : j / 2 < l.length := by
    have := (List.getElem?_eq_some_iff.1 hu).1
    rw [needsC_len] at this; omega
  have hx := List.getElem?_eq_getElem hj
  obtain ⟨h0, h1⟩ := needsC_at hx
  obtain ⟨b, o, e, g0, g1⟩ := hc _ _ hx
  rw [e] at had; cases had
  rw [add_at]
  obtain hm | hm : j = j / 2 * 2 ∨ j = j / 2 * 2 + 1 := by omega
  · rw [hm] at hu ⊢
    rw [h0] at hu
    rw [g0]; exact hu
  · rw [hm] at hu ⊢
    rw [h1] at hu
    rw [← Nat.add_assoc, g1]; exact hu

theorem eqN_nil (w : World) (a : Option Addr) (n c : Nat) : (binOp .eql TNds (.slice a n c) (.slice none 0 0)).run Tryz.prog w = .ok (.bool a.isNone) w := by
  have h : ∀ d : Nat, (Op.equalIn (d + 1) TNds (.slice a n c) (.slice none 0 0)).run Tryz.prog w = .ok a.isNone w := fun d => by
    cases a <;> simp [Op.equalIn, run_underlying Tryz.underlying36]
  simp only [binOp]
  simp [Op.equal, Op.maxDepth, h 9999]
theorem eqI_nil (w : World) (a : Option Addr) (n c : Nat) : (binOp .eql 22 (.slice a n c) (.slice none 0 0)).run Tryz.prog w = .ok (.bool a.isNone) w := by
  have h : ∀ d : Nat, (Op.equalIn (d + 1) 22 (.slice a n c) (.slice none 0 0)).run Tryz.prog w = .ok a.isNone w := fun d => by
    cases a <;> simp [Op.equalIn, run_underlying Tryz.underlying22]
  simp only [binOp]
  simp [Op.equal, Op.maxDepth, h 9999]
section
variable {w : World} {v : Value}
set_option maxRecDepth 100000 in
set_option maxHeartbeats 1000000 in
theorem cloneN_any {l : List Need} (hv : SlNd w v l) (hl : l.length ≤ 1000000) : Calls Tryz.prog 81 #[v] w fun e w' => ∃ v', e = .returned v' ∧ St (fun _ => False) w [.row TNd 2 v' l.length (needsC l)] w' := by
  obtain ⟨ao, c, rfl, _, hlc, hcm, hc, h0, _⟩ := hv
  cases ao with
  | none =>
    have hl0 : l = [] := by
      cases l with
      | nil => rfl
      | cons x l => obtain ⟨_, _, e, _⟩ := hc 0 x rfl; cases e
    subst hl0
    obtain rfl := h0 rfl
    have hS := (St.start w).add (Keeps.refl (fun _ => False) w) (G := fun _ => False) (c := .row TNd 2 (.slice none 0 0) 0 []) ⟨⟨rfl, .inl ⟨rfl, rfl⟩⟩, fun b => by simp [Value.ownBlock]⟩ (fun _ h => h.elim)
    have heq := fun w => eqN_nil w none 0 0
    clear hc h0
    go_enter Tryz.func81, Tryz.ntmps81
    go_wp2_with fail
    go_ret
    exact ⟨_, rfl, hS⟩
  | some ad =>
    have hsrc := slnd_src hc
    have hS := (St.start w).add ((Keeps.refl (fun _ => False) w).alloc (.cells #[] TNd)) (G := fun b => b = w.heap.size) (c := .row TNd 2 (.slice (some ⟨w.heap.size, 0, none⟩) 0 0) 0 []) ⟨⟨rfl, .inr ⟨w.heap.size, 0, #[], rfl, Nat.zero_le _, heap_alloc_new w _, Nat.le_refl _, by simp [maxLen], by simp, by simp⟩⟩, fun b => by simp only [Value.ownBlock, Option.some.injEq]; exact eq_comm⟩ (fun b hb => by rw [hb]; exact Nat.le_refl _)
    have HS := hid hS
    have Hsrc := hid hsrc
    have heq := fun w => eqN_nil w (some ad) l.length c
    clear hc h0 hS hsrc
    go_enter Tryz.func81, Tryz.ntmps81
    go_wp2_with (at_builtin; refine wpList_appX 0 _ _ TNds TNd (.agg #[.int .i64 0, .int .i64 0]) 2 16 infoNd Tryz.underlying36 rfl (by decide) rfl rfl HS.out rfl rfl (some ad) l.length c (needsC l) rfl (needsC_len l) (fun e => by cases e) (fun a ha j u hu => cellIn ((Keeps.refl (fun _ => False) w).alloc (.cells #[] TNd)) (Hsrc.out a ha j u hu)) (needsC_one l) (by unfold maxLen; omega) (by omega) ?_; intro v' w2 hS2 hor)
    all_goals
      go_ret
      have hS3 := hS2
      simp only [List.set_cons_zero, Nat.zero_add, List.nil_append] at hS3
      exact ⟨_, rfl, hS3⟩
set_option maxRecDepth 100000 in
set_option maxHeartbeats 1000000 in
theorem cloneI_any {l : List Int} (hv : SlIn w v l) (hl : l.length ≤ 1000000) : Calls Tryz.prog 68 #[v] w fun e w' => ∃ v', e = .returned v' ∧ St (fun _ => False) w [.row TI' 1 v' l.length (intsC l)] w' := by
  obtain ⟨ao, c, rfl, _, hlc, hcm, hc, h0⟩ := hv
  cases ao with
  | none =>
    have hl0 : l = [] := by
      cases l with
      | nil => rfl
      | cons x l => obtain ⟨_, _, e, _⟩ := hc 0 x rfl; cases e
    subst hl0
    obtain rfl := h0 rfl
    have hS := (St.start w).add (Keeps.refl (fun _ => False) w) (G := fun _ => False) (c := .row TI' 1 (.slice none 0 0) 0 []) ⟨⟨rfl, .inl ⟨rfl, rfl⟩⟩, fun b => by simp [Value.ownBlock]⟩ (fun _ h => h.elim)
    have heq := fun w => eqI_nil w none 0 0
    clear hc h0
    go_enter Tryz.func68, Tryz.ntmps68
    go_wp2_with fail
    go_ret
    exact ⟨_, rfl, hS⟩
  | some ad =>
    have hsrc := slin_src hc
    have hS := (St.start w).add ((Keeps.refl (fun _ => False) w).alloc (.cells #[] TI')) (G := fun b => b = w.heap.size) (c := .row TI' 1 (.slice (some ⟨w.heap.size, 0, none⟩) 0 0) 0 []) ⟨⟨rfl, .inr ⟨w.heap.size, 0, #[], rfl, Nat.zero_le _, heap_alloc_new w _, Nat.le_refl _, by simp [maxLen], by simp, by simp⟩⟩, fun b => by simp only [Value.ownBlock, Option.some.injEq]; exact eq_comm⟩ (fun b hb => by rw [hb]; exact Nat.le_refl _)
    have HS := hid hS
    have Hsrc := hid hsrc
    have heq := fun w => eqI_nil w (some ad) l.length c
    clear hc h0 hS hsrc
    go_enter Tryz.func68, Tryz.ntmps68
    go_wp2_with (at_builtin; refine wpList_appX 0 _ _ 22 TI' (.int .i64 0) 1 8 infoI Tryz.underlying22 rfl (by decide) rfl rfl HS.out rfl rfl (some ad) l.length c (intsC l) rfl (by rw [intsC_len, Nat.mul_one]) (fun e => by cases e) (fun a ha j u hu => cellIn ((Keeps.refl (fun _ => False) w).alloc (.cells #[] TI')) (Hsrc.out a ha j u hu)) (intsC_one l) (by unfold maxLen; omega) (by omega) ?_; intro v' w2 hS2 hor)
    all_goals
      go_ret
      have hS3 := hS2
      simp only [List.set_cons_zero, Nat.zero_add, List.nil_append] at hS3
      exact ⟨_, rfl, hS3⟩

theorem tabx_new {words : Int} {us : List Int} {uv : Value} : TabOk ⟨words, us, []⟩ ⟨uv, .slice none 0 0, .slice none 0 0, [], []⟩ ↔ begins words us = 0 := by
  constructor
  · intro h; exact h.ok.begins
  · intro h
    refine ⟨⟨h, by simp, by simp, by simp, by simp, ?_⟩, rfl, ?_, rfl⟩
    · show bound [] ≤ words
      have : bound [] = 0 := by decide
      rw [this]
      unfold begins at h
      split at h <;> omega
    · exact Tn.Rows.nil
end
end Go.Proofs.YtnkjjhenfhnajaaGreatDoor
