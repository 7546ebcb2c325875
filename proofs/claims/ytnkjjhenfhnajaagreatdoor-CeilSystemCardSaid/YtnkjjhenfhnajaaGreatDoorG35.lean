/-
  Texts De Df Dg Di in one.
-/
import Derived.Test.YtnkjjhenfhnajaaGreatDoorG32
import Derived.Test.YtnkjjhenfhnajaaGreatDoorG34
import Derived.Test.YtnkjjhenfhnajaaGreatDoorG26
import Derived.Deep.Cut
import Derived.Deep.DeepCutAuto
import Derived.Test.YtnkjjhenfhnajaaGreatDoorUe
import Derived.Test.YtnkjjhenfhnajaaGreatDoorG33
import Derived.Test.YtnkjjhenfhnajaaGreatDoorSin
/-
  shelf.Table[int,*holder].Delete, shelf.Stack[api.Lock].Pop, walked.
-/
namespace Go.Proofs.YtnkjjhenfhnajaaGreatDoor
open Go.RowKit Go.Kw Go.Kreg Go.Tm Go.Um
set_option linter.unusedSimpArgs false
set_option linter.unusedVariables false

abbrev hdelF : Nat := 176
theorem hrowsC_cut {ns : List In.Row} {i : Nat} (hi : i < ns.length) : cutOut 2 i (hrowsC ns) = hrowsC (ns.eraseIdx i) := by
  have hl : (hrowsC (ns.take i)).length = i * 2 := by rw [hrowsC_len, List.length_take]; omega
  have e : hrowsC ns = hrowsC (ns.take i) ++ ([.int .i64 ns[i].1, .pointer (some ⟨ns[i].2, 0, none⟩)] ++ hrowsC (ns.drop (i + 1))) := by
    conv => lhs; rw [← List.take_append_drop i ns, List.drop_eq_getElem_cons hi]
    rw [hrowsC_app]; rfl
  have e2 : ns.eraseIdx i = ns.take i ++ ns.drop (i + 1) := List.eraseIdx_eq_take_drop_succ ..
  unfold cutOut
  rw [e, e2, hrowsC_app]
  congr 1
  · rw [List.take_append_of_le_length (by omega), List.take_of_length_le (by omega)]
  · rw [List.drop_append, List.drop_of_length_le (by omega), hl, show (i + 1) * 2 - i * 2 = 2 by omega]; rfl
theorem hrowsC_ones (ns : List In.Row) : ∀ u ∈ hrowsC ns, u.oneCell' = true := by
  intro u hu
  simp only [hrowsC, List.mem_flatMap, List.mem_cons, List.not_mem_nil, or_false] at hu
  obtain ⟨r, _, rfl | rfl⟩ := hu <;> rfl
theorem found_row' {j : Int} {ns : List In.Row} (hf : In.foundAt j ns = true) : In.below j ns < ns.length := by
  obtain ⟨a, ha⟩ := row_at hf
  exact (List.getElem?_eq_some_iff.1 ha).1
section
variable {w : World} {F : Nat → Prop}
set_option maxRecDepth 100000 in
set_option maxHeartbeats 4000000 in
theorem hdel_any {g n cap i : Nat} {xs : List Value} (H : Sts [.row THr 2 (.slice (some ⟨g, 0, none⟩) n cap) n xs] F w) (hi : i < n) (hn : n ≤ 1000000) (h1 : ∀ u ∈ xs, u.oneCell' = true) :
    Calls Tryz.prog hdelF #[.slice (some ⟨g, 0, none⟩) n cap, .int .i64 i, .int .i64 ((i : Int) + 1)] w fun e w' => e = .returned (.slice (some ⟨g, 0, none⟩) (n - 1) cap) ∧ St F w [.row THr 2 (.slice (some ⟨g, 0, none⟩) (n - 1) cap) (n - 1) (cutOut 2 i xs)] w' := by
  obtain ⟨m, rfl⟩ : ∃ m, n = i + 1 + m := ⟨n - i - 1, by omega⟩
  rw [show i + 1 + m - 1 = i + m by omega]
  have HS := hid (St.of H)
  obtain ⟨cur, _, _, hnc, hcm, _⟩ := Own.to_blk (HS.out.own 0)
  have H1 := hid h1
  have hcm' : (cap : Int) ≤ 9223372036854775807 := by unfold maxLen at hcm; omega
  have t0 : (0 : Int) ≤ (i : Int) := by omega
  have t1 : (i : Int) ≤ (i : Int) + 1 := by omega
  have t2 : (i : Int) + 1 ≤ ((i + 1 + m : Nat) : Int) := by omega
  have t3 : ((i + 1 + m : Nat) : Int) ≤ (cap : Int) := by omega
  have t4 : ((i : Int) + 1).toNat = i + 1 := by omega
  have t5 : ((i : Int) == (i : Int) + 1) = false := by rw [beq_eq_false_iff_ne]; omega
  have t6 : (i : Int) ≤ (cap : Int) := by omega
  clear H h1 hcm
  go_enter Tryz.func176, Tryz.ntmps176
  go_wp2_with fail
  refine wp_region_mix [true, true, true, true, true, true, false, false] 0 (fun _ => False) (by kernel_rfl) (by decide +kernel) ?_
  simp only [front, back, List.take_zero, List.drop_zero]
  repeat ((first | refine wpFront_load rfl ?_ | refine wpFront_other rfl ?_); (first | go_big_quiet_step (fail) | quiet_step (fail)); refine wpQuiet_nil ?_)
  refine wpFront_nil ?_
  simp only [wpSegs]
  generalize hao : (if cap = i + 1 then (some ⟨g, 0, none⟩ : Option Addr) else some ⟨g, (i + 1) * 2, none⟩) = ao
  have Hao := hid hao
  clear hao
  refine wpList_appCut 0 _ _ THrs THr (.agg #[.int .i64 0, .pointer none]) 2 16 infoHr Tryz.underlying173 rfl rfl HS.out.drew rfl hi rfl (m := m) (by omega) rfl (fun hm0 => by rw [← Hao.out, if_neg (by omega)]) H1.out ?_
  intro w2 hS2
  simp only [Kw.red] at hS2
  rw [show i + 1 + m - 1 = i + m by omega] at hS2
  have HS2 := hid hS2
  have e1 : (i : Int) + m ≤ (cap : Int) := by omega
  have e2 : ¬ (cap = i + m) := by omega
  clear hS2 HS
  go_wp2_with fail
  refine NoPanic.normal ?_
  go_wp2_with (refine wpList_clearS 0 _ THrs THr (.agg #[.int .i64 0, .pointer none]) 2 16 infoHr Tryz.underlying173 rfl (by decide) rfl rfl HS2.out rfl rfl (by omega) (by omega) ?_; intro w3 hS3)
  go_ret
  exact ⟨rfl, hS3⟩
set_option maxRecDepth 100000 in
set_option maxHeartbeats 4000000 in
theorem tdel_any {p o : Nat} {T : TypeId} {ys : List Value} {nv : Value} {ns : List In.Row} (H : Sts [.pt p T ys, .row THr 2 nv ns.length (hrowsC ns)] F w) (ho : ys[o]? = some nv) (hr : In.Rise ns) (hn : ns.length ≤ 100000) (k : Int) (hf : In.foundAt k ns = true) :
    Calls Tryz.prog 151 #[.pointer (some ⟨p, o, none⟩), .int .i64 k] w fun e w' => e = .returned (.bool true) ∧ ∃ nv', St F w [.pt p T (ys.set o nv'), .row THr 2 nv' (ns.eraseIdx (In.below k ns)).length (hrowsC (ns.eraseIdx (In.below k ns)))] w' := by
  have HS := hid (St.of H)
  have hc := (HS.out.blk 0).at ho
  have hs := hfind_any hc (HS.out.own 1) hr (by omega) k
  have hrw := found_row' hf
  rw [hf] at hs
  have hel : (ns.eraseIdx (In.below k ns)).length = ns.length - 1 := by rw [List.length_eraseIdx, if_pos hrw]
  rw [hel, ← hrowsC_cut hrw]
  generalize In.below k ns = I at *
  have H1 := hid (hrowsC_ones ns)
  obtain ⟨g, cap, rfl, -⟩ := (HS.out.own 1).form (by omega)
  have hHd := hid (fun (w9 : World) (F9 : Nat → Prop) (h9 : Sts [.row THr 2 (.slice (some ⟨g, 0, none⟩) ns.length cap) ns.length (hrowsC ns)] F9 w9) => hdel_any h9 hrw (by omega) H1.out)
  clear H hf hr hel
  go_enter Tryz.func151, Tryz.ntmps151
  go_wp2_with fail
  refine hs.mono ?_; rintro e w2 ⟨rfl, k2⟩
  have HS2 := hid (HS.out.step k2)
  have hc2 := cellIn k2 hc
  clear hs hc HS k2
  obtain ⟨F1, g1, _, hout, back⟩ := HS2.out.sel [1]
  have g2 : Sts [.row THr 2 (.slice (some ⟨g, 0, none⟩) ns.length cap) ns.length (hrowsC ns)] F1 _ := g1
  have HD := hid (hHd.out _ _ g2)
  clear g1 g2 hHd
  go_wp2_with fail
  refine HD.out.mono ?_; rintro e w4 ⟨rfl, hS⟩
  have hS := back hS
  simp only [Kw.red] at hS
  have hc4 := (hS.blk 0).at ho
  have hz4 := (hS.blk 0).fz o
  have HS4 := hid hS
  clear hS back HD hc2 HS2
  go_wp2_with fail
  go_ret
  refine ⟨rfl, .slice (some ⟨g, 0, none⟩) (ns.length - 1) cap, ?_⟩
  exact HS4.out.set 0 o (.slice (some ⟨g, 0, none⟩) (ns.length - 1) cap)
theorem sizeLk : (Tryz.prog.info? TLk).map (·.size) = some 2 := by kernel_rfl
theorem twoOne (a b : Int) : ∀ u ∈ [Value.int .i64 a, .int .i64 b], u.oneCell' = true := by
  intro u hu
  simp only [List.mem_cons, List.not_mem_nil, or_false] at hu
  rcases hu with rfl | rfl <;> rfl
theorem locksC_drop (l : List Tkn) : locksC l.dropLast = (locksC l).take ((l.length - 1) * 2) := by
  rcases List.eq_nil_or_concat l with rfl | ⟨q, x, rfl⟩
  · rfl
  · rw [List.concat_eq_append, List.dropLast_concat, locksC_app, List.length_append, List.length_singleton, Nat.add_sub_cancel, List.take_append_of_le_length (by rw [locksC_len]; omega), List.take_of_length_le (by rw [locksC_len]; omega)]
set_option maxRecDepth 100000 in
set_option maxHeartbeats 4000000 in
theorem kpop_any {p : Nat} {T : TypeId} {ys : List Value} {sv : Value} {l : List Tkn} {x : Tkn} (H : Sts [.pt p T ys, .row TLk 2 sv l.length (locksC l)] F w) (ho : ys[0]? = some sv) (hl : l.length ≤ 1000000) (hx : l[l.length - 1]? = some x) :
    Calls Tryz.prog 150 #[.pointer (some ⟨p, 0, none⟩)] w fun e w' => e = .returned (.tuple #[.agg #[.int .i64 x.res, .int .i64 x.n], .bool true]) ∧ ∃ sv', St F w [.pt p T (ys.set 0 sv'), .row TLk 2 sv' l.dropLast.length (locksC l.dropLast)] w' := by
  have hlt := (List.getElem?_eq_some_iff.1 hx).1
  obtain ⟨n, hn⟩ : ∃ n, l.length = n + 1 := ⟨l.length - 1, by omega⟩
  have HS := hid (St.of H)
  obtain ⟨g, cap, rfl, -⟩ := (HS.out.own 1).form (by omega)
  have hk0 := (Keeps.refl (fun _ => False) w).alloc (.cells #[.int .i64 0, .int .i64 0] TLk)
  have HT := hid (ktop_in (cellIn hk0 ((HS.out.blk 0).at ho)) ((HS.out.own 1).keeps hk0 fun _ _ => id) hl hx)
  obtain ⟨cur, _, _, hnc, hcm, _⟩ := Own.to_blk (HS.out.own 1)
  have hdl : l.dropLast.length = n := by rw [List.length_dropLast, hn]; rfl
  have hld : locksC l.dropLast = (locksC l).take (n * 2) := by rw [locksC_drop, hn]; rfl
  rw [hdl]
  have HLD := hid hld
  generalize locksC l.dropLast = LD at *
  generalize locksC l = LC at *
  generalize hll : l.length = L at *
  subst hn
  clear H hx hk0 hdl hld hll hlt
  go_enter Tryz.func150, Tryz.ntmps150
  go_wp2_with fail
  refine HT.out.mono ?_; rintro e w1 ⟨rfl, k1⟩
  have hS := (((HS.out.new TLk [.int .i64 0, .int .i64 0]).step k1).new TLk [.int .i64 x.res, .int .i64 x.n]).new TLk [.int .i64 0, .int .i64 0]
  rw [show (w1.alloc (.cells [Value.int .i64 x.res, .int .i64 x.n].toArray TLk)).heap.size = w1.heap.size + 1 by simp] at hS
  simp only [Kw.red] at hS
  have HS2 := hid hS
  clear hS HT HS k1
  go_upto_region 4 with fail
  generalize w.heap.size = b2 at *
  generalize w1.heap.size + 1 = b6 at *
  generalize w1.heap.size = b4 at *
  generalize ((w1.alloc (.cells #[.int .i64 x.res, .int .i64 x.n] TLk)).alloc (.cells #[.int .i64 0, .int .i64 0] TLk)) = w2 at *
  have c0 := (HS2.out.blk 0).at ho
  have s0 : w2.cell? ⟨b6, 0, none⟩ = some (.int .i64 0) := (HS2.out.blk 4).cell 0
  have s1 : w2.cell? ⟨b6, 1, none⟩ = some (.int .i64 0) := (HS2.out.blk 4).cell 1
  have t1 : (0 : Int) ≤ ((n + 1 : Nat) : Int) - 1 := by omega
  have t2 : ((n + 1 : Nat) : Int) - 1 < ((n + 1 : Nat) : Int) := by omega
  have t3 : (((n + 1 : Nat) : Int) - 1).toNat = n := by omega
  have t4 : ((n + 1 : Nat) : Int) - 1 ≤ (cap : Int) := by omega
  have hS3 := (HS2.out.imp 1 (c := .row TLk 2 (.slice (some ⟨g, 0, none⟩) (n + 1) cap) (n + 1) LC) (.row TLk 2 (.slice (some ⟨g, 0, none⟩) n cap) n LD) (fun F h => ⟨by
    have h5 := h.1.shorter n (by omega)
    rw [← HLD.out] at h5
    exact h5, h.2⟩)).drew
  simp only [Kw.red] at hS3
  have HS3 := hid hS3
  clear hS3
  refine wp_region_mix [true, true, true, true, true, true, true, true, true, true, true, false, false] 0 (fun _ => False) (by kernel_rfl) (by decide +kernel) ?_
  simp only [front, back, List.take_zero, List.drop_zero]
  repeat ((first | refine wpFront_load rfl ?_ | refine wpFront_other rfl ?_); (first | go_big_quiet_step (fail) | quiet_step (fail)); refine wpQuiet_nil ?_)
  refine wpFront_nil ?_
  simp only [wpSegs]
  go_wp2_with (refine wpList_storeSpare 1 TLk _ _ rfl rfl [.int .i64 0, .int .i64 0] HS3.out rfl rfl rfl (by omega) rfl sizeLk (twoOne _ _) ?_; intro w5 hS5)
  refine NoPanic.normal ?_
  have HS5 := hid hS5
  have c0 := (hS5.blk 0).at ho
  have cz := (hS5.blk 0).fz 0
  clear hS5 HS3 HS2
  go_wp2_with fail
  have t5 : (n : Int) ≤ (cap : Int) := by omega
  refine wp_region_mix [true, true, true, true, true, true, true, true, true, true, true, true, false, false, false] 0 (fun _ => False) (by kernel_rfl) (by decide +kernel) ?_
  simp only [front, back, List.take_zero, List.drop_zero]
  repeat ((first | refine wpFront_load rfl ?_ | refine wpFront_other rfl ?_); (first | go_big_quiet_step (fail) | quiet_step (fail)); refine wpQuiet_nil ?_)
  refine wpFront_nil ?_
  simp only [wpSegs]
  go_wp2_with fail
  refine NoPanic.normal ?_
  have hS6 := (HS5.out.set 0 0 (.slice (some ⟨g, 0, none⟩) n cap)).drew
  simp only [Kw.red] at hS6
  have HS6 := hid hS6
  have e0 := (hS6.blk 3).cell 0
  have e1 := (hS6.blk 3).cell 1
  have f0 := (hS6.blk 2).cell 0
  have f1 := (hS6.blk 2).cell 1
  have fz := (hS6.blk 2).fz
  simp only [List.getElem?_cons_zero, List.getElem?_cons_succ] at e0 e1 f0 f1
  clear hS6 HS5 c0 cz
  generalize (w5.setCell ⟨p, 0, none⟩ (.slice (some ⟨g, 0, none⟩) n cap)).drew = w6 at *
  have hS7 := (HS6.out.set 2 0 (.int .i64 x.res)).set 2 1 (.int .i64 x.n)
  simp only [Kw.red] at hS7
  have HS7 := hid hS7
  clear hS7
  go_wp2_with fail
  refine bodyPost_ret (v := .tuple #[.agg #[.int .i64 x.res, .int .i64 x.n], .bool true]) (results_ct Tryz.results150 _ _ b2 TLk #[.int .i64 x.res, .int .i64 x.n] (0, 0) _ rfl (HS7.out.blk 2) Tryz.underlying195 rfl sizeLk) rfl ?_
  exact ⟨rfl, _, HS7.out.sub [0, 1]⟩
end
end Go.Proofs.YtnkjjhenfhnajaaGreatDoor

/-
  units.Table.pop and Drop, walked.
-/
namespace Go.Proofs.YtnkjjhenfhnajaaGreatDoor
open Go.RowKit Go.Kw Go.Kreg Go.Tm Go.Um
set_option linter.unusedSimpArgs false
set_option linter.unusedVariables false

theorem sts_erase : ∀ (i : Nat) {cs : List Ch} {F : Nat → Prop} {w : World}, Sts cs F w → cs.getD i .emp = .emp → Sts (cs.eraseIdx i) F w
  | i, [], F, w, h, _ => by simpa using h
  | 0, c :: cs, F, w, ⟨F1, F2, h1, h2, h3, h4⟩, he => by
    simp only [List.getD_cons_zero] at he
    subst he
    have : F = F2 := funext fun b => propext ⟨fun hb => ((h4 b).1 hb).elim (fun h => (h1 b h).elim) id, fun hb => (h4 b).2 (.inr hb)⟩
    rw [this]; exact h2
  | i + 1, c :: cs, F, w, ⟨F1, F2, h1, h2, h3, h4⟩, he => ⟨F1, F2, h1, sts_erase i h2 (by simpa using he), h3, h4⟩
/-- The table, a job's row at block a. -/
def unitsH (p : Nat) (m : UM) (j : Int) (a : Nat) : Ch := .ex fun x => .stars (unitsCs p m x ++ [.pr (In.foundAt j x.ns = true → In.atOf j x.ns = a)])
theorem unitsH_out {w w0 : World} {F0 : Nat → Prop} {p : Nat} {m : UM} {j : Int} {a : Nat} (hS : St F0 w0 [unitsH p m j a] w) : St F0 w0 [unitsC p m] w := by
  obtain ⟨x, h⟩ := hS.opens 0 (fun x => unitsCs p m x ++ [.pr (In.foundAt j x.ns = true → In.atOf j x.ns = a)]) (fun F h => h)
  simp only [unitsCs] at h
  simp only [Kw.red] at h
  have h2 := h.fold [1, 2, 3, 4, 5, 6, 7] (unitsC p m) (fun F h => ⟨x, h⟩)
  exact h2.sub [1]
theorem held_gone {l l2 : List Tkn} {j : Int} {ns : List In.Row} (hr : In.Rise ns) {i : Nat} {a : Nat} (hi : ns[i]? = some (j, a)) (h2 : ∀ k, k ≠ j → ∀ b, holdC l2 k b = holdC l k b) :
    ((ns.map fun a => holdC l a.1 a.2).set i .emp).eraseIdx i = (ns.eraseIdx i).map fun a => holdC l2 a.1 a.2 := by
  have h1 := held_set hr hi h2
  have h3 : ((ns.map fun a => holdC l a.1 a.2).set i (holdC l2 j a)).eraseIdx i = (ns.map fun a => holdC l2 a.1 a.2).eraseIdx i := by rw [h1]
  have h4 : ∀ (cs : List Ch) (c d : Ch) (i : Nat), (cs.set i c).eraseIdx i = (cs.set i d).eraseIdx i := by
    intro cs
    induction cs with
    | nil => intro c d i; simp
    | cons e cs ih => intro c d i; cases i with
      | zero => simp
      | succ i => simp [ih c d i]
  have h5 : ∀ (ns : List In.Row) (i : Nat), (ns.map fun a => holdC l2 a.1 a.2).eraseIdx i = (ns.eraseIdx i).map fun a => holdC l2 a.1 a.2 := by
    intro ns
    induction ns with
    | nil => intro i; simp
    | cons e ns ih => intro i; cases i with
      | zero => simp
      | succ i => simp [ih i]
  rw [h4 _ .emp (holdC l2 j a) i, h3, h5]
theorem holdC_pop {l : List Tkn} {j : Int} {x : Tkn} (h : Popped l j x) {k : Int} (hk : k ≠ j) (b : Nat) : holdC (popL l j) k b = holdC l k b := by
  unfold holdC holdCs
  rw [h.others k hk, h.heldO hk]
section
variable {w : World} {F : Nat → Prop} {p : Nat} {m : UM}
/-- What is left behind a pop: folded again. -/
theorem pop_fin {w w0 : World} {F0 : Nat → Prop} {k : Nat} {x : UX} {j : Int} {t : Tkn} {a : Nat} {lv : Value} (hok : m.Ok) (hjo : Jobs m.l x.ns) (hp : Popped m.l j t) (hk : t.res = k) (hku : k < m.us.length) (hrw : x.ns[In.below j x.ns]? = some (j, a)) (hne : (popL m.l j).filter (ofJob j) ≠ [])
    (hS : St F0 w0 [.emp, .pt p TUt [x.uv, x.fv, x.cv, x.jv], .row TI' 1 x.uv m.us.length (intsC m.us), .row TI' 1 x.fv m.us.length ((intsC m.frees).set k (.int .i64 (m.free k + t.n))), .row TI' 1 x.cv m.us.length (intsC m.cs),
      .row THr 2 x.jv x.ns.length (hrowsC x.ns), .stars ((x.ns.map fun a => holdC m.l a.1 a.2).set (In.below j x.ns) .emp), .pr (m.Ok ∧ Jobs m.l x.ns), .pr (In.foundAt j x.ns = true → In.atOf j x.ns = a), .emp, .pt a THo ((lv :: intsC (heldL m.l j)).set (1 + k) (.int .i64 (m.held j k - t.n))),
      .row TLk 2 lv (m.l.filter (ofJob j)).dropLast.length (locksC (m.l.filter (ofJob j)).dropLast)] w) :
    St F0 w0 [unitsH p ⟨m.us, popL m.l j, m.cs⟩ j a] w := by
  have e1 : (lv :: intsC (heldL m.l j)).set (1 + k) (.int .i64 (m.held j k - t.n)) = lv :: intsC (heldL (popL m.l j) j) := by
    rw [hp.heldL hk, intsC_set, Nat.add_comm 1 k, List.set_cons_succ]; rfl
  rw [e1, ← hp.own, ← intsC_set, ← hp.frees hk hku] at hS
  have h1 := hS.fold [10, 11] (holdC (popL m.l j) j a) (fun F h => ⟨lv, h⟩)
  simp only [Kw.red] at h1
  have h3 := h1.unelem 6 10 (In.below j x.ns) (by decide) set_emp_getD
  simp only [Kw.red] at h3
  rw [List.set_set, held_set hjo.1 hrw (fun i hi b => holdC_pop hp hi b)] at h3
  have h5 := h3.imp 7 (c := .pr (m.Ok ∧ Jobs m.l x.ns)) (.pr ((UM.mk m.us (popL m.l j) m.cs).Ok ∧ Jobs (popL m.l j) x.ns)) (fun F h => ⟨⟨pop_ok hok j, (hp.jobs hjo).1 hne⟩, h.2⟩)
  have h6 := h5.fold [1, 2, 3, 4, 5, 6, 7, 8] (unitsH p (UM.mk m.us (popL m.l j) m.cs) j a) (fun F h => ⟨⟨x.uv, x.fv, x.cv, x.jv, x.ns⟩, h⟩)
  exact h6.sub [1]
theorem pop_last {w w0 : World} {F0 : Nat → Prop} {k : Nat} {x : UX} {j : Int} {t : Tkn} {a : Nat} {jv : Value} (hok : m.Ok) (hjo : Jobs m.l x.ns) (hp : Popped m.l j t) (hk : t.res = k) (hku : k < m.us.length) (hrw : x.ns[In.below j x.ns]? = some (j, a)) (hne : (popL m.l j).filter (ofJob j) = [])
    (hS : St F0 w0 [.emp, .pt p TUt [x.uv, x.fv, x.cv, jv], .row TI' 1 x.uv m.us.length (intsC m.us), .row TI' 1 x.fv m.us.length ((intsC m.frees).set k (.int .i64 (m.free k + t.n))), .row TI' 1 x.cv m.us.length (intsC m.cs),
      .row THr 2 jv (x.ns.eraseIdx (In.below j x.ns)).length (hrowsC (x.ns.eraseIdx (In.below j x.ns))), .stars ((x.ns.map fun a => holdC m.l a.1 a.2).set (In.below j x.ns) .emp), .pr (m.Ok ∧ Jobs m.l x.ns)] w) :
    St F0 w0 [unitsH p ⟨m.us, popL m.l j, m.cs⟩ j a] w := by
  rw [← intsC_set, ← hp.frees hk hku] at hS
  have hjo2 := (hp.jobs hjo).2 hne
  have h1 := hS.imp 6 (c := .stars ((x.ns.map fun a => holdC m.l a.1 a.2).set (In.below j x.ns) .emp)) (.stars ((x.ns.eraseIdx (In.below j x.ns)).map fun a => holdC (popL m.l j) a.1 a.2)) (fun F h => by
    have h' : Sts ((x.ns.map fun a => holdC m.l a.1 a.2).set (In.below j x.ns) .emp) F w := h
    have h2 := sts_erase (In.below j x.ns) h' set_emp_getD
    rw [held_gone hjo.1 hrw (fun i hi b => holdC_pop hp hi b)] at h2
    exact h2)
  simp only [Kw.red] at h1
  have h5 := h1.imp 7 (c := .pr (m.Ok ∧ Jobs m.l x.ns)) (.pr ((UM.mk m.us (popL m.l j) m.cs).Ok ∧ Jobs (popL m.l j) (x.ns.eraseIdx (In.below j x.ns)))) (fun F h => ⟨⟨pop_ok hok j, hjo2⟩, h.2⟩)
  simp only [Kw.red] at h5
  have hnf : In.foundAt j (x.ns.eraseIdx (In.below j x.ns)) = true → In.atOf j (x.ns.eraseIdx (In.below j x.ns)) = a := fun hf => by
    obtain ⟨y, hy, hyj⟩ := (hjo2.found j).1 hf
    have : y ∈ (popL m.l j).filter (ofJob j) := List.mem_filter.2 ⟨hy, by simp [ofJob, hyj]⟩
    rw [hne] at this; cases this
  have h7 := h5.add (Keeps.refl (fun _ => False) _) (G := fun _ => False) (c := .pr (In.foundAt j (x.ns.eraseIdx (In.below j x.ns)) = true → In.atOf j (x.ns.eraseIdx (In.below j x.ns)) = a)) ⟨hnf, fun _ => id⟩ (fun _ h => h.elim)
  simp only [Kw.red] at h7
  have h6 := h7.fold [1, 2, 3, 4, 5, 6, 7, 8] (unitsH p (UM.mk m.us (popL m.l j) m.cs) j a) (fun F h => ⟨⟨x.uv, x.fv, x.cv, jv, x.ns.eraseIdx (In.below j x.ns)⟩, h⟩)
  exact h6.sub [1]
set_option maxRecDepth 100000 in
set_option maxHeartbeats 8000000 in
theorem upop_any {j : Int} {a : Nat} {t : Tkn} (h : Sts [unitsH p m j a] F w) (hf : ∃ y ∈ m.l, y.job = j) (hp : Popped m.l j t) :
    Calls Tryz.prog 121 #[.pointer (some ⟨p, 0, none⟩), .int .i64 j, .pointer (some ⟨a, 0, none⟩)] w fun e w' => e = .returned (.int .i64 t.n) ∧ St F w [unitsH p ⟨m.us, popL m.l j, m.cs⟩ j a] w' := by
  obtain ⟨x, hS⟩ := (St.of h).opens 0 (fun x => unitsCs p m x ++ [.pr (In.foundAt j x.ns = true → In.atOf j x.ns = a)]) (fun F h => h)
  simp only [unitsCs] at hS
  simp only [Kw.red] at hS
  obtain ⟨_, ⟨⟨hok, hjo⟩, -⟩, -⟩ := hS.at 7 rfl
  have hat : In.foundAt j x.ns = true → In.atOf j x.ns = a := hS.pr 8
  have hfd : In.foundAt j x.ns = true := (hjo.found j).2 hf
  have hrw := found_row hfd
  rw [hat hfd] at hrw
  have hent := hok.ent t hp.mem
  obtain ⟨k, hk⟩ := Int.eq_ofNat_of_zero_le hent.2.1.1
  have hk1 : k < m.us.length := by have := hent.2.1.2; omega
  have hk16 : k < 16 := by have := hok.few; omega
  have hh : m.has k := by rw [← hk]; exact hent.2.1
  have hfree := frees_at m (r := k) hk1
  have hfb := free_bd hok hh
  have hhb := held_bd hok j hh
  have hhd : t.n ≤ m.held j k := by
    have h1 := hp.sum (ofBoth j k)
    rw [if_pos (by simp [ofBoth, hp.job, hk])] at h1
    have h2 := (sumOf_le (p := ofBoth j k) (q := ofBoth j k) (l := popL m.l j) (fun y hy => by have := (hok.ent y (hp.sub y hy)).2.2; omega) fun _ => id).1
    unfold UM.held; omega
  have htn := hent.2.2
  have hE := hS.elem 6 (In.below j x.ns) (ds := x.ns.map fun a => holdC m.l a.1 a.2) (c := holdC m.l j a) (by rw [List.getD_eq_getElem?_getD, List.getElem?_map, hrw]; rfl)
  simp only [Kw.red] at hE
  obtain ⟨lv, hE⟩ := hE.opens 9 (fun lv => holdCs m.l j a lv) (fun F h => h)
  simp only [holdCs] at hE
  simp only [Kw.red] at hE
  have hlf : (m.l.filter (ofJob j)).length ≤ 4080 := Nat.le_trans (List.length_filter_le _ _) (locks_few hok)
  obtain ⟨fg, fc, ef, -⟩ := (hE.own 3).form (by omega)
  have hat16 := heldL_at m.l j hk16
  rw [show sumOf (ofBoth j k) m.l = m.held j k from rfl] at hat16
  have i0 : (0 : Int) ≤ (k : Int) := by omega
  have i1 : (k : Int) < (m.us.length : Int) := by omega
  have HS := hid hE
  have Hok := hid hok
  have Hjo := hid hjo
  have Hp := hid hp
  have Hk := hid hk
  have Hrw := hid hrw
  have Hef := hid ef
  have Hat := hid hat16
  have Hfree := hid hfree
  have Hhd := hid (show sumOf (ofBoth j (k : Int)) m.l = m.held j k from rfl)
  obtain ⟨HD, hHD⟩ : ∃ HD, m.held j k = HD := ⟨_, rfl⟩
  rw [hHD] at hhb hhd Hat
  have HHD := hid hHD
  obtain ⟨FR, hFR⟩ : ∃ FR, m.free k = FR := ⟨_, rfl⟩
  rw [hFR] at hfb Hfree
  have HFR := hid hFR
  have hrise := hjo.1
  have hnf : x.ns.length ≤ 100000 := by have := hjo.few; have := locks_few hok; omega
  have Hrise := hid hrise
  have Hfd := hid hfd
  obtain ⟨F2, g2, _, _, bk2⟩ := HS.out.sel [10, 11]
  have g2' : Sts [.pt a THo (lv :: intsC (heldL m.l j)), .row TLk 2 lv (m.l.filter (ofJob j)).length (locksC (m.l.filter (ofJob j)))] F2 w := g2
  have HP := hid (kpop_any g2' rfl (by omega) hp.at_)
  rw [hk] at HP
  clear hS hE h hok hjo hp hk hrw ef hat16 hfree hHD hFR hfd hat hent hh g2 g2' hf hrise
  go_enter Tryz.func121, Tryz.ntmps121
  go_wp2_with fail
  refine HP.out.mono ?_; rintro e w1 ⟨rfl, sv, hS⟩
  have hS := bk2 hS
  simp only [Kw.red] at hS
  simp only [List.set_cons_zero] at hS
  have hS := hS.new TLk [.int .i64 k, .int .i64 t.n]
  simp only [Kw.red] at hS
  have HS1 := hid hS
  clear hS bk2 HP HS
  go_upto_region 2 with fail
  generalize w1.heap.size = lb at *
  generalize (w1.alloc (.cells #[.int .i64 k, .int .i64 t.n] TLk)) = w2 at *
  have l0 : w2.cell? ⟨lb, 0, none⟩ = some (.int .i64 k) := (HS1.out.blk 12).cell 0
  have l1 : w2.cell? ⟨lb, 1, none⟩ = some (.int .i64 t.n) := (HS1.out.blk 12).cell 1
  have hh0 := (HS1.out.blk 10).at (show (sv :: intsC (heldL m.l j))[1 + k]? = some (.int .i64 HD) by rw [Nat.add_comm]; exact intsC_at Hat.out)
  have hhz := (HS1.out.blk 10).fz (1 + k)
  refine wp_region_mix [true, true, true, true, true, true, true, true, true, true, true, true, true, false] 0 (fun _ => False) (by kernel_rfl) (by decide +kernel) ?_
  simp only [front, back, List.take_succ_cons, List.drop_succ_cons, List.take_zero, List.drop_zero]
  repeat ((first | refine wpFront_idxH (g := a) (f := 1) (j := k) rfl rfl rfl rfl hk16 ?_ | ((first | refine wpFront_load rfl ?_ | refine wpFront_other rfl ?_); (first | go_big_quiet_step (fail) | quiet_step (fail)); refine wpQuiet_nil ?_)))
  refine wpFront_nil ?_
  simp only [wpSegs]
  go_wp2_with fail
  refine NoPanic.normal ?_
  have hS3 := (HS1.out.set 10 (1 + k) (.int .i64 (HD - t.n))).drew
  simp only [Kw.red] at hS3
  have HS3 := hid hS3
  clear hS3 HS1 l0 l1 hh0 hhz
  generalize (w2.setCell ⟨a, 1 + k, none⟩ (.int .i64 (HD - t.n))).drew = w3 at *
  have l0 : w3.cell? ⟨lb, 0, none⟩ = some (.int .i64 k) := (HS3.out.blk 12).cell 0
  have l1 : w3.cell? ⟨lb, 1, none⟩ = some (.int .i64 t.n) := (HS3.out.blk 12).cell 1
  have c1 : w3.cell? ⟨p, 1, none⟩ = some x.fv := (HS3.out.blk 1).cell 1
  have hofr := HS3.out.own 3
  rw [Hef.out] at c1 hofr
  have d1 := hofr.cells' (g := fg) rfl (intsC_at Hfree.out)
  have d1z := hofr.fz (g := fg) rfl k
  clear hofr
  go_wp2_with fail
  refine wp_region_mix [true, true, true, true, true, true, true, true, true, true, true, false, false] 0 (fun _ => False) (by kernel_rfl) (by decide +kernel) ?_
  simp only [front, back, List.take_zero, List.drop_zero]
  repeat ((first | refine wpFront_load rfl ?_ | refine wpFront_other rfl ?_); (first | go_big_quiet_step (fail) | quiet_step (fail)); refine wpQuiet_nil ?_)
  refine wpFront_nil ?_
  simp only [wpSegs]
  go_wp2_with fail
  refine NoPanic.normal ?_
  have hS4 := (HS3.out.setRow 3 (v := x.fv) (g := fg) (by rw [Hef.out]; rfl) k (.int .i64 (FR + t.n))).drew
  simp only [Kw.red] at hS4
  have HS4 := hid hS4
  clear hS4 HS3 l0 l1 c1 d1 d1z
  generalize (w3.setCell ⟨fg, k, none⟩ (.int .i64 (FR + t.n))).drew = w4 at *
  have sc : w4.cell? ⟨a, 0, none⟩ = some sv := (HS4.out.blk 10).at (show ((sv :: intsC (heldL m.l j)).set (1 + k) (.int .i64 (HD - t.n)))[0]? = some sv by rw [Nat.add_comm 1 k, List.set_cons_succ]; rfl)
  have HKl := hid (klen_any (l := (m.l.filter (ofJob j)).dropLast) sc (HS4.out.own 11))
  have l1 : w4.cell? ⟨lb, 1, none⟩ = some (.int .i64 t.n) := (HS4.out.blk 12).cell 1
  have L1 := hid l1
  obtain ⟨DL, hDL⟩ : ∃ DL, (m.l.filter (ofJob j)).dropLast.length = DL := ⟨_, rfl⟩
  rw [hDL] at HKl
  have HDL := hid hDL
  clear hDL
  clear sc l1
  go_wp2_with fail
  refine HKl.out.mono ?_; rintro e w5 ⟨rfl, rfl⟩
  clear HKl
  by_cases hne : (popL m.l j).filter (ofJob j) = []
  · have hz : DL = 0 := by rw [← HDL.out, ← Hp.out.own, hne]; rfl
    have b0 : ((DL : Int) == 0) = true := by rw [hz]; rfl
    obtain ⟨F3, g3, _, _, bk3⟩ := HS4.out.sel [1, 5]
    have g3' : Sts [.pt p TUt [x.uv, x.fv, x.cv, x.jv], .row THr 2 x.jv x.ns.length (hrowsC x.ns)] F3 w4 := g3
    have HD2 := hid (tdel_any (o := 3) g3' rfl Hrise.out hnf j Hfd.out)
    clear hz g3 g3'
    go_wp2_with fail
    refine HD2.out.mono ?_; rintro e w6 ⟨rfl, nv, hS⟩
    have hS := bk3 hS
    simp only [Kw.red] at hS
    simp only [List.set_cons_zero, List.set_cons_succ] at hS
    have l1 : w6.cell? ⟨lb, 1, none⟩ = some (.int .i64 t.n) := (hS.blk 12).cell 1
    have hfin := pop_last (x := x) (F0 := F) (w0 := w) (jv := nv) Hok.out Hjo.out Hp.out Hk.out hk1 Hrw.out hne (by
      have h2 := hS.sub [0, 1, 2, 3, 4, 5, 6, 7]
      simp only [Kw.red] at h2
      rw [← HFR.out] at h2
      exact h2)
    have HF := hid hfin
    clear hfin hS bk3 HD2 HS4 hne
    go_wp2_with fail
    go_ret
    exact ⟨rfl, HF.out⟩
  · have b0 : ((DL : Int) == 0) = false := by
      rw [beq_eq_false_iff_ne, ← HDL.out, ← Hp.out.own]
      intro e
      exact hne (List.eq_nil_of_length_eq_zero (by omega))
    have hfin := pop_fin (x := x) (F0 := F) (w0 := w) (lv := sv) Hok.out Hjo.out Hp.out Hk.out hk1 Hrw.out hne (by
      have h2 := HS4.out.sub [0, 1, 2, 3, 4, 5, 6, 7, 8, 9, 10, 11]
      simp only [Kw.red] at h2
      rw [← HFR.out, ← HHD.out] at h2
      exact h2)
    have HF := hid hfin
    have l1 := L1.out
    clear hfin HS4 hne
    go_wp2_with fail
    go_ret
    exact ⟨rfl, HF.out⟩
set_option maxRecDepth 100000 in
set_option maxHeartbeats 8000000 in
theorem udrop_any (h : Sts [unitsC p m] F w) (j : Int) : Calls Tryz.prog 50 #[.pointer (some ⟨p, 0, none⟩), .int .i64 j] w fun e w' => e = .returned (.int .i64 (m.l.filter (ofJob j)).length) ∧ St F w [unitsC p (m.drop j)] w' := by
  obtain ⟨x, hx, hS⟩ := units_open h
  have hok := hx.ok
  have hg := hget_any hx.c3 hx.jb hx.jo.1 (by have := hx.few; omega) j
  have hlf : (m.l.filter (ofJob j)).length ≤ 4080 := Nat.le_trans (List.length_filter_le _ _) (locks_few hok)
  cases hfd : In.foundAt j x.ns with
  | false =>
    have hn : m.l.filter (ofJob j) = [] := List.filter_eq_nil_iff.2 fun y hy e => by
      have := (hx.jo.found j).2 ⟨y, hy, by simpa [ofJob] using e⟩
      rw [hfd] at this; cases this
    have hd : m.drop j = m := by
      unfold UM.drop
      rw [List.filter_eq_self.2 fun y hy => by
        cases hq : ofJob j y with
        | false => rfl
        | true => have : y ∈ m.l.filter (ofJob j) := List.mem_filter.2 ⟨hy, hq⟩; rw [hn] at this; cases this]
    rw [hfd] at hg
    simp only [Bool.false_eq_true, if_false] at hg
    rw [hn, hd]
    have HG := hid hg
    have HH := hid h
    clear hg h hS hx hok hn hd hfd hlf
    go_enter Tryz.func50, Tryz.ntmps50
    go_wp2_with fail
    refine HG.out.mono ?_; rintro e w1 ⟨rfl, k1⟩
    have HF := hid ((St.of HH.out).step k1)
    clear k1 HG
    go_wp2_with fail
    go_ret
    exact ⟨rfl, HF.out⟩
  | true =>
    have hrw := found_row hfd
    obtain ⟨a, ha⟩ : ∃ a, In.atOf j x.ns = a := ⟨_, rfl⟩
    rw [hfd, if_pos rfl, ha] at hg
    rw [ha] at hrw
    have hS2 := hS.add (Keeps.refl (fun _ => False) _) (G := fun _ => False) (c := .pr (In.foundAt j x.ns = true → In.atOf j x.ns = a)) ⟨fun _ => ha, fun _ => id⟩ (fun _ h => h.elim)
    simp only [Kw.red] at hS2
    have hU := (hS2.fold [1, 2, 3, 4, 5, 6, 7, 8] (unitsH p m j a) (fun F h => ⟨⟨x.uv, x.fv, x.cv, x.jv, x.ns⟩, h⟩)).sub [1]
    obtain ⟨G, lv, hhh⟩ := hS.elemAt 6 (In.below j x.ns) (ds := x.ns.map fun a => holdC m.l a.1 a.2) (c := holdC m.l j a) (by rw [List.getD_eq_getElem?_getD, List.getElem?_map, hrw]; rfl)
    have hT := St.of (cs := holdCs m.l j a lv) hhh
    have hkl := klen_any (l := m.l.filter (ofJob j)) ((hT.blk 0).cell 0) (hT.own 1)
    have HG := hid hg
    have HU := hid hU
    have HK := hid (fun (w9 : World) (k9 : Keeps (fun _ => False) w w9) => klen_any (l := m.l.filter (ofJob j)) (cellIn k9 ((hT.blk 0).cell 0)) ((hT.own 1).keeps k9 fun _ _ => id))
    have hall := popN_all m.l j
    have hsp := fun n h => popN_spec m.l j n h
    have hdr : m.drop j = ⟨m.us, popN j (m.l.filter (ofJob j)).length m.l, m.cs⟩ := by rw [hall]; rfl
    rw [hdr]
    obtain ⟨N, hN⟩ : ∃ N, (m.l.filter (ofJob j)).length = N := ⟨_, rfl⟩
    rw [hN] at HK hsp hlf ⊢
    have Hsp := hid hsp
    clear hg hU h hS hS2 hx hok hfd hrw hhh hT hkl hall hsp hdr ha
    go_enter Tryz.func50, Tryz.ntmps50
    go_wp2_with fail
    refine HG.out.mono ?_; rintro e w1 ⟨rfl, k1⟩
    have HU1 := hid (HU.out.step k1)
    have HK1 := hid (HK.out _ k1)
    clear k1 HG HU HK
    go_wp2_with fail
    refine HK1.out.mono ?_; rintro e w2 ⟨rfl, rfl⟩
    clear HK1
    go_wp2_with fail
    have HN := hid hN
    clear hN
    go_loopw [23] (fun y wr => ∃ k : Nat, k ≤ N ∧ y = .int .i64 k ∧ Hid (St F w [unitsH p ⟨m.us, popN j k m.l, m.cs⟩ j a] wr)) (fun y _ => N - (intOf y).toNat)
    case atStart => exact ⟨0, Nat.zero_le _, rfl, HU1⟩
    case round =>
      obtain ⟨k, hk, rfl, HR⟩ := hrel
      by_cases hlt : k < N
      · have b0 : decide (k < N) = true := by simpa using hlt
        have hne : (popN j k m.l).filter (ofJob j) ≠ [] := fun e => by
          rw [(Hsp.out k hk).1] at e
          have := congrArg List.length e
          rw [List.length_take, List.length_nil, HN.out] at this; omega
        obtain ⟨y, hy⟩ := List.exists_mem_of_ne_nil _ hne
        obtain ⟨hy1, hy2⟩ := List.mem_filter.1 hy
        have hex : ∃ y ∈ (UM.mk m.us (popN j k m.l) m.cs).l, y.job = j := ⟨y, hy1, by simpa [ofJob] using hy2⟩
        obtain ⟨t, hp⟩ := popped hex
        obtain ⟨F1, g1, _, _, bk⟩ := HR.out.sel [0]
        have g1' : Sts [unitsH p ⟨m.us, popN j k m.l, m.cs⟩ j a] F1 wr := g1
        have HP := hid (upop_any g1' hex hp)
        clear hne hy hy1 hy2 hex hp g1 g1' HU1 HR
        go_wp2_with fail
        refine HP.out.mono ?_; rintro e w3 ⟨rfl, hS⟩
        have hS := bk hS
        simp only [Kw.red] at hS
        have HR2 := hid (show St F w [unitsH p ⟨m.us, popN j (k + 1) m.l, m.cs⟩ j a] w3 from hS)
        clear hS bk HP
        go_wp2_with fail
        go_roundw
        case rel => exact ⟨k + 1, by omega, by go_num, HR2⟩
        case measure => simp [intOf]; omega
      · have b0 : decide (k < N) = false := by simpa using hlt
        obtain rfl : k = N := by omega
        have HF := hid (unitsH_out HR.out)
        clear HR HU1
        go_wp2_with fail
        go_ret
        exact ⟨rfl, HF.out⟩
end
end Go.Proofs.YtnkjjhenfhnajaaGreatDoor

/-
  CeilSystem, walked.
-/
namespace Go.Proofs.YtnkjjhenfhnajaaGreatDoor
open Go.RowKit Go.Kw Go.Kreg Go.Tm Go.Um
set_option linter.unusedSimpArgs false
set_option linter.unusedVariables false

/-- What a job would lock: three numbers. -/
abbrev TL3 : Nat := 93
def SlLk (w : World) (v : Value) (l : List Tkn) : Prop :=
  ∃ ao c, v = .slice ao l.length c ∧ l.length ≤ 9223372036854775807 ∧
    ∀ (j : Nat) x, l[j]? = some x → ∃ b o, ao = some ⟨b, o, none⟩ ∧ w.cell? ⟨b, o + j * 3, none⟩ = some (.int .i64 x.job) ∧ w.cell? ⟨b, o + j * 3 + 1, none⟩ = some (.int .i64 x.res) ∧ w.cell? ⟨b, o + j * 3 + 2, none⟩ = some (.int .i64 x.n)
theorem SlLk.new {w w' : World} {v : Value} {l : List Tkn} (h : SlLk w v l) (hk : Keeps (fun _ => False) w w') : SlLk w' v l := by
  obtain ⟨ao, c, h1, h2, h3⟩ := h
  refine ⟨ao, c, h1, h2, fun j x hj => ?_⟩
  obtain ⟨b, o, e, c0, c1, c2⟩ := h3 j x hj
  exact ⟨b, o, e, cellIn hk c0, cellIn hk c1, cellIn hk c2⟩
theorem sys_start {m : TM} (hm : m.Ok) : sysM m (UM.start m.units) = 0 := by
  unfold sysM
  have gen : ∀ k, k ≤ (UM.start m.units).us.length → sysTo m (UM.start m.units) k = 0 := by
    intro k
    induction k with
    | zero => intro _; rfl
    | succ k ih =>
      intro hk
      have hk' : k < m.units.length := hk
      unfold sysTo
      rw [ih (by omega)]
      have hh : (UM.start m.units).has k := by unfold UM.has; show (0 : Int) ≤ k ∧ (k : Int) < (m.units.length : Int); omega
      have hf : (UM.start m.units).free k = m.unitsOf k := by
        unfold UM.free
        rw [if_pos hh]
        show m.units.getD _ 0 - 0 = m.units.getD _ 0
        omega
      rw [hf]
      unfold TM.ceilAt
      have hb := unitsOf_bd hm (res := k) (by unfold TM.has; omega)
      rw [if_pos ⟨by unfold TM.has; omega, Int.le_refl _⟩, ceil_all hm (by omega) (by omega)]
      rfl
  exact gen _ (Nat.le_refl _)
section
variable {W w : World} {F : Nat → Prop}
set_option maxRecDepth 100000 in
set_option maxHeartbeats 8000000 in
theorem system_law (hG : Glob W) (hg : (glC W).holds F w) {uv lv kv : Value} {us : List Int} {l : List Task} {ks : List Tkn} (hu : SlIn w uv us) (hub : ∀ x ∈ us, big x) (hl : SlTk w lv l) (hnm : ∀ x ∈ l, x.name.size ≤ 9223372036854775807) (hk : SlLk w kv ks) :
    Calls Tryz.prog 5 #[uv, lv, kv] w fun e w' => e = .returned (.bool true) ∧ Keeps (fun _ => False) w w' := by
  have HT := hid (table_any hG hg hu hl hnm)
  obtain ⟨ua, uc, rfl, -⟩ := id hu
  obtain ⟨la, lc, rfl, -⟩ := id hl
  obtain ⟨ka, kc, rfl, hkl, hkc⟩ := id hk
  have Hkc := hid hkc
  generalize tableM us l = m at *
  have Hg := hid hg
  clear hg hu hl hnm hub hk hkc
  go_enter Tryz.func5, Tryz.ntmps5
  go_wp2_with fail
  refine HT.out.mono ?_; rintro e w1 ⟨p, q, rfl, hS⟩
  have K1 := hid (glob_keeps Hg.out hS).1
  obtain ⟨x, hx⟩ := tab_at 1 hS
  obtain ⟨y, hy⟩ := ref_at 2 hS
  have hok := hx.tok.ok
  have hbu := begins_units hok.begins
  have hss := sys_start hok
  obtain ⟨c0, c1, c2, cz⟩ := hy.cells
  obtain ⟨ra, rc, euv⟩ := ref_ushape hy
  rw [euv] at c1
  have hsl : SlIn w1 (.slice ra m.units.length rc) m.units := by rw [← euv]; exact SlIn.own hy.units (by omega)
  have HN1 := hid (unew_any hsl hbu.1 hbu.2)
  have HN2 := hid (fun (w9 : World) (k9 : Keeps (fun _ => False) w1 w9) => rnew_any (hsl.new k9) hbu.1 hbu.2)
  have HS := hid hS
  have Hy := hid hy
  have C1 := hid c1
  have Hss := hid hss
  clear hS hx hy HT euv hsl hok hss c0 c2
  go_wp2_with fail
  refine HN1.out.mono ?_; rintro e w2 ⟨xb, rfl, hA⟩
  have k2 := hA.keeps
  have HS2 := hid (HS.out.adds hA)
  have c1 := cellIn k2 C1.out
  have HN3 := hid (HN2.out _ k2)
  clear hA HS HN1 HN2 k2
  go_wp2_with fail
  refine HN3.out.mono ?_; rintro e w3 ⟨yb, rfl, hA⟩
  have hS3 := HS2.out.adds hA
  simp only [Kw.red] at hS3
  have HS3 := hid hS3
  clear hA hS3 HS2 HN3 c1 C1
  obtain ⟨x, hx⟩ := tab_at 1 HS3.out
  obtain ⟨z, hz⟩ := u_at 3 HS3.out
  have hc := system_any hx hz
  rw [Hss.out] at hc
  clear hx hz
  go_wp2_with fail
  refine hc.mono ?_; rintro e w4 ⟨rfl, k4⟩
  have HS4 := hid (HS3.out.step k4)
  clear hc k4 HS3
  go_wp2_with fail
  go_loopw [12] (fun y wr => ∃ (k : Nat) (u : UM), k ≤ ks.length ∧ k ≤ 60 ∧ y = .int .i64 k ∧ Hid (St F w [glC W, tabC p m, refC q m, unitsC xb u, r5C yb u] wr)) (fun y _ => ks.length - (intOf y).toNat)
  case atStart => exact ⟨0, UM.start m.units, Nat.zero_le _, by omega, rfl, HS4⟩
  case round =>
    obtain ⟨k, u, hk, hk60, rfl, HR⟩ := hrel
    by_cases hlt : k < ks.length ∧ k < 60
    · obtain ⟨hlt, h60⟩ := hlt
      have b0 : decide (k < ks.length) = true := by simpa using hlt
      have b1 : decide ((k : Int) < 60) = true := by simp; omega
      have hs := List.getElem?_eq_getElem hlt
      obtain ⟨gb, go, rfl, e0, e1, e2⟩ := Hkc.out k _ hs
      have kr := (glob_keeps Hg.out HR.out).1
      have d0 := cellIn kr e0
      have d1 := cellIn kr e1
      have d2 := cellIn kr e2
      generalize ks[k] = t at *
      obtain ⟨tj, tr, tn⟩ := t
      simp only at d0 d1 d2
      have i0 : (0 : Int) ≤ (k : Int) := by omega
      have i1 : (k : Int) < (ks.length : Int) := by omega
      clear hs e0 e1 e2 kr HS4
      go_upto_region 12 with fail
      have hS5 := HR.out.new TL3 [.int .i64 tj, .int .i64 tr, .int .i64 tn]
      simp only [Kw.red] at hS5
      have HS5 := hid hS5
      clear hS5 HR d0 d1 d2
      generalize wr.heap.size = ob at *
      generalize (wr.alloc (.cells #[.int .i64 tj, .int .i64 tr, .int .i64 tn] TL3)) = w5 at *
      have o0 : w5.cell? ⟨ob, 0, none⟩ = some (.int .i64 tj) := (HS5.out.blk 5).cell 0
      have o1 : w5.cell? ⟨ob, 1, none⟩ = some (.int .i64 tr) := (HS5.out.blk 5).cell 1
      have o2 : w5.cell? ⟨ob, 2, none⟩ = some (.int .i64 tn) := (HS5.out.blk 5).cell 2
      obtain ⟨F1, g1, _, _, bk⟩ := HS5.out.sel [3]
      have g1' : Sts [unitsC xb u] F1 w5 := g1
      have HL := hid (ulock_any g1' tj tr tn 255 (by omega))
      clear g1 g1'
      go_wp2_with fail
      refine HL.out.mono ?_; rintro e w6 ⟨rfl, hS⟩
      have hS := bk hS
      simp only [Kw.red] at hS
      have HS6 := hid hS
      clear hS bk HL HS5 o0 o1 o2
      have o0 : w6.cell? ⟨ob, 0, none⟩ = some (.int .i64 tj) := (HS6.out.blk 5).cell 0
      have o1 : w6.cell? ⟨ob, 1, none⟩ = some (.int .i64 tr) := (HS6.out.blk 5).cell 1
      have o2 : w6.cell? ⟨ob, 2, none⟩ = some (.int .i64 tn) := (HS6.out.blk 5).cell 2
      obtain ⟨F1, g1, _, _, bk⟩ := HS6.out.sel [4]
      have g1' : Sts [r5C yb u] F1 w6 := g1
      have HL := hid (rlock_any g1' tj tr tn 255 (by unfold big; omega))
      clear g1 g1'
      go_wp2_with fail
      refine HL.out.mono ?_; rintro e w7 ⟨rfl, hS⟩
      have hS := bk hS
      simp only [Kw.red] at hS
      have HS7 := hid hS
      clear hS bk HL HS6 o0 o1 o2
      generalize u.lock tj tr tn 255 = u' at *
      generalize u.lockErr tj tr tn 255 = E at *
      have c1 : (E != E) = false := by simp
      obtain ⟨x, hx⟩ := tab_at 1 HS7.out
      obtain ⟨z, hz⟩ := u_at 3 HS7.out
      have HA := hid (system_any hx hz)
      generalize hSM : sysM m u' = SM at *
      have HSM := hid hSM
      have c2 : (SM != SM) = false := by simp
      clear hx hz hSM
      go_wp2_with fail
      refine HA.out.mono ?_; rintro e w8 ⟨rfl, k8⟩
      have HS8 := hid (HS7.out.step k8)
      clear k8 HA HS7
      obtain ⟨yy, hy⟩ := ref_at 2 HS8.out
      obtain ⟨uv5, tv5, hr5⟩ := r5_at 4 HS8.out
      have hB := systemR_any hy hr5
      rw [HSM.out] at hB
      have HB := hid hB
      clear hy hr5 hB
      go_wp2_with fail
      refine HB.out.mono ?_; rintro e w9 ⟨rfl, rfl⟩
      clear HB
      by_cases h4 : (k : Int) % 4 = 3
      · have c3 : ((k : Int) % 4 == 3) = true := by simpa using h4
        have o0 : w8.cell? ⟨ob, 0, none⟩ = some (.int .i64 tj) := (HS8.out.blk 5).cell 0
        obtain ⟨F1, g1, _, _, bk⟩ := HS8.out.sel [3]
        have g1' : Sts [unitsC xb u'] F1 w8 := g1
        have HL := hid (udrop_any g1' tj)
        clear g1 g1' h4
        go_wp2_with fail
        refine HL.out.mono ?_; rintro e w10 ⟨rfl, hS⟩
        have hS := bk hS
        simp only [Kw.red] at hS
        have HS9 := hid hS
        clear hS bk HL HS8 o0
        have o0 : w10.cell? ⟨ob, 0, none⟩ = some (.int .i64 tj) := (HS9.out.blk 5).cell 0
        obtain ⟨F1, g1, _, _, bk⟩ := HS9.out.sel [4]
        have g1' : Sts [r5C yb u'] F1 w10 := g1
        have HL := hid (rdrop_any g1' tj)
        clear g1 g1'
        go_wp2_with fail
        refine HL.out.mono ?_; rintro e w11 ⟨rfl, hS⟩
        have hS := bk hS
        simp only [Kw.red] at hS
        have HS10 := hid (hS.sub [0, 1, 2, 3, 4])
        clear hS bk HL HS9 o0
        go_wp2_with fail
        go_roundw
        case rel => exact ⟨k + 1, u'.drop tj, by omega, by omega, by go_num, HS10⟩
        case measure => simp [intOf]; omega
      · have c3 : ((k : Int) % 4 == 3) = false := by simpa using h4
        have HS9 := hid (HS8.out.sub [0, 1, 2, 3, 4])
        clear h4 HS8
        go_wp2_with fail
        go_roundw
        case rel => exact ⟨k + 1, u', by omega, by omega, by go_num, HS9⟩
        case measure => simp [intOf]; omega
    · obtain ⟨x, hx⟩ := tab_at 1 HR.out
      obtain ⟨z, hz⟩ := u_at 3 HR.out
      have HA := hid (system_any hx hz)
      generalize hSM : sysM m u = SM at *
      have HSM := hid hSM
      clear hx hz hSM HS4
      have KR := hid (glob_keeps Hg.out HR.out).1
      have fin : decide (k < ks.length) = false ∨ decide (k < ks.length) = true ∧ decide ((k : Int) < 60) = false := by
        by_cases h1 : k < ks.length
        · right; exact ⟨by simpa using h1, by simp; omega⟩
        · left; simpa using h1
      rcases fin with b0 | ⟨b0, b1⟩
      all_goals
        clear hlt
        go_wp2_with fail
        refine HA.out.mono ?_; rintro e w8 ⟨rfl, k8⟩
        have HS8 := hid (HR.out.step k8)
        have K8 := hid (KR.out.trans k8)
        clear k8 HA
        obtain ⟨yy, hy⟩ := ref_at 2 HS8.out
        obtain ⟨uv5, tv5, hr5⟩ := r5_at 4 HS8.out
        have hB := systemR_any hy hr5
        rw [HSM.out] at hB
        have HB := hid hB
        have HC := hid (ceilruns_any hG (glob_new Hg.out K8.out))
        clear hy hr5 hB
        go_wp2_with fail
        refine HB.out.mono ?_; rintro e w9 ⟨rfl, rfl⟩
        have c2 : (SM == SM) = true := by simp
        go_wp2_with fail
        refine HC.out.mono ?_; rintro e w9 ⟨rfl, k9⟩
        have K9 := hid (K8.out.trans k9)
        clear k9 HC
        go_wp2_with fail
        go_ret
        exact ⟨rfl, K9.out⟩
end
end Go.Proofs.YtnkjjhenfhnajaaGreatDoor

/-
  Lists of locks as they come in.
-/
namespace Go.Proofs.YtnkjjhenfhnajaaGreatDoor
open Go.RowKit Go.Kw Go.Kreg Go.Tm Go.Um
set_option linter.unusedSimpArgs false
set_option linter.unusedVariables false
abbrev TL3s : Nat := 83
set_option maxRecDepth 100000 in
theorem SlLk.ofTrod {H : Type} {enc : TypeId × Value → H} {W : World} {a : Option Addr} {len cap : Nat} {d : DataW H} {ps : List MemPlace}
    (h : DataW.Trod enc Tryz.prog W 0 (fun _ => true) true TL3s (.slice a len cap) d ps) : ∃ l, SlLk W (.slice a len cap) l := by
  obtain ⟨fuel, hf⟩ := h
  rcases Deep.open_slice Tryz.underlying83 hf with ⟨hcs, _⟩ | ⟨x, l, c, m, n, D, Pl, hcs, _, hl, hm, hmm, hx, hcell⟩
  · simp [Value.cells] at hcs
    obtain ⟨rfl, rfl, rfl⟩ := hcs
    exact ⟨[], none, 0, rfl, by simp, fun j x hj => by simp at hj⟩
  · simp [Value.cells] at hcs
    obtain ⟨rfl, rfl, rfl⟩ := hcs
    have hlm : len ≤ m := by rw [hmm]; split <;> omega
    have c3 : Tryz.prog.cellsOf TL3 = 3 := by kernel_rfl
    have key : ∀ i, i < len → ∃ q : Tkn, ∀ j u, [Value.int .i64 q.job, .int .i64 q.res, .int .i64 q.n][j]? = some u → W.cell? (x.add (i * 3 + j)) = some u := by
      intro i hi
      obtain ⟨cs', h1, h2⟩ := hcell i (by omega)
      rw [c3] at h1
      obtain ⟨_, hlen, hcl⟩ := World.cells?_some h1
      obtain ⟨xs, k, hk, hxy, _, hxl, hfl⟩ := DataW.trod_struct Tryz.underlying93 h2
      match xs, hxl, cs', hlen with
      | [y0, y1, y2], _, [v0, v1, v2], _ =>
        have g0 := hfl 0 _ rfl
        have g1 := hfl 1 _ rfl
        have g2 := hfl 2 _ rfl
        have cI : Tryz.prog.cellsOf 3 = 1 := by kernel_rfl
        simp [cI] at g0 g1 g2
        obtain ⟨k0, e0, _, w0⟩ := DataW.trod_int Tryz.underlying3 g0
        obtain ⟨k1, e1, _, w1⟩ := DataW.trod_int Tryz.underlying3 g1
        obtain ⟨k2, e2, _, w2⟩ := DataW.trod_int Tryz.underlying3 g2
        simp only [List.cons.injEq, and_true] at e0 e1 e2
        subst e0 e1 e2
        refine ⟨⟨k0, k1, k2⟩, fun j u hu => ?_⟩
        have hj : j < 3 := (List.getElem?_eq_some_iff.1 hu).1
        have hc := hcl j hj
        rw [Deep.add_add] at hc
        rw [hc]; exact hu
    haveI : Inhabited Tkn := ⟨⟨0, 0, 0⟩⟩
    obtain ⟨f, hf⟩ := Deep.choose_lt key
    refine ⟨(List.range len).map f, some x, cap, by simp, by simp; unfold maxLen at hm; omega, fun j y hj => ?_⟩
    rw [List.getElem?_map] at hj
    cases hr : (List.range len)[j]? with
    | none => rw [hr] at hj; cases hj
    | some i =>
      rw [hr] at hj
      obtain ⟨hjl, hji⟩ := List.getElem?_eq_some_iff.1 hr
      simp only [List.getElem_range] at hji
      simp only [List.length_range] at hjl
      subst hji
      simp only [Option.map_some, Option.some.injEq] at hj
      subst hj
      have hc := hf j hjl
      have h0 := hf 0 (by omega)
      have e := addr_of_cell (by have := h0 0 _ rfl; rwa [Nat.zero_mul, Nat.zero_add] at this)
      refine ⟨x.block, x.off, by rw [← e], ?_, ?_, ?_⟩
      · have := hc 0 _ rfl
        rw [e, add_at] at this
        exact this
      · have := hc 1 _ rfl
        rw [e, add_at] at this
        rw [Nat.add_assoc]; exact this
      · have := hc 2 _ rfl
        rw [e, add_at] at this
        rw [Nat.add_assoc]; exact this
end Go.Proofs.YtnkjjhenfhnajaaGreatDoor
