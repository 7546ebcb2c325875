/-
  units.Table.Lock, walked.
-/
import Derived.Test.YtdjgijndcjbpiaaGreatDoorUk
namespace Go.Proofs.YtdjgijndcjbpiaaGreatDoor
open Go.RowKit Go.Kw Go.Kreg Go.Tm Go.Um
set_option linter.unusedSimpArgs false
set_option linter.unusedVariables false

abbrev THd : Nat := 184
abbrev z16 : List Value := [.int .i64 0, .int .i64 0, .int .i64 0, .int .i64 0, .int .i64 0, .int .i64 0, .int .i64 0, .int .i64 0, .int .i64 0, .int .i64 0, .int .i64 0, .int .i64 0, .int .i64 0, .int .i64 0, .int .i64 0, .int .i64 0]
theorem z16_eq : intsC (List.replicate 16 0) = z16 := rfl
theorem sizeHd : (Tryz.prog.info? THd).map (·.size) = some 16 := by kernel_rfl
theorem results_c1 {P : Program} {fn : Func} {p : Tmp} {ty : TypeId} (h : fn.results = #[.cell p ty]) (tmps : Array Value) (w : World) (g : Nat) (t : TypeId) (cs : Array Value) (fr : Nat × Nat) (d : TypeDesc)
    (hp : tmps.getD p undef = .pointer (some ⟨g, 0, none⟩)) (hg : w.heap[g]? = some (.cells cs t fr))
    (hu : P.underlying ty = some d) (hd : (match d with | .struct _ | .array _ _ => true | _ => false) = true) (hi : (P.info? ty).map (·.size) = some cs.size) :
    (results fn tmps).run P w = .ok (.agg cs) w := by
  have hp' : tmps[p]?.getD undef = .pointer (some ⟨g, 0, none⟩) := by simpa using hp
  simp [results, h, hp', asAddr, run_loadVar_row w g t ty cs fr d hg hu hd hi]
theorem run_idxH (w : World) (g o : Nat) {j : Nat} (hj : j < 16) : (Instr.indexAt THd (.pointer (some ⟨g, o, none⟩)) (.int .i64 j)).run Tryz.prog w = .ok (.pointer (some ⟨g, o + j, none⟩)) w := by
  have hal : Tryz.prog.arrayLen THd = 16 := by kernel_rfl
  have hel : Tryz.prog.elem THd = 3 := by kernel_rfl
  have hz : (Go.sizeOf 3).run Tryz.prog w = .ok 1 w := by
    have hi : (Tryz.prog.info? 3).map (·.size) = some 1 := by kernel_rfl
    cases hq : Tryz.prog.info? 3 with
    | none => simp [hq] at hi
    | some i =>
      simp only [hq, Option.map_some, Option.some.injEq] at hi
      simp [sizeOf, typeInfo, hq, hi]
  rw [run_indexAt_array w THd _ _ _ (by kernel_rfl), hal, hel, if_pos ⟨by omega, by omega⟩, hz]
  simp [Result.andThen, add_at]
theorem wpFront_idxH {ops : Array Oper} {C : World → Prop} {Lq : Act → Prop} {a : Act} {o : Oper} {rest : List Oper} {x ix : Operand} {g f j : Nat}
    (hgd : o.guard = none) (ho : o.op = .indexAddr THd x ix) (hx : a.eval x = .pointer (some ⟨g, f, none⟩)) (hix : a.eval ix = .int .i64 j) (hj : j < 16)
    (h : wpFront Tryz.prog ops C Lq rest (a.put o.dst (.pointer (some ⟨g, f + j, none⟩)))) : wpFront Tryz.prog ops C Lq (o :: rest) a := by
  refine wpFront_other (by rw [ho]; rfl) ?_
  refine wpQuiet_step fun K hK => ?_
  have hw : Region.wanted o (yielded ops a.tmps) = true := by unfold Region.wanted; rw [hgd]
  rw [if_pos hw]
  refine ⟨.pointer (some ⟨g, f + j, none⟩), fun w' hw' => ?_, hK _ h⟩
  unfold Oper.quietAt
  simp [execOp, ho, hx, hix, run_idxH w' g f hj, Oper.quietUpon, Result.andThen]
section
variable {w : World} {p : Nat} {m : UM} {x : UX}
set_option maxRecDepth 100000 in
set_option maxHeartbeats 1000000 in
theorem uof_none (h : UAt w p m x) (j : Int) (hf : In.foundAt j x.ns = false) : Calls Tryz.prog 120 #[.pointer (some ⟨p, 0, none⟩), .int .i64 j] w fun e w' => e = .returned (.agg (intsC (List.replicate 16 0)).toArray) ∧ Keeps (fun _ => False) w w' := by
  have hg := hget_any h.c3 h.jb h.jo.1 (by have := h.few; omega) j
  rw [hf] at hg
  have HG := hid (hget_any (cellIn ((Keeps.refl (fun _ => False) w).alloc (.cells z16.toArray THd)) h.c3) (h.jb.keeps ((Keeps.refl (fun _ => False) w).alloc (.cells z16.toArray THd)) fun _ _ => id) h.jo.1 (by have := h.few; omega) j)
  rw [hf] at HG
  have HS := hid ((St.start w).new THd z16)
  rw [z16_eq]
  clear h hf hg
  go_enter Tryz.func120, Tryz.ntmps120
  go_wp2_with fail
  refine HG.out.mono ?_; rintro e w1 ⟨rfl, k1⟩
  have HS1 := hid (HS.out.step k1)
  clear HS k1
  go_wp2_with (refine wpList_storeS 0 THd _ _ rfl rfl z16 HS1.out rfl rfl rfl sizeHd rfl (by decide) ?_; intro w3 hS3; simp only [Kw.red] at hS3)
  refine bodyPost_ret (v := .agg z16.toArray) (results_c1 Tryz.results120 _ _ w.heap.size THd _ (0, 0) _ rfl (hS3.blk 0) Tryz.underlying184 rfl sizeHd) rfl ?_
  exact ⟨rfl, hS3.keeps⟩
end
abbrev TLks : Nat := 189
set_option maxRecDepth 100000 in
set_option maxHeartbeats 2000000 in
theorem lockPush_any {w : World} {F : Nat → Prop} {p n : Nat} {T : TypeId} {ys xs : List Value} {rv : Value} (H : Sts [.pt p T ys, .row TLk 2 rv n xs] F w) (ho : ys[0]? = some rv) (hn : n ≤ 1000000) (a b : Int) :
    Calls Tryz.prog 123 #[.pointer (some ⟨p, 0, none⟩), .agg #[.int .i64 a, .int .i64 b]] w fun r w' => r = .returned (.tuple #[]) ∧
      ∃ rv', St F w [.pt p T (ys.set 0 rv'), .row TLk 2 rv' (n + 1) (xs ++ [.int .i64 a, .int .i64 b])] w' := by
  have hcell := ((St.of H).blk 0).at ho
  have hfz := ((St.of H).blk 0).fz 0
  have hS := (St.of H).new TLk [.int .i64 a, .int .i64 b]
  simp only [Kw.red] at hS
  have c0 := (hS.blk 2).cell 0
  have c1 := (hS.blk 2).cell 1
  simp only [List.getElem?_cons_zero, List.getElem?_cons_succ] at c0 c1
  have hpw : p < w.heap.size := ((St.of H).blk 0).lt
  obtain ⟨ra, rc, rfl, -⟩ := ((St.of H).own 1).shape
  have HS := hid hS
  clear hS H
  go_enter Tryz.func123, Tryz.ntmps123
  go_wp2_with fail
  refine wp_region_mix [true, true, true, true, true, true, false, false, false, false, false] 1 (fun _ => False) (by kernel_rfl) (by decide +kernel) ?_
  simp only [front, back, List.take_succ_cons, List.take_zero, List.drop_succ_cons, List.drop_zero]
  repeat ((first | refine wpFront_load rfl ?_ | refine wpFront_other rfl ?_); (first | go_big_quiet_step (fail) | quiet_step (fail)); refine wpQuiet_nil ?_)
  refine wpFront_nil ?_
  simp only [wpSegs]
  go_wp2_with fail
  refine segQ_normal (((Keeps.refl _ _).alloc _).drew) ?_
  have hSb := (HS.out.new TLk [.int .i64 a, .int .i64 b]).drew
  simp only [Kw.red] at hSb
  rw [show (w.alloc (.cells [Value.int .i64 a, .int .i64 b].toArray TLk)).heap.size = w.heap.size + 1 by simp] at hSb
  refine wpList_appS 1 3 _ _ TLks TLk (.agg #[.int .i64 0, .int .i64 0]) 2 16 infoLk Tryz.underlying189 rfl (by decide) rfl rfl hSb rfl rfl rfl rfl rfl (by simp [Value.oneCell']) (by omega) (by unfold maxLen; omega) (by omega) ?_
  intro gb gc w7 hSc hat
  have hc7 := (hSc.blk 0).at ho
  have hfz7 := (hSc.blk 0).fz 0
  clear c0 c1 hcell hfz
  go_wp2_with fail
  refine NoPanic.normal ?_
  go_wp2_with fail
  go_end0
  refine ⟨rfl, .slice (some ⟨gb, 0, none⟩) (n + 1) gc, ?_⟩
  exact (hSc.set 0 0 (.slice (some ⟨gb, 0, none⟩) (n + 1) gc)).sub [0, 1]
theorem Sts.perm' {cs ds : List Ch} (h : cs.Perm ds) {w : World} : ∀ {F : Nat → Prop}, Sts cs F w → Sts ds F w := by
  induction h with
  | nil => intro F h; exact h
  | cons c _ ih =>
    rintro F ⟨F1, F2, h1, h2, h3, h4⟩
    exact ⟨F1, F2, h1, ih h2, h3, h4⟩
  | swap a b l =>
    rintro F ⟨F1, F2, h1, ⟨F3, F4, g1, g2, g3, g4⟩, h3, h4⟩
    refine ⟨F3, fun x => F1 x ∨ F4 x, g1, ⟨F1, F4, h1, g2, fun x hx hy => h3 x hx ((g4 x).2 (.inr hy)), fun _ => Iff.rfl⟩, fun x hx hy => ?_, fun x => ?_⟩
    · rcases hy with hy | hy
      · exact h3 x hy ((g4 x).2 (.inl hx))
      · exact g3 x hx hy
    · rw [h4 x, g4 x]
      constructor
      · rintro (h | h | h)
        · exact .inr (.inl h)
        · exact .inl h
        · exact .inr (.inr h)
      · rintro (h | h | h)
        · exact .inr (.inl h)
        · exact .inl h
        · exact .inr (.inr h)
  | trans _ _ ih1 ih2 => intro F h; exact ih2 (ih1 h)
theorem idxH (w : World) (L : List Int) (hL : L.length = 16) {k : Nat} {n : Int} (hk : L[k]? = some n) : (Instr.index THd (.agg (intsC L).toArray) (.int .i64 k)).run Tryz.prog w = .ok (.int .i64 n) w := by
  obtain ⟨i, hi, h0, h1, h2⟩ := info_parts infoI
  have hlt := (List.getElem?_eq_some_iff.1 hk).1
  have hx := intsC_at hk
  simp [Instr.index, asIntOf, run_underlying Tryz.underlying184, sizeOf, typeInfo, hi, h1, part, hx]
  intro h; omega
theorem holdC_other {l : List Tkn} {t : Tkn} {j : Int} (h : t.job ≠ j) (a : Nat) : holdC (l ++ [t]) j a = holdC l j a := by
  have e1 : ∀ lv, holdCs (l ++ [t]) j a lv = holdCs l j a lv := fun lv => by
    unfold holdCs
    rw [heldL_other l t h, List.filter_append]
    simp [ofJob, h]
  unfold holdC
  simp only [e1]
theorem held_map {l : List Tkn} {t : Tkn} {ns : List In.Row} (h : ∀ a ∈ ns, t.job ≠ a.1) : ns.map (fun a => holdC (l ++ [t]) a.1 a.2) = ns.map fun a => holdC l a.1 a.2 :=
  List.map_congr_left fun a ha => holdC_other (h a ha) a.2
theorem laid_perm (k : Int) (v : Nat) (ns : List In.Row) (f : In.Row → Ch) : (ns.map f ++ [f (k, v)]).Perm ((In.laid k v ns).map f) := by
  unfold In.laid
  rw [List.map_append, List.map_cons]
  refine List.perm_append_comm.trans ?_
  refine List.Perm.trans ?_ List.perm_middle.symm
  rw [← List.map_append, List.take_append_drop]
  exact List.Perm.refl _
theorem intsC_set (L : List Int) (k : Nat) (n : Int) : intsC (L.set k n) = (intsC L).set k (.int .i64 n) := by simp [intsC, List.map_set]
theorem laidI_len (k : Int) (v : Nat) (ns : List In.Row) : (In.laid k v ns).length = ns.length + 1 := by
  have := In.below_le k ns
  simp [In.laid]; omega
theorem hold_fin {w w0 : World} {F0 : Nat → Prop} {p hb k : Nat} {m : UM} {x : UX} {j n : Int} {nv rv : Value} {l2 : List Tkn} (hok : (UM.mk m.us l2 m.cs).Ok) (hjo : Jobs l2 (In.laid j hb x.ns))
    (hfl : (UM.mk m.us l2 m.cs).frees = m.frees.set k (m.free k - n)) (hhl : heldL l2 j = (List.replicate 16 0).set k (0 + n)) (hfi : l2.filter (ofJob j) = [⟨j, k, n⟩])
    (hmap : x.ns.map (fun a => holdC l2 a.1 a.2) = x.ns.map fun a => holdC m.l a.1 a.2)
    (hS : St F0 w0 [.emp, .pt p TUt ([x.uv, x.fv, x.cv, x.jv].set 3 nv), .row TI' 1 x.uv m.us.length (intsC m.us), .row TI' 1 x.fv m.us.length ((intsC m.frees).set k (.int .i64 (m.free k - n))), .row TI' 1 x.cv m.us.length (intsC m.cs),
      .row THr 2 nv (x.ns.length + 1) (hrowsC (In.laid j hb x.ns)), .stars (x.ns.map fun a => holdC m.l a.1 a.2), .pr (m.Ok ∧ Jobs m.l x.ns), .pt hb THo ((rv :: intsC (List.replicate 16 0)).set (1 + k) (.int .i64 n)), .row TLk 2 rv (0 + 1) ([] ++ [.int .i64 k, .int .i64 n])] w) :
    St F0 w0 [unitsC p ⟨m.us, l2, m.cs⟩] w := by
  have e1 : (rv :: intsC (List.replicate 16 0)).set (1 + k) (.int .i64 n) = rv :: intsC (heldL l2 j) := by
    rw [hhl, intsC_set, Nat.add_comm 1 k, List.set_cons_succ, Int.zero_add]
  rw [e1] at hS
  have h1 := hS.fold [8, 9] (holdC l2 j hb) (fun F h => ⟨rv, by
    have h' : Sts [.pt hb THo (rv :: intsC (heldL l2 j)), .row TLk 2 rv 1 [.int .i64 k, .int .i64 n]] F w := h
    show Sts (holdCs _ _ _ _) F w
    unfold holdCs
    rw [hfi]
    exact h'⟩)
  have h2 : St F0 w0 [.emp, .pt p TUt [x.uv, x.fv, x.cv, nv], .row TI' 1 x.uv m.us.length (intsC m.us), .row TI' 1 x.fv m.us.length (intsC (m.frees.set k (m.free k - n))), .row TI' 1 x.cv m.us.length (intsC m.cs),
      .row THr 2 nv (x.ns.length + 1) (hrowsC (In.laid j hb x.ns)), .stars (x.ns.map fun a => holdC m.l a.1 a.2), .pr (m.Ok ∧ Jobs m.l x.ns), holdC l2 j hb, .emp] w := by rw [intsC_set]; exact h1
  rw [← hmap, ← hfl] at h2
  have h3 := h2.snoc 6 8
  simp only [Kw.red] at h3
  have h4 := h3.imp 6 (c := .stars ((x.ns.map fun (a : In.Row) => holdC l2 a.1 a.2) ++ [holdC l2 j hb])) (.stars ((In.laid j hb x.ns).map fun (a : In.Row) => holdC l2 a.1 a.2)) (fun F h => Sts.perm' (laid_perm j hb x.ns fun (a : In.Row) => holdC l2 a.1 a.2) h)
  have h5 := h4.imp 7 (c := .pr (m.Ok ∧ Jobs m.l x.ns)) (.pr ((UM.mk m.us l2 m.cs).Ok ∧ Jobs l2 (In.laid j hb x.ns))) (fun F h => ⟨⟨hok, hjo⟩, h.2⟩)
  rw [← laidI_len j hb x.ns] at h5
  have h6 := h5.fold [1, 2, 3, 4, 5, 6, 7] (unitsC p ⟨m.us, l2, m.cs⟩) (fun F h => ⟨⟨x.uv, x.fv, x.cv, nv, In.laid j hb x.ns⟩, h⟩)
  exact h6.sub [1]
section
variable {w : World} {F : Nat → Prop} {p : Nat} {m : UM}
set_option maxRecDepth 100000 in
set_option maxHeartbeats 8000000 in
theorem ulock_new (h : Sts [unitsC p m] F w) (j n need : Int) (k : Nat) (he : m.lockErr j k n need = 0) (hf : ∀ x ∈ m.l, x.job ≠ j) (hnd : need ≤ 9223372036854775807) :
    Calls Tryz.prog 40 #[.pointer (some ⟨p, 0, none⟩), .int .i64 j, .int .i64 k, .int .i64 n, .int .i64 need] w fun e w' => e = .returned (.int .i64 0) ∧ St F w [unitsC p ⟨m.us, m.l ++ [⟨j, k, n⟩], m.cs⟩] w' := by
  obtain ⟨x, hS⟩ := (St.of h).opens 0 (fun x => unitsCs p m x) (fun F h => h)
  simp only [unitsCs] at hS
  simp only [Kw.red] at hS
  obtain ⟨_, ⟨⟨hok, hjo⟩, -⟩, -⟩ := hS.at 7 rfl
  have hx : UAt w p m x := ⟨(hS.blk 1).cell 0, (hS.blk 1).cell 1, hS.own 2, hS.own 3, hok, (hS.blk 1).cell 3, hS.own 5, hjo⟩
  have hfd : In.foundAt j x.ns = false := by
    cases hq : In.foundAt j x.ns with
    | false => rfl
    | true => obtain ⟨y, hy, e⟩ := (hjo.found j).1 hq; exact absurd e (hf y hy)
  have hof := uof_none hx j hfd
  have hok2 := lock_ok hok he
  have hjn := fun v => hjo.new (r := k) (n := n) v hfd
  have hheld : m.held j k = 0 := sumOf_none fun y hy => by simp [ofBoth, hf y hy]
  unfold UM.lockErr at he
  have hh : m.has k := Classical.byContradiction fun hn => by rw [if_pos (.inr (.inl hn))] at he; omega
  have hfree := frees_at m (r := k) (by unfold UM.has at hh; omega)
  have hfb := free_bd hok hh
  have htb := tot_bd hok hh
  have e1 : ¬ (j < 0) := fun hn => by rw [if_pos (.inl hn)] at he; omega
  have e2 : ¬ (n < 1) := fun hn => by rw [if_pos (.inr (.inr (.inl hn)))] at he; omega
  have e3 : ¬ (m.tot k < n) := fun hn => by rw [if_pos (.inr (.inr (.inr hn)))] at he; omega
  rw [if_neg (by simp [e1, hh, e2, e3]), hheld] at he
  have e4 : ¬ (need < n) := fun hn => by rw [if_pos (by omega)] at he; omega
  rw [if_neg (by omega)] at he
  have e5 : ¬ (m.free k < n) := fun hn => by rw [if_pos hn] at he; omega
  clear he
  have hk1 : k < m.us.length := by unfold UM.has at hh; omega
  have hk16 : k < 16 := by have := hok.few; omega
  have htot : m.us[k]? = some (m.tot k) := by
    unfold UM.tot
    rw [Int.toNat_natCast, List.getD_eq_getElem?_getD, List.getElem?_eq_getElem hk1]; rfl
  have hhas := uhas_any hx k
  rw [decide_eq_true hh] at hhas
  have hhl : heldL m.l j = List.replicate 16 0 := heldL_none hf
  have hhl2 := heldL_add m.l j n k
  rw [show sumOf (ofBoth j k) m.l = 0 from hheld, hhl] at hhl2
  have hfl2 := frees_add m j n k
  have hfree2 : m.tot k - sumOf (ofRes k) m.l - n = m.free k - n := by unfold UM.free; rw [if_pos hh]
  rw [hfree2] at hfl2
  have hfilt : (m.l ++ [(⟨j, k, n⟩ : Tkn)]).filter (ofJob j) = [⟨j, k, n⟩] := by
    rw [List.filter_append, List.filter_eq_nil_iff.2 (fun y hy => by simp [ofJob, hf y hy])]; simp [ofJob]
  have hns : ∀ a ∈ x.ns, j ≠ a.1 := fun a ha e => by
    obtain ⟨y, hy, e2⟩ := (hjo.2 a.1).1 ⟨a.2, ha⟩
    exact hf y hy (by rw [e2, e])
  have hmap := held_map (l := m.l) (t := ⟨j, k, n⟩) hns
  obtain ⟨ug, uc, eu, -⟩ := hx.uns.form (by omega)
  obtain ⟨fg, fc, ef, -⟩ := hx.frs.form (by omega)
  have c0 := hx.c0
  have c1 := hx.c1
  rw [eu] at c0
  rw [ef] at c1
  have hou := hx.uns
  rw [eu] at hou
  have hofr := hx.frs
  rw [ef] at hofr
  have d0 := hou.cells' (g := ug) rfl (intsC_at htot)
  have d1 := hofr.cells' (g := fg) rfl (intsC_at hfree)
  have i0 : (0 : Int) ≤ (k : Int) := by omega
  have i1 : (k : Int) < (m.us.length : Int) := by omega
  have b1 : decide (j < 0) = false := by simpa using e1
  have b2 : decide (n < 1) = false := by simpa using e2
  have b3 : decide (m.tot k < n) = false := by simpa using e3
  have b4 : decide (need < n) = false := by simpa using e4
  have b5 : decide (m.free k < n) = false := by simpa using e5
  have hw0 : n + 0 = n := by omega
  have hidx := fun w => idxH w (List.replicate 16 0) (by decide) (k := k) (n := 0) (by rw [List.getElem?_replicate, if_pos hk16])
  generalize (intsC (List.replicate 16 0)).toArray = ZA at hof hidx
  have HS := hid hS
  have HH := hid hhas
  have HO := hid hof
  have HX := hid hx
  have C0 := hid c0
  have C1 := hid c1
  have D0 := hid d0
  have D1 := hid d1
  have Hfd := hid hfd
  have Hef := hid ef
  have Hjn := hid hjn
  have Hok2 := hid hok2
  have Hfl2 := hid hfl2
  have Hhl2 := hid hhl2
  have Hfilt := hid hfilt
  have Hmap := hid hmap
  have Hns := hid hns
  clear hS hhas hof hx hou hofr hjo hfree htot eu ef hheld hhl hf h hjn hok2 hfl2 hhl2 hfilt hmap hns hfree2 hok hfd
  go_enter Tryz.func40, Tryz.ntmps40
  go_wp2_with fail
  refine HH.out.mono ?_; rintro e w1 ⟨rfl, rfl⟩
  go_wp2_with fail
  refine HO.out.mono ?_; rintro e w2 ⟨rfl, k2⟩
  have K2 := hid k2
  clear c0 c1 d0 d1
  have c0 := cellIn k2 C0.out
  have c1 := cellIn k2 C1.out
  have d0 := cellIn k2 D0.out
  have d1 := cellIn k2 D1.out
  clear k2
  go_wp2_with fail
  refine (hget_any (cellIn K2.out HX.out.c3) (HX.out.jb.keeps K2.out fun _ _ => id) HX.out.jo.1 (by have := HX.out.few; omega) j).mono ?_; rintro e w3 ⟨rfl, k3⟩
  rw [Hfd.out]
  have HS3 := hid (HS.out.step (K2.out.trans k3))
  clear c0 c1 d0 d1 k3 HS
  go_wp2_with fail
  have hS4 := (HS3.out.new THo (.slice none 0 0 :: intsC (List.replicate 16 0))).add (Keeps.refl (fun _ => False) _) (G := fun _ => False) (c := .row TLk 2 (.slice none 0 0) 0 []) ⟨⟨rfl, .inl ⟨rfl, rfl⟩⟩, fun b => by simp [Value.ownBlock]⟩ (fun _ h => h.elim)
  simp only [Kw.red] at hS4
  generalize w3.heap.size = hb at *
  obtain ⟨F1, g1, _, _, bk⟩ := hS4.sel [1, 5]
  have g1' : Sts [.pt p TUt [x.uv, x.fv, x.cv, x.jv], .row THr 2 x.jv x.ns.length (hrowsC x.ns)] F1 _ := g1
  have Hset := hid (hset_any (o := 3) g1' rfl HX.out.jo.1 (by have := HX.out.few; omega) j hb Hfd.out)
  clear g1 g1' hS4
  refine Hset.out.mono ?_; rintro e w4 ⟨rfl, nv, hS⟩
  have hS := bk hS
  simp only [Kw.red] at hS
  obtain ⟨F2, g2, _, _, bk2⟩ := hS.sel [8, 9]
  have g2' : Sts [.pt hb THo (.slice none 0 0 :: intsC (List.replicate 16 0)), .row TLk 2 (.slice none 0 0) 0 []] F2 _ := g2
  have HP := hid (lockPush_any g2' rfl (by omega) k n)
  clear g2 g2' hS bk Hset
  go_wp2_with fail
  refine HP.out.mono ?_; rintro e w5 ⟨rfl, rv, hS⟩
  have hS := bk2 hS
  simp only [Kw.red] at hS
  simp only [List.set_cons_zero] at hS
  have HS5 := hid hS
  have hh0 := (hS.blk 8).at (show (rv :: intsC (List.replicate 16 0))[1 + k]? = some (.int .i64 0) by rw [Nat.add_comm]; exact intsC_at (by rw [List.getElem?_replicate, if_pos hk16]))
  have hhz := (hS.blk 8).fz (1 + k)
  clear hS bk2 HP
  go_wp2_with fail
  refine wp_region_mix [true, true, true, true, true, true, true, true, true, true, true, false] 0 (fun _ => False) (by kernel_rfl) (by decide +kernel) ?_
  simp only [front, back, List.take_succ_cons, List.drop_succ_cons, List.take_zero, List.drop_zero]
  repeat ((first | refine wpFront_idxH (g := hb) (f := 1) (j := k) rfl rfl rfl rfl hk16 ?_ | ((first | refine wpFront_load rfl ?_ | refine wpFront_other rfl ?_); (first | go_big_quiet_step (fail) | quiet_step (fail)); refine wpQuiet_nil ?_)))
  refine wpFront_nil ?_
  simp only [wpSegs]
  go_wp2_with fail
  refine NoPanic.normal ?_
  have hS60 := HS5.out.set 8 (1 + k) (.int .i64 n)
  simp only [Kw.red] at hS60
  have hS70 := (hS60.setRow 3 (v := x.fv) (g := fg) (by rw [Hef.out]; rfl) k (.int .i64 (m.free k - n))).drew
  simp only [Kw.red] at hS70
  have hS6 := hS60.drew
  have c1 := (hS6.blk 1).cell 1
  have HS7 := hid hS70
  have hofr := hS6.own 3
  simp only [List.set_cons_zero, List.set_cons_succ, List.getElem?_cons_zero, List.getElem?_cons_succ] at c1
  rw [Hef.out] at c1 hofr
  have d1 := hofr.cells' (g := fg) rfl (intsC_at (frees_at m hk1))
  have d1z := hofr.fz (g := fg) rfl k
  clear hh0 hhz hS6 hS60 hS70 hofr HS5
  have hfin := hold_fin (x := x) (F0 := F) (w0 := w) (nv := nv) (rv := rv) (hb := hb) Hok2.out (Hjn.out hb) Hfl2.out Hhl2.out Hfilt.out Hmap.out HS7.out
  have HF := hid hfin
  clear hfin HS7
  go_wp2_with fail
  go_ret
  exact ⟨rfl, HF.out⟩
end
end Go.Proofs.YtdjgijndcjbpiaaGreatDoor
