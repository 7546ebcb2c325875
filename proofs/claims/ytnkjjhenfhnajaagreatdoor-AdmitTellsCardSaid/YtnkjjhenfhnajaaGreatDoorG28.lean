/-
  Texts Be Bq Bg Bh in one.
-/
import Derived.Test.YtnkjjhenfhnajaaGreatDoorG27
import Derived.Test.YtnkjjhenfhnajaaGreatDoorG13
import Derived.Laws.StructEq
import Derived.Test.YtnkjjhenfhnajaaGreatDoorG26
/-
  admit.rows and Sure, walked.
-/
namespace Go.Proofs.YtnkjjhenfhnajaaGreatDoor
open Go.RowKit Go.Kw Go.Kreg Go.Tm Go.Ad
set_option linter.unusedSimpArgs false
set_option linter.unusedVariables false

abbrev TCe : Nat := 170
abbrev TCes : Nat := 165
/-- The first k rows of n are laid. -/
def rowsCe (m : TM) (k n : Nat) : List Value := (List.range (n * 256)).map fun i => .int .i64 (if i / 256 < k then m.rowF (i / 256 : Nat) (i % 256) else 0)
theorem rowsCe_len (m : TM) (k n : Nat) : (rowsCe m k n).length = n * 256 := by simp [rowsCe]
theorem rowsCe_get (m : TM) (k n : Nat) {i : Nat} (h : i < n * 256) : (rowsCe m k n)[i]? = some (.int .i64 (if i / 256 < k then m.rowF (i / 256 : Nat) (i % 256) else 0)) := by
  unfold rowsCe; rw [List.getElem?_map, List.getElem?_range h]; rfl
theorem rowsCe_at (m : TM) (n : Nat) {r f : Nat} (hr : r < n) (hf : f < 256) : (rowsCe m n n)[r * 256 + f]? = some (.int .i64 (m.rowF r f)) := by
  rw [rowsCe_get m n n (by omega), show (r * 256 + f) / 256 = r by omega, show (r * 256 + f) % 256 = f by omega, if_pos hr]
theorem rowsCe_zero (m : TM) (n : Nat) : rowsCe m 0 n = List.replicate (n * 256) (.int .i64 0) := by
  refine List.eq_replicate_iff.2 ⟨rowsCe_len m 0 n, fun u hu => ?_⟩
  obtain ⟨i, _, rfl⟩ := List.mem_map.1 hu
  rw [if_neg (by omega)]
set_option maxRecDepth 100000 in
theorem rowsCe_copy {m : TM} (hm : m.Ok) {k n : Nat} (hn : n = m.units.length) (hk : k < n) :
    (rowsCe m k n).take (k * 256) ++ intsC (m.ceilRow k) ++ (rowsCe m k n).drop (k * 256 + (intsC (m.ceilRow k)).length) = rowsCe m (k + 1) n := by
  have hh : m.has k := by unfold TM.has; omega
  have hub := unitsOf_bd hm hh
  have hlen : (intsC (m.ceilRow k)).length = (m.unitsOf k).toNat + 1 := by
    rw [intsC_len]; unfold TM.ceilRow; rw [if_pos hh]; simp
  rw [hlen]
  refine List.ext_getElem? fun i => ?_
  have hl := rowsCe_len m k n
  by_cases h1 : i < k * 256
  · rw [List.append_assoc, List.getElem?_append_left (by rw [List.length_take]; omega), List.getElem?_take, if_pos h1, rowsCe_get m k n (by omega), rowsCe_get m (k + 1) n (by omega), if_pos (by omega), if_pos (by omega)]
  · by_cases h2 : i < k * 256 + ((m.unitsOf k).toNat + 1)
    · rw [List.getElem?_append_left (by rw [List.length_append, List.length_take, hlen]; omega), List.getElem?_append_right (by rw [List.length_take]; omega), List.length_take, hl, Nat.min_eq_left (by omega)]
      rw [rowsCe_get m (k + 1) n (by omega), show i / 256 = k by omega, if_pos (by omega)]
      unfold TM.ceilRow TM.rowF
      rw [if_pos hh, if_pos hh]
      unfold intsC
      rw [List.map_map, List.getElem?_map, List.getElem?_range (by omega), show i - k * 256 = i % 256 by omega]
      rfl
    · rw [List.getElem?_append_right (by rw [List.length_append, List.length_take, hlen]; omega), List.length_append, List.length_take, hlen, hl, Nat.min_eq_left (by omega), List.getElem?_drop, show k * 256 + ((m.unitsOf k).toNat + 1) + (i - (k * 256 + ((m.unitsOf k).toNat + 1))) = i by omega]
      by_cases h3 : i < n * 256
      · rw [rowsCe_get m k n h3, rowsCe_get m (k + 1) n h3]
        by_cases h4 : i / 256 = k
        · rw [if_neg (by omega), if_pos (by omega), h4]
          unfold TM.rowF
          rw [if_pos hh]
          rw [ceil_all hm (by omega) (by omega)]
        · rw [if_neg (by omega), if_neg (by omega)]
      · rw [List.getElem?_eq_none (by omega), List.getElem?_eq_none (by rw [rowsCe_len]; omega)]
theorem infoCe : (Tryz.prog.info? TCe).map (fun i => (i.zero, i.size, i.bytes)) = some (some (.agg (cellsF fun _ => 0).toArray), 256, 2048) := by kernel_rfl
abbrev THit : Nat := 70
theorem sizeHit : (Tryz.prog.info? THit).map (·.size) = some 3 := by kernel_rfl
theorem wpFront_slC {ops : Array Oper} {C : World → Prop} {Lq : Act → Prop} {a : Act} {o : Oper} {rest : List Oper} {x : Operand} {g f : Nat}
    (hgd : o.guard = none) (ho : o.op = .slice TCe x none none none) (hx : a.eval x = .pointer (some ⟨g, f, none⟩))
    (h : wpFront Tryz.prog ops C Lq rest (a.put o.dst (.slice (some ⟨g, f, none⟩) 256 256))) : wpFront Tryz.prog ops C Lq (o :: rest) a := by
  refine wpFront_other (by rw [ho]; rfl) ?_
  refine wpQuiet_step fun K hK => ?_
  have hw : Region.wanted o (yielded ops a.tmps) = true := by unfold Region.wanted; rw [hgd]
  rw [if_pos hw]
  have hal : Tryz.prog.arrayLen TCe = 256 := by kernel_rfl
  have hel : Tryz.prog.elem TCe = 3 := by kernel_rfl
  have hrun : ∀ w, (Instr.sliceAt TCe (.pointer (some ⟨g, f, none⟩)) none none none).run Tryz.prog w = .ok (.slice (some ⟨g, f, none⟩) 256 256) w := fun w => by
    have hz : (Go.sizeOf 3).run Tryz.prog w = .ok 1 w := by
      have hi : (Tryz.prog.info? 3).map (·.size) = some 1 := by kernel_rfl
      cases hq : Tryz.prog.info? 3 with
      | none => simp [hq] at hi
      | some i =>
        simp only [hq, Option.map_some, Option.some.injEq] at hi
        simp [sizeOf, typeInfo, hq, hi]
    rw [run_sliceAt_array_all w TCe _ (by kernel_rfl), hel, hz, hal]
    simp [Result.andThen, slicedAt, add_at]
  refine ⟨.slice (some ⟨g, f, none⟩) 256 256, fun w' hw' => ?_, hK _ h⟩
  unfold Oper.quietAt
  simp [execOp, ho, hx, hrun w', Oper.quietUpon, Result.andThen]
theorem wpList_copyT {P : Program} {w : World} {ops : Array Oper} {rest : List Oper} {op : Oper} {a : Act} {Q : Exit → Act → World → Prop} (d s : Operand) (dT sT elem T : TypeId)
    (hu : P.underlying dT = some (.slice elem)) (hs : (P.info? elem).map (·.size) = some 1) (hgd : op.guard = none) (ho : op.op = .call { callee := .builtin .copy, args := #[d, s], argTypes := #[dT, sT] })
    {b : Nat} {xs : List Value} (hb : Blk w b T xs) (o dLen dCap : Nat) (ad : Addr) (sLen sCap : Nat) (cs : List Value)
    (hd : a.eval d = .slice (some ⟨b, o, none⟩) dLen dCap) (hx : a.eval s = .slice (some ad) sLen sCap) (hn : cs.length = Nat.min sLen dLen)
    (hsrc : ∀ (j : Nat) v, cs[j]? = some v → w.cell? (ad.add j) = some v) (hfit : o + cs.length ≤ xs.length) (h1 : ∀ v ∈ cs, v.oneCell' = true)
    (h : ∀ w', Blk w' b T (xs.take o ++ cs ++ xs.drop (o + cs.length)) → Keeps (fun k => k = b) w w' → wpList P ops Q rest (a.put op.dst (goInt cs.length)) w') : wpList P ops Q (op :: rest) a w := by
  refine wpList_plain hgd fun K hK => ?_
  have hr := run_copy_row (P := P) w dT sT op.type elem b o dLen dCap ad sLen sCap xs.toArray T cs hu hs hb hn hsrc (by simpa using hfit) h1
  simp only [List.toList_toArray] at hr
  unfold Oper.wp execOp
  simp only [ho, resolve, invoke, builtin, Sem.run_bind, Sem.run_pure, Result.andThen_ok, List.map_toArray, List.map_cons, List.map_nil, hd, hx, hr]
  exact hK _ _ (h _ (hb.row _) ((Keeps.refl (fun k => k = b) w).setRow (.inl rfl) _))
theorem made_zero (k : Nat) : (madeCells (Value.agg (cellsF fun _ => 0).toArray).cells (k * 256)).toList = List.replicate (k * 256) (.int .i64 0) := by
  refine List.eq_replicate_iff.2 ⟨by simp [madeCells], fun u hu => ?_⟩
  unfold madeCells at hu
  rw [Array.toList_map, List.mem_map] at hu
  obtain ⟨i, _, rfl⟩ := hu
  have hsz : (Value.agg (cellsF fun _ => 0).toArray).cells.size = 256 := by simp [Value.cells, cellsF_len]
  have hlt : i % 256 < (cellsF fun _ => (0 : Int)).length := by rw [cellsF_len]; omega
  have h1 : (Value.agg (cellsF fun _ => 0).toArray).cells[i % 256]! = (cellsF fun _ => 0)[i % 256]'hlt := by
    show ((cellsF fun _ => 0).toArray)[i % 256]! = _
    rw [getElem!_pos _ _ (by simpa using hlt)]; simp
  show (Value.agg (cellsF fun _ => 0).toArray).cells[i % (Value.agg (cellsF fun _ => 0).toArray).cells.size]! = _
  rw [hsz, h1]
  have h2 := cellsF_at (fun _ => 0) (show i % 256 < 256 by omega)
  exact Option.some.inj ((List.getElem?_eq_getElem hlt).symm.trans h2)
section
variable {w : World} {p : Nat} {m : TM} {x : TabX}
set_option maxRecDepth 100000 in
set_option maxHeartbeats 4000000 in
theorem rows_any (h : TabAt w p m x) : Calls Tryz.prog 100 #[.pointer (some ⟨p, 0, none⟩)] w fun e w' => ∃ lg ug, e = .returned (.tuple #[.slice (some ⟨lg, 0, none⟩) m.units.length m.units.length, .slice (some ⟨ug, 0, none⟩) m.units.length m.units.length]) ∧
    St (fun _ => False) w [.pt lg TCe (rowsCe m m.units.length m.units.length), .pt ug TI' (intsC m.units)] w' := by
  have H := hid h
  have hok := h.tok.ok
  have hul := (begins_units hok.begins).1
  have HU := hid (tunits_any h)
  obtain ⟨n, hn⟩ : ∃ n, m.units.length = n := ⟨_, rfl⟩
  rw [hn] at HU hul ⊢
  have Hn := hid hn
  have Hok := hid hok
  clear h hok hn
  go_enter Tryz.func100, Tryz.ntmps100
  go_wp2_with fail
  refine HU.out.mono ?_; rintro e w1 ⟨ug, rfl, hS⟩
  have HS := hid hS
  clear hS HU
  obtain ⟨i0, hi, hz0, hz1, hz2⟩ := info_parts infoCe
  go_wp2_with (refine wpList_make_full _ rfl _ _ TCes rfl 0 TCe i0 (.agg (cellsF fun _ => 0).toArray) 256 Tryz.underlying165 hi hz0 hz1 .i64 .i64 _ _ n rfl rfl rfl rfl (by rw [hz2]; omega) (by unfold maxLen; omega) (Nat.zero_le _) ?_; intro w2 hO hG)
  have hB : Blk w2 w1.heap.size TCe (rowsCe m 0 n) := by
    have h1 := Own.full hO
    rw [made_zero, ← rowsCe_zero m n] at h1
    exact h1
  have hS2 := HS.out.add ((Keeps.refl _ _).grown hG (fun k hk => by cases hk)) (G := fun b => b = w1.heap.size) (c := .pt w1.heap.size TCe (rowsCe m 0 n)) ⟨hB, fun b => Iff.rfl⟩ (fun b hb => by rw [hb]; exact Nat.le_refl _)
  simp only [Kw.red] at hS2
  have HS2 := hid hS2
  clear hB hO hG hS2 HS hi hz0 hz1 hz2
  generalize w1.heap.size = lg at *
  go_loopw [14] (fun y wr => ∃ k : Nat, k ≤ n ∧ y = .int .i64 k ∧ St (fun _ => False) w [.pt ug TI' (intsC m.units), .pt lg TCe (rowsCe m k n)] wr) (fun y _ => n - (intOf y).toNat)
  case atStart => exact ⟨0, Nat.zero_le _, rfl, HS2.out⟩
  case round =>
    clear HS2
    obtain ⟨k, hk, rfl, hS⟩ := hrel
    by_cases hlt : k < n
    · have a1 : decide (k < n) = true := by simpa using hlt
      have i0 : (0 : Int) ≤ (k : Int) := by omega
      have i1 : (k : Int) < (n : Int) := by omega
      have HSr := hid hS
      have HC := hid (crow_any (H.out.keeps (hS.drew).keeps) k)
      clear hS
      go_wp2_with fail
      refine wp_region_mix [true, true, true, true, true, true, false, false] 1 (fun _ => False) (by kernel_rfl) (by decide +kernel) ?_
      simp only [front, back, List.take_succ_cons, List.take_zero, List.drop_succ_cons, List.drop_zero]
      repeat (first | (refine wpFront_slC (g := lg) (f := k * 256) rfl rfl rfl ?_) | ((first | refine wpFront_load rfl ?_ | refine wpFront_other rfl ?_); (first | go_big_quiet_step (fail) | quiet_step (fail)); refine wpQuiet_nil ?_))
      refine wpFront_nil ?_
      simp only [wpSegs]
      go_wp2_with fail
      refine HC.out.mono ?_; rintro e w3 ⟨lv, rfl, hS3⟩
      have hS4 := HSr.out.drew.adds hS3
      simp only [Kw.red] at hS4
      have hlen : (m.ceilRow k).length = (m.unitsOf k).toNat + 1 := by
        unfold TM.ceilRow; rw [if_pos (show m.has k by unfold TM.has; have := Hn.out; omega)]; simp
      have hub := unitsOf_bd Hok.out (show m.has k by unfold TM.has; have := Hn.out; omega)
      obtain ⟨gr, cr, rfl, -⟩ := (hS4.own 2).form (by omega)
      have hcop := rowsCe_copy Hok.out (k := k) Hn.out.symm hlt
      have hsrc : ∀ (j : Nat) v, (intsC (m.ceilRow k))[j]? = some v → w3.cell? ((⟨gr, 0, none⟩ : Addr).add j) = some v := fun j v hv => by
        rw [add_at, Nat.zero_add]; exact (hS4.own 2).cells' (g := gr) rfl hv
      have hb4 := hS4.blk 1
      have HS4 := hid hS4
      have HCo := hid hcop
      have Hsrc := hid hsrc
      have Hb4 := hid hb4
      have Hlen := hid hlen
      have K3 := hid hS3.keeps
      clear hS3 hS4 hcop hsrc hb4 HC
      go_wp2_with fail
      refine segQ_normal ((Keeps.refl _ _).drew.trans K3.out) ?_
      refine wpList_copyT _ _ 22 22 TI' TCe Tryz.underlying22 (by kernel_rfl) rfl rfl Hb4.out (k * 256) 256 256 ⟨gr, 0, none⟩ ((m.unitsOf k).toNat + 1) cr (intsC (m.ceilRow k)) rfl rfl (by rw [intsC_len, Hlen.out]; show _ = min _ _; omega) Hsrc.out (by rw [rowsCe_len, intsC_len, Hlen.out]; omega) (intsC_one _) ?_
      intro w5 hb5 hk5
      rw [HCo.out] at hb5
      have hS5 := HS4.out.turn 1 (w' := w5) (c := .pt lg TCe (rowsCe m k n)) (c' := .pt lg TCe (rowsCe m (k + 1) n)) rfl (fun F h => ⟨F, ⟨hb5, h.2⟩, ⟨hk5.mono fun b hb => (h.2 b).2 hb, fun _ => .inl⟩⟩)
      simp only [Kw.red] at hS5
      have HS5 := hid (hS5.sub [0, 1])
      clear hS5 hb5 hk5 HS4 HSr
      go_wp2_with fail
      refine NoPanic.normal ?_
      go_wp2_with fail
      go_roundw
      case rel => exact ⟨k + 1, by omega, by go_num, HS5.out⟩
      case measure => simp [intOf]; omega
    · have a1 : decide (k < n) = false := by simpa using hlt
      have hkk : k = n := by omega
      subst hkk
      have HSr := hid hS
      clear hS
      go_wp2_with fail
      go_ret2
      exact ⟨lg, ug, rfl, HSr.out.sub [1, 0]⟩
end
/-- What Sure's closure holds. -/
def sureCs (m : TM) (lev : Int) (lb ab fb hb lg ug : Nat) (l : List (Nat × Sec)) : List Ch :=
  [.pt lb TCes [.slice (some ⟨lg, 0, none⟩) m.units.length m.units.length], .pt ab 22 [.slice (some ⟨ug, 0, none⟩) m.units.length m.units.length], .pt fb 4 [.bool (sureFrom m lev l).2],
    .pt hb 70 [.int .i64 (sureFrom m lev l).1.task, .int .i64 (sureFrom m lev l).1.frm, .int .i64 (sureFrom m lev l).1.upto], .pt lg TCe (rowsCe m m.units.length m.units.length), .pt ug TI' (intsC m.units), .pr (0 ≤ (sureFrom m lev l).1.frm ∧ (sureFrom m lev l).1.frm ≤ (sureFrom m lev l).1.upto ∧ (sureFrom m lev l).1.upto ≤ 4096)]
def sureC (m : TM) (lev : Int) (lb ab fb hb lg ug : Nat) (l : List (Nat × Sec)) : Ch := .stars (sureCs m lev lb ab fb hb lg ug l)
theorem sureFrom_app (m : TM) (lev : Int) (l : List (Nat × Sec)) (p : Nat × Sec) : sureFrom m lev (l ++ [p]) = sureStep m lev (sureFrom m lev l) p := by
  unfold sureFrom; rw [List.foldl_append]; rfl
theorem enter_sure (args : Array Value) (w : World) : (callFunc 102 args).run Tryz.prog w = .ok (.enter 102 args) w := by
  have h1 : (Tryz.f102.name == "runtime.NumGoroutine") = false := by kernel_rfl
  have h2 : Tryz.f102.body.isNone = false := by kernel_rfl
  simp only [beq_eq_false_iff_ne, ne_eq] at h1
  have h3 : ¬ Tryz.f102.body = none := fun e => by rw [e] at h2; simp at h2
  simp [callFunc, go_sem, Tryz.func102, h1, h3]
theorem run_idxC (w : World) (g o : Nat) {j : Nat} (hj : j < 256) : (Instr.indexAt TCe (.pointer (some ⟨g, o, none⟩)) (.int .i64 j)).run Tryz.prog w = .ok (.pointer (some ⟨g, o + j, none⟩)) w := by
  have hal : Tryz.prog.arrayLen TCe = 256 := by kernel_rfl
  have hel : Tryz.prog.elem TCe = 3 := by kernel_rfl
  have hz : (Go.sizeOf 3).run Tryz.prog w = .ok 1 w := by
    have hi : (Tryz.prog.info? 3).map (·.size) = some 1 := by kernel_rfl
    cases hq : Tryz.prog.info? 3 with
    | none => simp [hq] at hi
    | some i =>
      simp only [hq, Option.map_some, Option.some.injEq] at hi
      simp [sizeOf, typeInfo, hq, hi]
  rw [run_indexAt_array w TCe _ _ _ (by kernel_rfl), hal, hel, if_pos ⟨by omega, by omega⟩, hz]
  simp [Result.andThen, add_at]
theorem wpKeep_idxC {ops : Array Oper} {C : World → Prop} {Lq : Act → Prop} {a : Act} {o : Oper} {rest : List Oper} {x ix : Operand} {g f j : Nat}
    (hgd : o.guard = none) (ho : o.op = .indexAddr TCe x ix) (hx : a.eval x = .pointer (some ⟨g, f, none⟩)) (hix : a.eval ix = .int .i64 j) (hj : j < 256)
    (h : wpQuiet Tryz.prog ops C Lq rest (a.put o.dst (.pointer (some ⟨g, f + j, none⟩)))) : wpQuiet Tryz.prog ops C Lq (o :: rest) a := by
  refine wpQuiet_step fun K hK => ?_
  have hw : Region.wanted o (yielded ops a.tmps) = true := by unfold Region.wanted; rw [hgd]
  rw [if_pos hw]
  refine ⟨.pointer (some ⟨g, f + j, none⟩), fun w' hw' => ?_, hK _ h⟩
  unfold Oper.quietAt
  simp [execOp, ho, hx, hix, run_idxC w' g f hj, Oper.quietUpon, Result.andThen]
section
variable {w : World} {F : Nat → Prop} {p : Nat} {m : TM} {x : TabX}
set_option maxRecDepth 100000 in
set_option maxHeartbeats 4000000 in
theorem sureStep_any {lb ab fb hb lg ug : Nat} {l : List (Nat × Sec)} {j : Nat} {t : Task} {s : Sec} {lev : Int} (ht : m.ts[j]? = some t) (hs : s ∈ secsOf t) (h : (sureC m lev lb ab fb hb lg ug l).holds F w) (T : TabAt w p m x) :
    Calls Tryz.prog 102 #[.int .i64 j, secV s, .int .i64 lev, .pointer (some ⟨lb, 0, none⟩), .pointer (some ⟨ab, 0, none⟩), .pointer (some ⟨fb, 0, none⟩), .pointer (some ⟨hb, 0, none⟩)] w fun e w' => e = .returned (.tuple #[]) ∧ St F w [sureC m lev lb ab fb hb lg ug (l ++ [(j, s)])] w' := by
  obtain ⟨hb1, hb2⟩ := lenP_bd T.tok.ok ht hs
  obtain ⟨hh, hd1, hd2⟩ := sec_has T.tok.ok (List.mem_of_getElem? ht) hs
  have hub := unitsOf_bd T.tok.ok hh
  have hS0 := St.of (cs := sureCs m lev lb ab fb hb lg ug l) h
  unfold sureC sureCs
  rw [sureFrom_app]
  unfold sureCs at hS0
  have hpr := hS0.pr 6
  generalize sureFrom m lev l = H at *
  obtain ⟨⟨H0, H1, H2⟩, HF⟩ := H
  obtain ⟨q, hq⟩ := Int.eq_ofNat_of_zero_le hh.1
  have hqn : q < m.units.length := by have := hh.2; omega
  obtain ⟨ix, hix⟩ : ∃ ix : Nat, m.unitsOf s.res - s.held = ix := ⟨(m.unitsOf s.res - s.held).toNat, by omega⟩
  have hix256 : ix < 256 := by omega
  have hrow : m.rowF q ix = m.ceilAt s.res (m.unitsOf s.res - s.held) := by
    unfold TM.rowF TM.ceilAt
    rw [← hq, if_pos hh, if_pos ⟨hh, by omega⟩, hix]
    congr 1; omega
  have hP : sureP m lev s = decide (lev ≤ m.rowF q ix) := by rw [hrow]; rfl
  have hun : m.units[q]? = some (m.unitsOf s.res) := by
    unfold TM.unitsOf
    rw [hq, Int.toNat_natCast, List.getD_eq_getElem?_getD, List.getElem?_eq_getElem hqn]; rfl
  have hrc := rowsCe_at m m.units.length hqn hix256
  have hS1 := hS0.new TSe [.int .i64 (q : Int), .int .i64 s.units, .int .i64 s.held, .int .i64 s.frm, .int .i64 s.upto]
  simp only [Kw.red] at hS1
  have hstp : ∀ r, sureStep m lev (⟨H0, H1, H2⟩, HF) (j, s) = r → (r = if sureP m lev s = true ∧ (HF = false ∨ H2 - H1 < (s.upto : Int) - s.frm) then (⟨j, s.frm, s.upto⟩, true) else (⟨H0, H1, H2⟩, HF)) := fun r hr => by rw [← hr]; rfl
  obtain ⟨R, hR⟩ : ∃ R, sureStep m lev (⟨H0, H1, H2⟩, HF) (j, s) = R := ⟨_, rfl⟩
  have hRR := hstp R hR
  rw [hR]
  rw [hP] at hRR
  generalize m.unitsOf s.res = UN at *
  generalize hCE : m.rowF q ix = CE at *
  generalize hnn : m.units.length = n at *
  have a0 := (hS1.blk 0).cell 0
  have a1 := (hS1.blk 1).cell 0
  have a2 := (hS1.blk 2).cell 0
  have a3 := (hS1.blk 3).cell 0
  have a4 := (hS1.blk 3).cell 1
  have a5 := (hS1.blk 3).cell 2
  have a6 := (hS1.blk 4).at hrc
  have a7 := (hS1.blk 5).at (intsC_at hun)
  have b0 := (hS1.blk 7).cell 0
  have b2 := (hS1.blk 7).cell 2
  have b3 := (hS1.blk 7).cell 3
  have b4 := (hS1.blk 7).cell 4
  simp only [List.getElem?_cons_zero, List.getElem?_cons_succ] at a0 a1 a2 a3 a4 a5 b0 b2 b3 b4
  have i0 : (0 : Int) ≤ (q : Int) := by omega
  have i1 : (q : Int) < (n : Int) := by omega
  have HS1 := hid hS1
  have Hix := hid hix
  obtain ⟨p1, p2, p3⟩ := hpr
  unfold secV
  rw [hq]
  clear hS0 hS1 h T hrow hP hun hrc hstp hR hix hh hq
  by_cases hc : lev ≤ CE
  · have c0 : decide (lev ≤ CE) = true := by simpa using hc
    rw [c0] at hRR
    cases HF with
    | false =>
      rw [if_pos ⟨rfl, .inl rfl⟩] at hRR
      subst hRR
      simp only
      go_enter Tryz.func102, Tryz.ntmps102
      go_wp2_with fail
      generalize hwx : w.alloc (.cells #[.int .i64 (q : Int), .int .i64 s.units, .int .i64 s.held, .int .i64 s.frm, .int .i64 s.upto] TSe) = wx at *
      refine wp_region_keep (by kernel_rfl) (by kernel_rfl) ?_
      repeat (first | go_big_quiet_skip | (refine wpKeep_idxC (g := lg) (f := q * 256) (j := ix) rfl rfl rfl (by rw [← Hix.out]; rfl) hix256 ?_) | ((first | refine wpKeep_load rfl ?_ | refine wpKeep_other rfl ?_); (first | go_big_quiet_step (fail) | quiet_step (fail)); refine wpQuiet_nil ?_; refine Shut.mk ?_) | (refine wpQuiet_step (fun K hK => ?_); go_simp; first | (refine hK _ ?_; clear hK K) | (apply Exists.intro; refine ⟨fun w9 k9 => ?_, hK _ ?_⟩; (fail); clear hK K)))
      refine wpQuiet_nil ?_
      intro w9 k9
      have HS2 := hid (HS1.out.step k9)
      have b3 := cellIn k9 b3
      have b4 := cellIn k9 b4
      clear HS1 k9
      go_wp2_with (refine wpList_storeS 3 THit _ _ rfl rfl [.int .i64 j, .int .i64 s.frm, .int .i64 s.upto] HS2.out rfl rfl rfl sizeHit rfl (by intro u hu; simp only [List.mem_cons, List.not_mem_nil, or_false] at hu; rcases hu with rfl | rfl | rfl <;> rfl) ?_; intro w3 hS3; have f0 := (hS3.blk 2).cell 0; have fz := (hS3.blk 2).fz 0; simp only [List.getElem?_cons_zero] at f0)
      go_end0
      refine ⟨rfl, ?_⟩
      have h4 := hS3.set 2 0 (.bool true)
      simp only [Kw.red] at h4
      have h5 := h4.add (Keeps.refl (fun _ => False) _) (G := fun _ => False) (c := .pr (0 ≤ (s.frm : Int) ∧ (s.frm : Int) ≤ s.upto ∧ (s.upto : Int) ≤ 4096)) ⟨⟨by omega, by omega, by omega⟩, fun b => id⟩ (fun b hb => hb.elim)
      simp only [Kw.red] at h5
      exact (h5.fold [0, 1, 2, 3, 4, 5, 8] (.stars [.pt lb TCes [.slice (some ⟨lg, 0, none⟩) n n], .pt ab 22 [.slice (some ⟨ug, 0, none⟩) n n], .pt fb 4 [.bool true], .pt hb 70 [.int .i64 j, .int .i64 s.frm, .int .i64 s.upto], .pt lg TCe (rowsCe m n n), .pt ug TI' (intsC m.units), .pr (0 ≤ (s.frm : Int) ∧ (s.frm : Int) ≤ s.upto ∧ (s.upto : Int) ≤ 4096)]) (fun F h => h)).sub [0]
    | true =>
      by_cases hl : H2 - H1 < (s.upto : Int) - s.frm
      · have c1 : decide (H2 - H1 < (s.upto : Int) - s.frm) = true := by simpa using hl
        rw [if_pos ⟨rfl, .inr hl⟩] at hRR
        subst hRR
        simp only
        clear hl
        go_enter Tryz.func102, Tryz.ntmps102
        go_wp2_with fail
        generalize hwx : w.alloc (.cells #[.int .i64 (q : Int), .int .i64 s.units, .int .i64 s.held, .int .i64 s.frm, .int .i64 s.upto] TSe) = wx at *
        refine wp_region_keep (by kernel_rfl) (by kernel_rfl) ?_
        repeat (first | go_big_quiet_skip | (refine wpKeep_idxC (g := lg) (f := q * 256) (j := ix) rfl rfl rfl (by rw [← Hix.out]; rfl) hix256 ?_) | ((first | refine wpKeep_load rfl ?_ | refine wpKeep_other rfl ?_); (first | go_big_quiet_step (fail) | quiet_step (fail)); refine wpQuiet_nil ?_; refine Shut.mk ?_) | (refine wpQuiet_step (fun K hK => ?_); go_simp; first | (refine hK _ ?_; clear hK K) | (apply Exists.intro; refine ⟨fun w9 k9 => ?_, hK _ ?_⟩; (fail); clear hK K)))
        refine wpQuiet_nil ?_
        intro w9 k9
        have HS2 := hid (HS1.out.step k9)
        have b3 := cellIn k9 b3
        have b4 := cellIn k9 b4
        clear HS1 k9
        go_wp2_with (refine wpList_storeS 3 THit _ _ rfl rfl [.int .i64 j, .int .i64 s.frm, .int .i64 s.upto] HS2.out rfl rfl rfl sizeHit rfl (by intro u hu; simp only [List.mem_cons, List.not_mem_nil, or_false] at hu; rcases hu with rfl | rfl | rfl <;> rfl) ?_; intro w3 hS3; have f0 := (hS3.blk 2).cell 0; have fz := (hS3.blk 2).fz 0; simp only [List.getElem?_cons_zero] at f0)
        go_end0
        refine ⟨rfl, ?_⟩
        have h4 := hS3.set 2 0 (.bool true)
        simp only [Kw.red] at h4
        have h5 := h4.add (Keeps.refl (fun _ => False) _) (G := fun _ => False) (c := .pr (0 ≤ (s.frm : Int) ∧ (s.frm : Int) ≤ s.upto ∧ (s.upto : Int) ≤ 4096)) ⟨⟨by omega, by omega, by omega⟩, fun b => id⟩ (fun b hb => hb.elim)
        simp only [Kw.red] at h5
        exact (h5.fold [0, 1, 2, 3, 4, 5, 8] (.stars [.pt lb TCes [.slice (some ⟨lg, 0, none⟩) n n], .pt ab 22 [.slice (some ⟨ug, 0, none⟩) n n], .pt fb 4 [.bool true], .pt hb 70 [.int .i64 j, .int .i64 s.frm, .int .i64 s.upto], .pt lg TCe (rowsCe m n n), .pt ug TI' (intsC m.units), .pr (0 ≤ (s.frm : Int) ∧ (s.frm : Int) ≤ s.upto ∧ (s.upto : Int) ≤ 4096)]) (fun F h => h)).sub [0]
      · have c1 : decide (H2 - H1 < (s.upto : Int) - s.frm) = false := by simpa using hl
        rw [if_neg (fun e => e.2.elim (fun e => by cases e) hl)] at hRR
        subst hRR
        simp only
        clear hl
        go_enter Tryz.func102, Tryz.ntmps102
        have HSz := hid ((HS1.out.fold [0, 1, 2, 3, 4, 5, 6] (.stars [.pt lb TCes [.slice (some ⟨lg, 0, none⟩) n n], .pt ab 22 [.slice (some ⟨ug, 0, none⟩) n n], .pt fb 4 [.bool true], .pt hb 70 [.int .i64 H0, .int .i64 H1, .int .i64 H2], .pt lg TCe (rowsCe m n n), .pt ug TI' (intsC m.units), .pr (0 ≤ H1 ∧ H1 ≤ H2 ∧ H2 ≤ 4096)]) (fun F h => h)).sub [0])
        go_wp2_with fail
        generalize hwx : w.alloc (.cells #[.int .i64 (q : Int), .int .i64 s.units, .int .i64 s.held, .int .i64 s.frm, .int .i64 s.upto] TSe) = wx at *
        refine wp_region_keep (by kernel_rfl) (by kernel_rfl) ?_
        repeat (first | go_big_quiet_skip | (refine wpKeep_idxC (g := lg) (f := q * 256) (j := ix) rfl rfl rfl (by rw [← Hix.out]; rfl) hix256 ?_) | ((first | refine wpKeep_load rfl ?_ | refine wpKeep_other rfl ?_); (first | go_big_quiet_step (fail) | quiet_step (fail)); refine wpQuiet_nil ?_; refine Shut.mk ?_) | (refine wpQuiet_step (fun K hK => ?_); go_simp; first | (refine hK _ ?_; clear hK K) | (apply Exists.intro; refine ⟨fun w9 k9 => ?_, hK _ ?_⟩; (fail); clear hK K)))
        refine wpQuiet_nil ?_
        intro w9 k9
        go_wp2_with fail
        go_end0
        exact ⟨rfl, HSz.out.step k9⟩
  · have c0 : decide (lev ≤ CE) = false := by simpa using hc
    rw [c0, if_neg (fun e => by cases e.1)] at hRR
    subst hRR
    simp only
    clear hc
    go_enter Tryz.func102, Tryz.ntmps102
    have HSz := hid ((HS1.out.fold [0, 1, 2, 3, 4, 5, 6] (.stars [.pt lb TCes [.slice (some ⟨lg, 0, none⟩) n n], .pt ab 22 [.slice (some ⟨ug, 0, none⟩) n n], .pt fb 4 [.bool HF], .pt hb 70 [.int .i64 H0, .int .i64 H1, .int .i64 H2], .pt lg TCe (rowsCe m n n), .pt ug TI' (intsC m.units), .pr (0 ≤ H1 ∧ H1 ≤ H2 ∧ H2 ≤ 4096)]) (fun F h => h)).sub [0])
    go_wp2_with fail
    generalize hwx : w.alloc (.cells #[.int .i64 (q : Int), .int .i64 s.units, .int .i64 s.held, .int .i64 s.frm, .int .i64 s.upto] TSe) = wx at *
    refine wp_region_keep (by kernel_rfl) (by kernel_rfl) ?_
    repeat (first | go_big_quiet_skip | (refine wpKeep_idxC (g := lg) (f := q * 256) (j := ix) rfl rfl rfl (by rw [← Hix.out]; rfl) hix256 ?_) | ((first | refine wpKeep_load rfl ?_ | refine wpKeep_other rfl ?_); (first | go_big_quiet_step (fail) | quiet_step (fail)); refine wpQuiet_nil ?_; refine Shut.mk ?_) | (refine wpQuiet_step (fun K hK => ?_); go_simp; first | (refine hK _ ?_; clear hK K) | (apply Exists.intro; refine ⟨fun w9 k9 => ?_, hK _ ?_⟩; (fail); clear hK K)))
    refine wpQuiet_nil ?_
    intro w9 k9
    go_wp2_with fail
    go_end0
    exact ⟨rfl, HSz.out.step k9⟩
end
theorem sure_eq (m : TM) (id : Int) : sure m id = sureFrom m ((levAt m.ts id).getD 0) (lowsId m.ts id) := by
  unfold sure sureL lowsId
  cases levAt m.ts id <;> rfl
abbrev zHit : List Value := [.int .i64 0, .int .i64 0, .int .i64 0]
def sureC2 (m : TM) (lev : Int) (r4 lb ab fb hb lg ug : Nat) (l : List (Nat × Sec)) : Ch := .stars [.pt r4 THit zHit, sureC m lev lb ab fb hb lg ug l]
theorem sureStep2 {w : World} {F : Nat → Prop} {p : Nat} {m : TM} {x : TabX} {r4 lb ab fb hb lg ug : Nat} {l : List (Nat × Sec)} {j : Nat} {t : Task} {s : Sec} {lev : Int} (ht : m.ts[j]? = some t) (hs : s ∈ secsOf t) (h : (sureC2 m lev r4 lb ab fb hb lg ug l).holds F w) (T : TabAt w p m x) :
    Calls Tryz.prog 102 #[.int .i64 j, secV s, .int .i64 lev, .pointer (some ⟨lb, 0, none⟩), .pointer (some ⟨ab, 0, none⟩), .pointer (some ⟨fb, 0, none⟩), .pointer (some ⟨hb, 0, none⟩)] w fun e w' => e = .returned (.tuple #[]) ∧ St F w [sureC2 m lev r4 lb ab fb hb lg ug (l ++ [(j, s)])] w' := by
  have hS := St.of (cs := [.pt r4 THit zHit, sureC m lev lb ab fb hb lg ug l]) h
  obtain ⟨F1, h1, _, _, back⟩ := hS.sel [1]
  refine (sureStep_any ht hs (Sts.of_one h1) T).mono ?_
  rintro e w' ⟨rfl, hS'⟩
  have h2 := back hS'
  simp only [Kw.red] at h2
  exact ⟨rfl, (h2.fold [0, 1] (sureC2 m lev r4 lb ab fb hb lg ug (l ++ [(j, s)])) (fun F h => h)).sub [0]⟩
section
variable {w : World} {p : Nat} {m : TM} {x : TabX}
set_option maxRecDepth 100000 in
theorem sure_nil (w : World) (id : Int) : Calls Tryz.prog 30 #[.pointer none, .int .i64 id] w fun e w' => e = .returned (.tuple #[.agg #[.int .i64 0, .int .i64 0, .int .i64 0], .bool false]) ∧ Keeps (fun _ => False) w w' := by
  have hS := (((St.start w).new THit zHit).new THit zHit).new 4 [.bool false]
  simp only [World.size_alloc] at hS
  simp only [Kw.red] at hS
  have HS := hid hS
  clear hS
  go_enter Tryz.func30, Tryz.ntmps30
  go_wp2_with (refine wpList_storeS 0 THit _ _ rfl rfl zHit HS.out rfl rfl rfl sizeHit rfl (by decide) ?_; intro w9 hS9; have g0 := (hS9.blk 0).cell 0; have g1 := (hS9.blk 0).cell 1; have g2 := (hS9.blk 0).cell 2; simp only [List.getElem?_cons_zero, List.getElem?_cons_succ] at g0 g1 g2)
  refine bodyPost_ret (v := .tuple #[.agg #[.int .i64 0, .int .i64 0, .int .i64 0], .bool false]) (by simp [results, Tryz.results30, go_sem, g0, g1, g2]) rfl ?_
  exact ⟨rfl, hS9.keeps⟩
set_option maxRecDepth 100000 in
set_option maxHeartbeats 4000000 in
theorem sure_any (h : TabAt w p m x) (id : Int) : Calls Tryz.prog 30 #[.pointer (some ⟨p, 0, none⟩), .int .i64 id] w fun e w' => e = .returned (.tuple #[.agg #[.int .i64 (sure m id).1.task, .int .i64 (sure m id).1.frm, .int .i64 (sure m id).1.upto], .bool (sure m id).2]) ∧ Keeps (fun _ => False) w w' := by
  rw [sure_eq]
  obtain ⟨lev, hlev⟩ : ∃ lev, (levAt m.ts id).getD 0 = lev := ⟨_, rfl⟩
  rw [hlev]
  obtain ⟨R, hR0⟩ : ∃ R, sureFrom m lev (lowsId m.ts id) = R := ⟨_, rfl⟩
  rw [hR0]
  have HR0 := hid hR0
  have hS := (((St.start w).new THit zHit).new THit zHit).new 4 [.bool false]
  simp only [World.size_alloc] at hS
  simp only [Kw.red] at hS
  have HS := hid hS
  have H := hid h
  have HR := hid (rows_any (h.keeps hS.keeps))
  have Hlev := hid hlev
  clear hS hlev h hR0
  go_enter Tryz.func30, Tryz.ntmps30
  go_wp2_with fail
  refine HR.out.mono ?_; rintro e w2 ⟨lg, ug, rfl, hR⟩
  have hS2 := ((HS.out.adds hR).new TCes [.slice (some ⟨lg, 0, none⟩) m.units.length m.units.length]).new 22 [.slice (some ⟨ug, 0, none⟩) m.units.length m.units.length]
  simp only [World.size_alloc] at hS2
  simp only [Kw.red] at hS2
  have hS3 := hS2.add (Keeps.refl (fun _ => False) _) (G := fun _ => False) (c := .pr ((0 : Int) ≤ 0 ∧ (0 : Int) ≤ 0 ∧ (0 : Int) ≤ 4096)) ⟨⟨by omega, by omega, by omega⟩, fun b h => h⟩ (fun b hb => hb.elim)
  simp only [Kw.red] at hS3
  have hS4 := (hS3.fold [5, 6, 2, 1, 3, 4, 7] (sureC m lev w2.heap.size (w2.heap.size + 1) (w.heap.size + 1 + 1) (w.heap.size + 1) lg ug []) (fun F h => h)).sub [0, 5]
  simp only [Kw.red] at hS4
  have hS5 := (hS4.fold [0, 1] (sureC2 m lev w.heap.size w2.heap.size (w2.heap.size + 1) (w.heap.size + 1 + 1) (w.heap.size + 1) lg ug []) (fun F h => h)).sub [0]
  have hL := lower4_any H.out id (sureC2 m lev w.heap.size w2.heap.size (w2.heap.size + 1) (w.heap.size + 1 + 1) (w.heap.size + 1) lg ug) 102 enter_sure (a1 := .pointer (some ⟨w2.heap.size, 0, none⟩)) (a2 := .pointer (some ⟨w2.heap.size + 1, 0, none⟩)) (a3 := .pointer (some ⟨w.heap.size + 1 + 1, 0, none⟩)) (a4 := .pointer (some ⟨w.heap.size + 1, 0, none⟩))
    (fun lev' hl l j t s w F ht hs hc hT => by
      obtain rfl : lev' = lev := by rw [← Hlev.out, hl]; rfl
      exact sureStep2 ht hs hc hT) hS5
  have HL := hid hL
  clear hS2 hS3 hS4 hS5 hL hR HR
  go_wp2_with fail
  refine HL.out.mono ?_; rintro e w3 ⟨rfl, hS6⟩
  obtain ⟨_, hS7⟩ := hS6.opens 0 (fun _ : Unit => [.pt w.heap.size THit zHit, sureC m lev w2.heap.size (w2.heap.size + 1) (w.heap.size + 1 + 1) (w.heap.size + 1) lg ug (lowsId m.ts id)]) (fun F h => ⟨(), h⟩)
  simp only [Kw.red] at hS7
  obtain ⟨_, hS8⟩ := hS7.opens 2 (fun _ : Unit => sureCs m lev w2.heap.size (w2.heap.size + 1) (w.heap.size + 1 + 1) (w.heap.size + 1) lg ug (lowsId m.ts id)) (fun F h => ⟨(), h⟩)
  unfold sureCs at hS8
  simp only [Kw.red] at hS8
  have hS9 := hS8.sub [1, 3, 4, 5, 6, 7, 8]
  simp only [Kw.red] at hS9
  rw [HR0.out] at hS9
  have a3 := (hS9.blk 3).cell 0
  have f0 := (hS9.blk 4).cell 0
  have f1 := (hS9.blk 4).cell 1
  have f2 := (hS9.blk 4).cell 2
  simp only [List.getElem?_cons_zero, List.getElem?_cons_succ] at a3 f0 f1 f2
  have HS9 := hid hS9
  clear hS6 hS7 hS8 hS9 HL HS
  go_wp2_with fail
  obtain ⟨F1, hc1, -, bk1⟩ := HS9.out.at 0 rfl
  have hF1 : ∀ b, F1 b ↔ b = w.heap.size := hc1.2
  have hnF6 : ¬ F1 (w.heap.size + 1) := fun h => by have := (hF1 _).1 h; omega
  have hnF7 : ¬ F1 (w.heap.size + 1 + 1) := fun h => by have := (hF1 _).1 h; omega
  have hbig : St F1 w3 [.pt w.heap.size THit zHit] w3.drew := (St.of (Sts.one hc1)).drew
  have hl6 : w.heap.size + 1 < w3.heap.size := (HS9.out.blk 4).lt
  have hl7 : w.heap.size + 1 + 1 < w3.heap.size := (HS9.out.blk 3).lt
  generalize w.heap.size + 1 + 1 = f7 at *
  generalize w.heap.size + 1 = h6 at *
  generalize w.heap.size = r4 at *
  refine wp_region_mix [true, true, false, false] 1 F1 (by kernel_rfl) (by decide +kernel) ?_
  simp only [front, back, List.take_succ_cons, List.drop_succ_cons, List.take_zero, List.drop_zero]
  refine wpFront_loadRow (cs := #[.int .i64 R.1.task, .int .i64 R.1.frm, .int .i64 R.1.upto]) rfl rfl rfl (fun w' hw' => by obtain ⟨u, rfl⟩ := hw'; exact (ext_block w3 _ u (HS9.out.blk 4).lt hnF6).trans (HS9.out.blk 4)) Tryz.underlying70 rfl sizeHit ?_
  repeat ((first | refine wpFront_load rfl ?_ | refine wpFront_other rfl ?_); (first | go_big_quiet_step (fail) | quiet_step (fail)); refine wpQuiet_nil ?_)
  refine wpFront_nil ?_
  simp only [wpSegs]
  refine wpList_storeS 0 THit _ _ rfl rfl [.int .i64 R.1.task, .int .i64 R.1.frm, .int .i64 R.1.upto] hbig rfl rfl rfl sizeHit rfl (by intro u hu; simp only [List.mem_cons, List.not_mem_nil, or_false] at hu; rcases hu with rfl | rfl | rfl <;> rfl) ?_
  intro w7 hS7
  refine segQ_normal hS7.keeps ?_
  have hS7 := bk1 (post := []) hS7
  simp only [Kw.red] at hS7
  have g0 := (hS7.blk 0).cell 0
  have g1 := (hS7.blk 0).cell 1
  have g2 := (hS7.blk 0).cell 2
  simp only [List.getElem?_cons_zero, List.getElem?_cons_succ] at g0 g1 g2
  go_wp2_with fail
  refine NoPanic.normal ?_
  go_wp2_with fail
  refine bodyPost_ret (v := .tuple #[.agg #[.int .i64 R.1.task, .int .i64 R.1.frm, .int .i64 R.1.upto], .bool R.2]) (by simp [results, Tryz.results30, go_sem, g0, g1, g2]) rfl ?_
  exact ⟨rfl, hS7.keeps⟩
end
end Go.Proofs.YtnkjjhenfhnajaaGreatDoor

/-
  What reads; adding to a table that stands beside others.
-/
namespace Go.Proofs.YtnkjjhenfhnajaaGreatDoor
open Go.RowKit Go.Kw Go.Kreg Go.Tm
set_option linter.unusedSimpArgs false
set_option linter.unusedVariables false

/-- A slice value that reads as these cells, n elements. -/
def RdS (w : World) (v : Value) (n sz : Nat) (cs : List Value) : Prop :=
  ∃ ao c, v = .slice ao n c ∧ n ≤ 9223372036854775807 ∧ cs.length = n * sz ∧ ∀ (j : Nat) u, cs[j]? = some u → ∃ b o, ao = some ⟨b, o, none⟩ ∧ w.cell? ⟨b, o + j, none⟩ = some u
theorem RdS.new {w w' : World} {v : Value} {n sz : Nat} {cs : List Value} (h : RdS w v n sz cs) (hk : Keeps (fun _ => False) w w') : RdS w' v n sz cs := by
  obtain ⟨ao, c, h1, h2, h3, h4⟩ := h
  refine ⟨ao, c, h1, h2, h3, fun j u hj => ?_⟩
  obtain ⟨b, o, e, hc⟩ := h4 j u hj
  exact ⟨b, o, e, cellIn hk hc⟩
theorem RdS.blk {w : World} {b n sz : Nat} {T : TypeId} {cs : List Value} (h : Blk w b T cs) (hn : n ≤ 9223372036854775807) (hl : cs.length = n * sz) : RdS w (.slice (some ⟨b, 0, none⟩) n n) n sz cs :=
  ⟨_, _, rfl, hn, hl, fun j u hj => ⟨b, 0, rfl, by rw [Nat.zero_add]; exact h.at hj⟩⟩
theorem RdS.own {w : World} {T : TypeId} {v : Value} {n sz : Nat} {cs : List Value} (h : Own w T sz v n cs) (hn : n ≤ 9223372036854775807) : RdS w v n sz cs := by
  obtain ⟨ao, c, rfl, _⟩ := h.shape
  refine ⟨ao, c, rfl, hn, h.1, fun j u hj => ?_⟩
  have hpos : 0 < n := by
    rcases Nat.eq_zero_or_pos n with h0 | h0
    · have := (List.getElem?_eq_some_iff.1 hj).1
      rw [h.1, h0, Nat.zero_mul] at this; omega
    · exact h0
  obtain ⟨g, cap, e, _⟩ := h.form hpos
  cases e
  exact ⟨g, 0, rfl, by rw [Nat.zero_add]; exact h.cells' (g := g) rfl hj⟩
theorem addYes {m : TM} {x : Task} (h : m.check x = 0) : m.add x = ((m.ts.length : Int), 0, ⟨m.words, m.units, m.ts ++ [x]⟩) := by
  unfold TM.add; rw [if_neg (by simp [h])]
theorem addSt {W w w0 : World} {F0 : Nat → Prop} {cs : List Ch} {p : Nat} {m m' : TM} {n e : Int} (hG : Glob W) (hS : St F0 w0 (glC W :: tabC p m :: cs) w) (x : Task) {nd : Value} (hv : SlNd w nd x.needs) (hb : big x.frame) (ha : m.add x = (n, e, m')) :
    Calls Tryz.prog 19 #[.pointer (some ⟨p, 0, none⟩), taskV x nd] w fun r w' => r = .returned (.tuple #[.int .i64 n, .int .i64 e]) ∧ St F0 w0 (glC W :: tabC p m' :: cs) w' := by
  obtain ⟨F1, g1, _, _, bk⟩ := hS.sel [0, 1]
  have g2 : Sts [glC W, tabC p m] F1 w := g1
  refine (add_any hG g2 x hv hb).mono fun r w' ⟨h1, h2⟩ => ⟨?_, ?_⟩
  · rw [h1, ha]
  · rw [ha] at h2; exact bk h2
theorem newOk {w w1 : World} {F0 : Nat → Prop} {w0 : World} {words : Int} {us : List Int} (h : begins words us = 0) {cs : List Ch} (hS : St F0 w0 cs w) {e : Ending}
    (hn : (begins words us ≠ 0 ∧ e = .returned (.tuple #[.pointer none, .int .i64 (begins words us)]) ∧ Keeps (fun _ => False) w w1) ∨ (begins words us = 0 ∧ ∃ p, e = .returned (.tuple #[.pointer (some ⟨p, 0, none⟩), .int .i64 0]) ∧ St (fun _ => False) w [tabC p ⟨words, us, []⟩] w1)) :
    ∃ p, e = .returned (.tuple #[.pointer (some ⟨p, 0, none⟩), .int .i64 0]) ∧ St F0 w0 (cs ++ [tabC p ⟨words, us, []⟩]) w1 := by
  rcases hn with ⟨h0, _⟩ | ⟨_, p, he, hS1⟩
  · exact absurd h h0
  · exact ⟨p, he, hS.adds hS1⟩

end Go.Proofs.YtnkjjhenfhnajaaGreatDoor

/-
  keelbook.Same of sections; what is told of no table.
-/
namespace Go.Proofs.YtnkjjhenfhnajaaGreatDoor
open Go.RowKit Go.Kw Go.Kreg Go.Tm Go.Ad
set_option linter.unusedSimpArgs false
set_option linter.unusedVariables false

theorem eqSe (w : World) (x y : Sec) : (Op.equalIn 10000 TSe (.agg #[.int .i64 x.res, .int .i64 x.units, .int .i64 x.held, .int .i64 x.frm, .int .i64 x.upto]) (.agg #[.int .i64 y.res, .int .i64 y.units, .int .i64 y.held, .int .i64 y.frm, .int .i64 y.upto])).run Tryz.prog w = .ok (decide (x = y)) w := by
  have hS : Tryz.prog.underlying TSe = some (.struct (Tryz.prog.fieldsOf TSe)) := by kernel_rfl
  have hp : Tryz.prog.stoodInHeld TSe = false := by kernel_rfl
  rw [show (10000 : Nat) = 9999 + 1 from rfl, run_equalIn_struct w 9999 TSe _ _ hS hp]
  simp only [Program.fieldsOf, Tryz.underlying66]
  obtain ⟨a, b, c, d, e⟩ := x
  obtain ⟨a', b', c', d', e'⟩ := y
  go_simp
  by_cases h1 : a = a' <;> by_cases h2 : b = b' <;> by_cases h3 : c = c' <;> by_cases h4 : d = d' <;> by_cases h5 : e = e' <;> simp [h1, h2, h3, h4, h5] <;> omega
theorem eqHit (w : World) (x y : Hit) : (Op.equalIn 10000 THit (.agg #[.int .i64 x.task, .int .i64 x.frm, .int .i64 x.upto]) (.agg #[.int .i64 y.task, .int .i64 y.frm, .int .i64 y.upto])).run Tryz.prog w = .ok (decide (x = y)) w := by
  have hS : Tryz.prog.underlying THit = some (.struct (Tryz.prog.fieldsOf THit)) := by kernel_rfl
  have hp : Tryz.prog.stoodInHeld THit = false := by kernel_rfl
  rw [show (10000 : Nat) = 9999 + 1 from rfl, run_equalIn_struct w 9999 THit _ _ hS hp]
  simp only [Program.fieldsOf, Tryz.underlying70]
  obtain ⟨a, b, c⟩ := x
  obtain ⟨a', b', c'⟩ := y
  go_simp
  by_cases h1 : a = a' <;> by_cases h2 : b = b' <;> by_cases h3 : c = c' <;> simp [h1, h2, h3]
theorem RdS.vec {w : World} {T : TypeId} {v : Value} {n sz : Nat} {cs : List Value} (h : Vec w T sz v n cs) (hn : n ≤ 9223372036854775807) : RdS w v n sz cs := by
  obtain ⟨ao, c, rfl, _⟩ := h.shape
  refine ⟨ao, c, rfl, hn, h.1, fun j u hj => ?_⟩
  have hpos : 0 < n := by
    rcases Nat.eq_zero_or_pos n with h0 | h0
    · have := (List.getElem?_eq_some_iff.1 hj).1
      rw [h.1, h0, Nat.zero_mul] at this; omega
    · exact h0
  obtain ⟨g, cap, e, _⟩ := h.form hpos
  cases e
  exact ⟨g, 0, rfl, by rw [Nat.zero_add]; exact h.cells' (g := g) rfl hj⟩
section
variable {w : World} {va vb : Value} {xs ys : List Sec}
set_option maxRecDepth 100000 in
set_option maxHeartbeats 2000000 in
theorem sameSe_any (ha : RdS w va xs.length 5 (secsC xs)) (hb : RdS w vb ys.length 5 (secsC ys)) : Calls Tryz.prog 99 #[va, vb] w fun e w' => e = .returned (.bool (decide (xs = ys))) ∧ ∃ n, w' = w.drewN n := by
  obtain ⟨aa, ac, rfl, ha1, -, ha2⟩ := ha
  obtain ⟨ba, bc, rfl, hb1, -, hb2⟩ := hb
  by_cases hl : xs.length ≠ ys.length
  · have b0 : ((xs.length : Int) != (ys.length : Int)) = true := by simp; omega
    have hR : decide (xs = ys) = false := by simp; intro e; exact hl (by rw [e])
    rw [hR]
    clear ha2 hb2 hl hR
    go_enter Tryz.func99, Tryz.ntmps99
    go_wp2_with fail
    go_ret
    exact ⟨rfl, 0, rfl⟩
  · have hl : xs.length = ys.length := by simpa using hl
    have b0 : ((xs.length : Int) != (ys.length : Int)) = false := by simp; omega
    obtain ⟨R, hR⟩ : ∃ R, decide (xs = ys) = R := ⟨_, rfl⟩
    rw [hR]
    have HR := hid hR
    have Ha := hid ha2
    have Hb := hid hb2
    have Hl := hid hl
    clear ha2 hb2 hl hR
    go_enter Tryz.func99, Tryz.ntmps99
    go_wp2_with fail
    go_loopw [5] (fun x wr => ∃ (k : Nat), k ≤ xs.length ∧ x = .int .i64 k ∧ Hid (xs.take k = ys.take k) ∧ ∃ n, wr = w.drewN n) (fun x _ => xs.length - (intOf x).toNat)
    case atStart => exact ⟨0, Nat.zero_le _, rfl, hid rfl, 0, rfl⟩
    case round =>
      obtain ⟨k, hk, rfl, Hq, n, rfl⟩ := hrel
      by_cases hlt : k < xs.length
      · have b1 : decide (k < xs.length) = true := by simpa using hlt
        have hlt2 : k < ys.length := by rw [← Hl.out]; exact hlt
        have hx := List.getElem?_eq_getElem hlt
        have hy := List.getElem?_eq_getElem hlt2
        obtain ⟨x0, x1, x2, x3, x4⟩ := secsC_at hx
        obtain ⟨y0, y1, y2, y3, y4⟩ := secsC_at hy
        obtain ⟨b, o, rfl, c0⟩ := Ha.out _ _ x0
        obtain ⟨_, _, e1, c1⟩ := Ha.out _ _ x1
        cases e1
        obtain ⟨_, _, e1, c2⟩ := Ha.out _ _ x2
        cases e1
        obtain ⟨_, _, e1, c3⟩ := Ha.out _ _ x3
        cases e1
        obtain ⟨_, _, e1, c4⟩ := Ha.out _ _ x4
        cases e1
        obtain ⟨b', o', rfl, d0⟩ := Hb.out _ _ y0
        obtain ⟨_, _, e1, d1⟩ := Hb.out _ _ y1
        cases e1
        obtain ⟨_, _, e1, d2⟩ := Hb.out _ _ y2
        cases e1
        obtain ⟨_, _, e1, d3⟩ := Hb.out _ _ y3
        cases e1
        obtain ⟨_, _, e1, d4⟩ := Hb.out _ _ y4
        cases e1
        simp only [← Nat.add_assoc] at c1 c2 c3 c4 d1 d2 d3 d4
        have Hx := hid hx
        have Hy := hid hy
        generalize xs[k] = x at *
        generalize ys[k] = y at *
        have i0 : (0 : Int) ≤ (k : Int) := by omega
        have i1 : (k : Int) < (xs.length : Int) := by omega
        have i2 : (k : Int) < (ys.length : Int) := by omega
        clear x0 x1 x2 x3 x4 y0 y1 y2 y3 y4 hx hy
        have heq := fun w => eqSe w x y
        by_cases hxy : x = y
        · rw [show decide (x = y) = true by simpa using hxy] at heq
          have Hxy := hid hxy
          clear hxy
          go_wp2_with fail
          go_quiet (fail)
          go_wp2_with fail
          go_roundw
          case rel => exact ⟨k + 1, by omega, by go_num, hid (by rw [List.take_add_one, List.take_add_one, Hx.out, Hy.out, Hq.out, Hxy.out]), _, by first | rfl | exact (World.drewN_drewN ..).symm⟩
          case measure => simp [intOf]; omega
        · rw [show decide (x = y) = false by simpa using hxy] at heq
          have e : R = false := by
            rw [← HR.out, decide_eq_false_iff_not]
            intro e
            have h1 := Hx.out
            rw [e, Hy.out] at h1
            exact hxy (Option.some.inj h1).symm
          subst e
          clear hxy
          go_wp2_with fail
          go_quiet (fail)
          go_wp2_with fail
          go_ret
          exact ⟨rfl, _, World.drewN_drewN ..⟩
      · have b1 : decide (k < xs.length) = false := by simpa using hlt
        have e : R = true := by
          rw [← HR.out, decide_eq_true_eq]
          have := Hq.out
          rw [List.take_of_length_le (by omega), List.take_of_length_le (by rw [← Hl.out]; omega)] at this
          exact this
        subst e
        go_wp2_with fail
        go_ret
        exact ⟨rfl, n, rfl⟩
end
section
variable {w : World} {va vb : Value} {xs ys : List Need}
end
set_option maxRecDepth 100000 in
theorem lower_nil (w : World) (id : Int) (f : Value) : Calls Tryz.prog 101 #[.pointer none, .int .i64 id, f] w fun e w' => e = .returned (.tuple #[]) ∧ Keeps (fun _ => False) w w' := by
  go_enter Tryz.func101, Tryz.ntmps101
  go_wp2_with fail
  refine bodyPost_ret (v := .tuple #[]) (by simp [results, Tryz.results101]) rfl ?_
  exact ⟨rfl, Keeps.refl _ _⟩
set_option maxRecDepth 100000 in
theorem term_nil (w : World) (id : Int) : Calls Tryz.prog 34 #[.pointer none, .int .i64 id] w fun e w' => e = .returned (.int .i64 0) ∧ Keeps (fun _ => False) w w' := by
  have hS := ((St.start w).new 26 [.pointer none]).new TI' [.int .i64 0]
  simp only [World.size_alloc] at hS
  simp only [Kw.red] at hS
  have HS := hid hS
  clear hS
  go_enter Tryz.func34, Tryz.ntmps34
  go_wp2_with fail
  refine (lower_nil _ _ _).mono ?_; rintro e w1 ⟨rfl, k1⟩
  have HS1 := hid (HS.out.step k1)
  have c0 := (HS1.out.blk 1).cell 0
  simp only [List.getElem?_cons_zero] at c0
  clear k1 HS
  go_wp2_with fail
  go_ret
  exact ⟨rfl, HS1.out.keeps⟩
set_option maxRecDepth 100000 in
theorem longest_nil (w : World) (id : Int) : Calls Tryz.prog 36 #[.pointer none, .int .i64 id] w fun e w' => e = .returned (.int .i64 0) ∧ Keeps (fun _ => False) w w' := by
  have hS := (St.start w).new TI' [.int .i64 0]
  simp only [Kw.red] at hS
  have HS := hid hS
  clear hS
  go_enter Tryz.func36, Tryz.ntmps36
  go_wp2_with fail
  refine (lower_nil _ _ _).mono ?_; rintro e w1 ⟨rfl, k1⟩
  have HS1 := hid (HS.out.step k1)
  have c0 := (HS1.out.blk 0).cell 0
  simp only [List.getElem?_cons_zero] at c0
  clear k1 HS
  go_wp2_with fail
  go_ret
  exact ⟨rfl, HS1.out.keeps⟩
set_option maxRecDepth 100000 in
theorem greatest_nil (w : World) : Calls Tryz.prog 38 #[.pointer none] w fun e w' => e = .returned (.int .i64 0) ∧ Keeps (fun _ => False) w w' := by
  go_enter Tryz.func38, Tryz.ntmps38
  go_wp2_with fail
  go_ret
  exact ⟨rfl, Keeps.refl _ _⟩
end Go.Proofs.YtnkjjhenfhnajaaGreatDoor

/-
  AdmitRuns, walked.
-/
namespace Go.Proofs.YtnkjjhenfhnajaaGreatDoor
open Go.RowKit Go.Kw Go.Kreg Go.Tm Go.Ad
set_option linter.unusedSimpArgs false
set_option linter.unusedVariables false
section
variable {W w : World} {F : Nat → Prop}
open AR
set_option maxRecDepth 100000 in
set_option maxHeartbeats 8000000 in
theorem admitruns_any (hG : Glob W) (hg : (glC W).holds F w) : Calls Tryz.prog 42 #[] w fun e w' => e = .returned (.bool true) ∧ Keeps (fun _ => False) w w' := by
  have HSg := hid (St.of (Sts.one hg))
  have Hg := hid hg
  have HN1 := hid (new_any (SlIn.blk (b := w.heap.size) (l := [2, 1]) (Blk.new w TI' [.int .i64 2, .int .i64 1]) (by simp)) 8)
  clear hg
  go_enter Tryz.func42, Tryz.ntmps42
  go_wp2_with fail
  refine HN1.out.mono ?_; rintro e w1 hor
  obtain ⟨p, rfl, hS⟩ := newOk (by decide) (HSg.out.step ((Keeps.refl (fun _ => False) w).alloc (.cells #[.int .i64 2, .int .i64 1] TI'))) hor
  have HS1 := hid (show St F w [glC W, tabC p M0, .pt w1.heap.size TNd (needsC A.needs)] _ from hS.new TNd (needsC A.needs))
  clear hS HN1 HSg hor
  go_wp2_with fail
  refine (addSt hG HS1.out A (SlNd.blk (HS1.out.blk 2) (by decide) (by decide)) (by unfold big A; decide) (addYes c0)).mono ?_; rintro e w2 ⟨rfl, hS⟩
  have HS2 := hid (show St F w [glC W, tabC p M1, .pt w1.heap.size TNd (needsC A.needs), .pt w2.heap.size TNd (needsC B.needs)] _ from hS.new TNd (needsC B.needs))
  clear hS HS1
  go_wp2_with fail
  refine (addSt hG HS2.out B (SlNd.blk (HS2.out.blk 3) (by decide) (by decide)) (by unfold big B; decide) (addYes c1)).mono ?_; rintro e w3 ⟨rfl, hS⟩
  have HS3 := hid (show St F w [glC W, tabC p M2, .pt w1.heap.size TNd (needsC A.needs), .pt w2.heap.size TNd (needsC B.needs), .pt w3.heap.size TNd (needsC C.needs)] _ from hS.new TNd (needsC C.needs))
  clear hS HS2
  go_wp2_with fail
  refine (addSt hG HS3.out C (SlNd.blk (HS3.out.blk 4) (by decide) (by decide)) (by unfold big C; decide) (addYes c2)).mono ?_; rintro e w4 ⟨rfl, hS⟩
  have HS4 := hid hS
  clear hS HS3
  go_wp2_with fail
  refine (addSt hG HS4.out D (SlNd.nil _) (by unfold big D; decide) (addYes c3)).mono ?_; rintro e w5 ⟨rfl, hS⟩
  have HS5 := hid (show St F w [glC W, tabC p M] w5 from hS.sub [0, 1])
  clear hS HS4
  obtain ⟨y, hy⟩ := tab_at 1 HS5.out
  have Hy := hid hy
  clear hy
  go_wp2_with fail
  have hln := tlen_any Hy.out
  rw [show ((M.ts.length : Nat) : Int) = 4 from rfl] at hln
  refine hln.mono ?_; rintro e w6 ⟨rfl, rfl⟩
  clear hln
  go_wp2_with fail
  have hs0 := sections_any Hy.out 0
  rw [AR.s0] at hs0
  refine hs0.mono ?_; rintro e w6 ⟨v0, rfl, hS6⟩
  obtain ⟨a0, d0, rfl, -⟩ := (hS6.vec 0).shape
  have K6 := hid hS6.keeps
  have hR1 := (RdS.vec (hS6.vec 0) (by decide)).new ((Keeps.refl (fun _ => False) w6).alloc (.cells (secsC [⟨0, 1, 1, 0, 8⟩, ⟨1, 1, 1, 4, 7⟩]).toArray TSe))
  have hR2 : RdS (w6.alloc (.cells (secsC [⟨0, 1, 1, 0, 8⟩, ⟨1, 1, 1, 4, 7⟩]).toArray TSe)) (.slice (some ⟨w6.heap.size, 0, none⟩) 2 2) 2 5 (secsC [⟨0, 1, 1, 0, 8⟩, ⟨1, 1, 1, 4, 7⟩]) := RdS.blk (Blk.new w6 TSe _) (by decide) rfl
  have hsm := sameSe_any (xs := [⟨0, 1, 1, 0, 8⟩, ⟨1, 1, 1, 4, 7⟩]) (ys := [⟨0, 1, 1, 0, 8⟩, ⟨1, 1, 1, 4, 7⟩]) hR1 hR2
  rw [show decide (([⟨0, 1, 1, 0, 8⟩, ⟨1, 1, 1, 4, 7⟩] : List Sec) = [⟨0, 1, 1, 0, 8⟩, ⟨1, 1, 1, 4, 7⟩]) = true from rfl] at hsm
  have HSm := hid hsm
  clear hs0 hS6 hR1 hR2 hsm
  go_wp2_with fail
  refine HSm.out.mono ?_; rintro e w7 ⟨rfl, nq, hw7⟩
  have K7 := hid (show Keeps (fun _ => False) w5 w7 by rw [hw7]; exact (K6.out.alloc _).drewN nq)
  clear hw7 HSm K6
  go_wp2_with fail
  have hc := cost_any (Hy.out.keeps K7.out) 0
  rw [show cost M.ts 0 = 10 from AR.k0] at hc
  refine hc.mono ?_; rintro e w8 ⟨rfl, k⟩
  have K8 := hid (K7.out.trans k)
  clear hc k K7
  go_wp2_with fail
  have hs0 := sections_any (Hy.out.keeps K8.out) 1
  rw [AR.s1] at hs0
  refine hs0.mono ?_; rintro e w9 ⟨v0, rfl, hS6⟩
  obtain ⟨a0, d0, rfl, -⟩ := (hS6.vec 0).shape
  have K9 := hid (K8.out.trans hS6.keeps)
  have hR1 := (RdS.vec (hS6.vec 0) (by decide)).new ((Keeps.refl (fun _ => False) w9).alloc (.cells (secsC [⟨1, 1, 1, 0, 1⟩]).toArray TSe))
  have hR2 : RdS (w9.alloc (.cells (secsC [⟨1, 1, 1, 0, 1⟩]).toArray TSe)) (.slice (some ⟨w9.heap.size, 0, none⟩) 1 1) 1 5 (secsC [⟨1, 1, 1, 0, 1⟩]) := RdS.blk (Blk.new w9 TSe _) (by decide) rfl
  have hsm := sameSe_any (xs := [⟨1, 1, 1, 0, 1⟩]) (ys := [⟨1, 1, 1, 0, 1⟩]) hR1 hR2
  rw [show decide (([⟨1, 1, 1, 0, 1⟩] : List Sec) = [⟨1, 1, 1, 0, 1⟩]) = true from rfl] at hsm
  have HSm := hid hsm
  clear hs0 hS6 hR1 hR2 hsm K8
  go_wp2_with fail
  refine HSm.out.mono ?_; rintro e w10 ⟨rfl, nq2, hw7⟩
  have K10 := hid (show Keeps (fun _ => False) w5 w10 by rw [hw7]; exact (K9.out.alloc _).drewN nq2)
  clear hw7 HSm K9
  go_wp2_with fail
  have hu := sure_any (Hy.out.keeps K10.out) 1
  simp only [AR.u1] at hu
  refine hu.mono ?_; rintro e w11 ⟨rfl, k⟩
  have HT1 := hid (((St.start w5).step (K10.out.trans k)).new THit [.int .i64 0, .int .i64 0, .int .i64 8])
  clear hu k
  go_wp2_with fail
  have hu := sure_any (Hy.out.keeps HT1.out.keeps) 2
  simp only [AR.u2] at hu
  refine hu.mono ?_; rintro e w12 ⟨rfl, k⟩
  have HT2 := hid ((HT1.out.step k).new THit [.int .i64 0, .int .i64 0, .int .i64 8])
  clear hu k HT1
  go_wp2_with fail
  have hu := sure_any (Hy.out.keeps HT2.out.keeps) 0
  simp only [AR.u0] at hu
  refine hu.mono ?_; rintro e w13 ⟨rfl, k⟩
  have HT3 := hid ((HT2.out.step k).new THit [.int .i64 0, .int .i64 0, .int .i64 0])
  clear hu k HT2
  go_wp2_with fail
  generalize w11.heap.size = b1 at *
  generalize w12.heap.size = b2 at *
  generalize w13.heap.size = b3 at *
  generalize hwa : w13.alloc (.cells #[.int .i64 0, .int .i64 0, .int .i64 0] THit) = w14 at *
  have K14 := hid HT3.out.keeps
  have hy := Hy.out.keeps K14.out
  have Hz := hid hy
  have x0 := (HT3.out.blk 0).cell 0
  have x1 := (HT3.out.blk 0).cell 1
  have x2 := (HT3.out.blk 0).cell 2
  have y0 := (HT3.out.blk 1).cell 0
  have y1 := (HT3.out.blk 1).cell 1
  have y2 := (HT3.out.blk 1).cell 2
  simp only [List.getElem?_cons_zero, List.getElem?_cons_succ] at x0 x1 x2 y0 y1 y2
  have X0 := hid x0
  have X1 := hid x1
  have X2 := hid x2
  have Y0 := hid y0
  have Y1 := hid y1
  have Y2 := hid y2
  have KA := hid (Keeps.refl (fun _ => False) w14)
  clear hwa hy x0 x1 x2 y0 y1 y2
  have heq : ∀ w, (Op.equalIn 10000 THit (.agg #[.int .i64 0, .int .i64 0, .int .i64 8]) (.agg #[.int .i64 0, .int .i64 0, .int .i64 8])).run Tryz.prog w = .ok true w := fun w => eqHit w ⟨0, 0, 8⟩ ⟨0, 0, 8⟩
  have heqn := hid heq
  clear heq
  have hc := term_any (Hz.out.keeps KA.out) 0
  rw [show term M 0 = 0 from AR.t0] at hc
  refine hc.mono ?_; rintro e w15 ⟨rfl, k⟩
  have K15 := hid (KA.out.trans k)
  clear hc k KA
  go_wp2_with fail
  have hc := term_any (Hz.out.keeps K15.out) 1
  rw [show term M 1 = 8 from AR.t1] at hc
  refine hc.mono ?_; rintro e w16 ⟨rfl, k⟩
  have K16 := hid (K15.out.trans k)
  clear hc k K15
  go_wp2_with fail
  have hc := term_any (Hz.out.keeps K16.out) 2
  rw [show term M 2 = 8 from AR.t2] at hc
  refine hc.mono ?_; rintro e w17 ⟨rfl, k⟩
  have K17 := hid (K16.out.trans k)
  clear hc k K16
  go_wp2_with fail
  have hc := term_any (Hz.out.keeps K17.out) 3
  rw [show term M 3 = 8 from AR.t3] at hc
  refine hc.mono ?_; rintro e w18 ⟨rfl, k⟩
  have K18 := hid (K17.out.trans k)
  clear hc k K17
  go_wp2_with fail
  have hc := term_any (Hz.out.keeps K18.out) 9
  rw [AR.t9] at hc
  refine hc.mono ?_; rintro e w19 ⟨rfl, k⟩
  have K19 := hid (K18.out.trans k)
  clear hc k K18
  have x0 := cellIn K19.out X0.out
  have x1 := cellIn K19.out X1.out
  have x2 := cellIn K19.out X2.out
  have y0 := cellIn K19.out Y0.out
  have y1 := cellIn K19.out Y1.out
  have y2 := cellIn K19.out Y2.out
  have heq := heqn.out
  go_wp2_with fail
  clear x0 x1 x2 y0 y1 y2 heq
  have hc := longest_any (Hz.out.keeps K19.out) 1
  rw [show longest M 1 = 8 from AR.l1] at hc
  refine hc.mono ?_; rintro e w20 ⟨rfl, k⟩
  have K20 := hid (K19.out.trans k)
  clear hc k K19
  go_wp2_with fail
  have hc := greatest_any (Hz.out.keeps K20.out)
  rw [AR.g] at hc
  refine hc.mono ?_; rintro e w21 ⟨rfl, k⟩
  have K21 := hid (K14.out.trans (K20.out.trans k))
  clear hc k K20
  go_wp2_with fail
  refine (sure_nil _ _).mono ?_; rintro e w22 ⟨rfl, k⟩
  have K22 := hid ((K21.out.trans k).alloc (.cells #[.int .i64 0, .int .i64 0, .int .i64 0] THit))
  clear k K21
  go_wp2_with fail
  refine (cost_nil _ _).mono ?_; rintro e w23 ⟨rfl, k⟩
  have K23 := hid (K22.out.trans k)
  clear k K22
  go_wp2_with fail
  refine (sections_nil _ _).mono ?_; rintro e w24 ⟨rfl, k⟩
  have K24 := hid (K23.out.trans k)
  clear k K23
  go_wp2_with fail
  refine (term_nil _ _).mono ?_; rintro e w25 ⟨rfl, k⟩
  have K25 := hid (K24.out.trans k)
  clear k K24
  go_wp2_with fail
  refine (longest_nil _ _).mono ?_; rintro e w26 ⟨rfl, k⟩
  have K26 := hid (K25.out.trans k)
  clear k K25
  go_wp2_with fail
  refine (greatest_nil _).mono ?_; rintro e w27 ⟨rfl, k⟩
  have K27 := hid (K26.out.trans k)
  clear k K26
  go_wp2_with fail
  go_ret
  exact ⟨rfl, ((glob_keeps Hg.out HS5.out).1).trans K27.out⟩
end
end Go.Proofs.YtnkjjhenfhnajaaGreatDoor
