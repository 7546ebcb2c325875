/-
  Texts Uz2 Uw2 Uw3 Dd in one.
-/
import Derived.Test.YtnkjjhenfhnajaaGreatDoorG32
import Derived.Test.YtnkjjhenfhnajaaGreatDoorG25
import Derived.Test.YtnkjjhenfhnajaaGreatDoorG01
import Derived.Test.YtnkjjhenfhnajaaGreatDoorG10
import Derived.Deep.DeepAppendRoom
import Derived.Lib.SliceRun
import Derived.Deep.MidRow
/-
  shelf.Stack[api.Lock]: Len, At, Top of a stack that is not empty.
-/
namespace Go.Proofs.YtnkjjhenfhnajaaGreatDoor
open Go.RowKit Go.Kw Go.Kreg Go.Tm Go.Um
set_option linter.unusedSimpArgs false
set_option linter.unusedVariables false

theorem locksC_len (l : List Tkn) : (locksC l).length = l.length * 2 := by
  induction l with
  | nil => rfl
  | cons x l ih => simp only [locksC, List.flatMap_cons, List.length_append, List.length_cons, List.length_nil] at *; omega
theorem locksC_at {l : List Tkn} {i : Nat} {x : Tkn} (h : l[i]? = some x) : (locksC l)[i * 2]? = some (.int .i64 x.res) ∧ (locksC l)[i * 2 + 1]? = some (.int .i64 x.n) := by
  have hs : l = l.take i ++ (x :: l.drop (i + 1)) := by
    have := (List.getElem?_eq_some_iff.1 h)
    rw [← this.2, List.getElem_cons_drop, List.take_append_drop]
  have hl : (locksC (l.take i)).length = i * 2 := by
    rw [locksC_len, List.length_take]; have := (List.getElem?_eq_some_iff.1 h).1; omega
  have e : locksC l = locksC (l.take i) ++ ([.int .i64 x.res, .int .i64 x.n] ++ locksC (l.drop (i + 1))) := by
    conv => lhs; rw [hs]
    simp [locksC]
  rw [e]
  constructor
  all_goals
    rw [List.getElem?_append_right (by omega), hl]
    simp
section
variable {w : World} {p : Nat} {l : List Tkn} {sv : Value}
set_option maxRecDepth 100000 in
theorem klen_any (hc : w.cell? ⟨p, 0, none⟩ = some sv) (ho : Own w TLk 2 sv l.length (locksC l)) : Calls Tryz.prog 120 #[.pointer (some ⟨p, 0, none⟩)] w fun e w' => e = .returned (.int .i64 l.length) ∧ w = w' := by
  obtain ⟨a, c, rfl, -⟩ := ho.shape
  clear ho
  go_enter Tryz.func120, Tryz.ntmps120
  go_wp2_with fail
  go_ret
  exact ⟨rfl, rfl⟩
set_option maxRecDepth 100000 in
set_option maxHeartbeats 1000000 in
theorem kat_in (hc : w.cell? ⟨p, 0, none⟩ = some sv) (ho : Own w TLk 2 sv l.length (locksC l)) {i : Nat} {x : Tkn} (hx : l[i]? = some x) : Calls Tryz.prog 195 #[.pointer (some ⟨p, 0, none⟩), .int .i64 i] w fun e w' => e = .returned (.tuple #[.agg #[.int .i64 x.res, .int .i64 x.n], .bool true]) ∧ Keeps (fun _ => False) w w' := by
  have hlt := (List.getElem?_eq_some_iff.1 hx).1
  obtain ⟨x0, x1⟩ := locksC_at hx
  obtain ⟨g, cap, rfl, -⟩ := ho.form (by omega)
  have d0 := ho.cells' (g := g) rfl x0
  have d1 := ho.cells' (g := g) rfl x1
  have b0 : decide ((i : Int) < 0) = false := decide_eq_false (by omega)
  have b1 : decide ((l.length : Int) ≤ (i : Int)) = false := by simp; omega
  have b2 : decide (l.length ≤ i) = false := by simp; omega
  have i0 : (0 : Int) ≤ (i : Int) := by omega
  have i1 : (i : Int) < (l.length : Int) := by omega
  clear ho hx x0 x1
  go_enter Tryz.func195, Tryz.ntmps195
  go_wp2_with fail
  first
    | (go_ret2; exact ⟨rfl, Keeps.refl _ _⟩)
    | (exact bodyPost_ret (v := .tuple #[.agg #[.int .i64 x.res, .int .i64 x.n], .bool true]) (by simp [results, Tryz.results195, go_sem]) rfl ⟨rfl, ((Keeps.refl _ _).alloc _)⟩)
set_option maxRecDepth 100000 in
theorem ktop_in (hc : w.cell? ⟨p, 0, none⟩ = some sv) (ho : Own w TLk 2 sv l.length (locksC l)) (hl : l.length ≤ 1000000) {x : Tkn} (hx : l[l.length - 1]? = some x) : Calls Tryz.prog 175 #[.pointer (some ⟨p, 0, none⟩)] w fun e w' => e = .returned (.tuple #[.agg #[.int .i64 x.res, .int .i64 x.n], .bool true]) ∧ Keeps (fun _ => False) w w' := by
  have hlt := (List.getElem?_eq_some_iff.1 hx).1
  have hk0 := (Keeps.refl (fun _ => False) w).alloc (.cells #[.int .i64 0, .int .i64 0] TLk)
  have ha := kat_in (cellIn hk0 hc) (ho.keeps hk0 fun _ _ => id) hx
  rw [show ((l.length - 1 : Nat) : Int) = (l.length : Int) - 1 by omega] at ha
  have HA := hid ha
  have HS := hid ((St.start w).new TLk [.int .i64 0, .int .i64 0])
  have sz : (Tryz.prog.info? TLk).map (·.size) = some 2 := by
    obtain ⟨i, hi, h0, h1, h2⟩ := info_parts infoLk
    simp [hi, h1]
  obtain ⟨a, c, rfl, -⟩ := ho.shape
  clear ho hx ha hk0
  go_enter Tryz.func175, Tryz.ntmps175
  go_wp2_with fail
  refine HA.out.mono ?_; rintro e w1 ⟨rfl, k1⟩
  have HS1 := hid (HS.out.step k1)
  clear HS k1
  have e0 : w1.cell? ⟨w.heap.size, 0, none⟩ = some (.int .i64 0) := (HS1.out.blk 0).cell 0
  have e1 : w1.cell? ⟨w.heap.size, 1, none⟩ = some (.int .i64 0) := (HS1.out.blk 0).cell 1
  have ez := (HS1.out.blk 0).fz
  have hS3 := (HS1.out.set 0 0 (.int .i64 x.res)).set 0 1 (.int .i64 x.n)
  simp only [Kw.red] at hS3
  have HS3 := hid hS3
  clear hS3
  go_wp2_with fail
  refine bodyPost_ret (v := .tuple #[.agg #[.int .i64 x.res, .int .i64 x.n], .bool true]) (results_ct Tryz.results175 _ _ w.heap.size TLk #[.int .i64 x.res, .int .i64 x.n] (0, 0) _ rfl (HS3.out.blk 0) Tryz.underlying195 rfl sz) rfl ?_
  exact ⟨rfl, HS3.out.keeps⟩
end
end Go.Proofs.YtnkjjhenfhnajaaGreatDoor

/-
  units.Table.of for a job that holds some locks.
-/
namespace Go.Proofs.YtnkjjhenfhnajaaGreatDoor
open Go.RowKit Go.Kw Go.Kreg Go.Tm Go.Um
set_option linter.unusedSimpArgs false
set_option linter.unusedVariables false

section
variable {w : World} {p : Nat} {m : UM} {x : UX}
set_option maxRecDepth 100000 in
set_option maxHeartbeats 2000000 in
theorem uof_found (h : UAt w p m x) (j : Int) (hf : In.foundAt j x.ns = true) {lv : Value} {L : List Int} (hL : L.length = 16) (hb : Blk w (In.atOf j x.ns) THo (lv :: intsC L)) : Calls Tryz.prog 114 #[.pointer (some ⟨p, 0, none⟩), .int .i64 j] w fun e w' => e = .returned (.agg (intsC L).toArray) ∧ Keeps (fun _ => False) w w' := by
  have hk0 := (Keeps.refl (fun _ => False) w).alloc (.cells z16.toArray THd)
  have HG := hid (hget_any (cellIn hk0 h.c3) (h.jb.keeps hk0 fun _ _ => id) h.jo.1 (by have := h.few; omega) j)
  rw [hf, if_pos rfl] at HG
  have HS := hid ((St.start w).new THd z16)
  have HB := hid (hk0.blk hb id)
  generalize In.atOf j x.ns = ab at *
  have H1 := hid (intsC_one L)
  have HLn := hid (show (intsC L).length = 16 by rw [intsC_len, hL])
  match L, hL with
  | [z0, z1, z2, z3, z4, z5, z6, z7, z8, z9, z10, z11, z12, z13, z14, z15], _ =>
    clear h hf hb hk0
    go_enter Tryz.func114, Tryz.ntmps114
    go_wp2_with fail
    refine HG.out.mono ?_; rintro e w1 ⟨rfl, k1⟩
    have HS1 := hid (HS.out.step k1)
    have hb1 := k1.blk HB.out id
    have d1 : w1.cell? ⟨ab, 1, none⟩ = some (.int .i64 z0) := hb1.cell 1
    have d2 : w1.cell? ⟨ab, 2, none⟩ = some (.int .i64 z1) := hb1.cell 2
    have d3 : w1.cell? ⟨ab, 3, none⟩ = some (.int .i64 z2) := hb1.cell 3
    have d4 : w1.cell? ⟨ab, 4, none⟩ = some (.int .i64 z3) := hb1.cell 4
    have d5 : w1.cell? ⟨ab, 5, none⟩ = some (.int .i64 z4) := hb1.cell 5
    have d6 : w1.cell? ⟨ab, 6, none⟩ = some (.int .i64 z5) := hb1.cell 6
    have d7 : w1.cell? ⟨ab, 7, none⟩ = some (.int .i64 z6) := hb1.cell 7
    have d8 : w1.cell? ⟨ab, 8, none⟩ = some (.int .i64 z7) := hb1.cell 8
    have d9 : w1.cell? ⟨ab, 9, none⟩ = some (.int .i64 z8) := hb1.cell 9
    have d10 : w1.cell? ⟨ab, 10, none⟩ = some (.int .i64 z9) := hb1.cell 10
    have d11 : w1.cell? ⟨ab, 11, none⟩ = some (.int .i64 z10) := hb1.cell 11
    have d12 : w1.cell? ⟨ab, 12, none⟩ = some (.int .i64 z11) := hb1.cell 12
    have d13 : w1.cell? ⟨ab, 13, none⟩ = some (.int .i64 z12) := hb1.cell 13
    have d14 : w1.cell? ⟨ab, 14, none⟩ = some (.int .i64 z13) := hb1.cell 14
    have d15 : w1.cell? ⟨ab, 15, none⟩ = some (.int .i64 z14) := hb1.cell 15
    have d16 : w1.cell? ⟨ab, 16, none⟩ = some (.int .i64 z15) := hb1.cell 16
    clear HS k1 hb1 HB
    go_wp2_with (refine wpList_storeS 0 THd _ _ rfl rfl (intsC [z0, z1, z2, z3, z4, z5, z6, z7, z8, z9, z10, z11, z12, z13, z14, z15]) HS1.out rfl rfl rfl sizeHd rfl H1.out ?_; intro w3 hS3; simp only [Kw.red] at hS3)
    refine bodyPost_ret (v := .agg (intsC [z0, z1, z2, z3, z4, z5, z6, z7, z8, z9, z10, z11, z12, z13, z14, z15]).toArray) (results_c1 Tryz.results114 _ _ w.heap.size THd _ (0, 0) _ rfl (hS3.blk 0) Tryz.underlying183 rfl sizeHd) rfl ?_
    exact ⟨rfl, hS3.keeps⟩
end
section
variable {w : World} {F : Nat → Prop} {p : Nat} {m : UM}
theorem units_open (h : Sts [unitsC p m] F w) : ∃ x, UAt w p m x ∧ St F w [.emp, .pt p TUt [x.uv, x.fv, x.cv, x.jv], .row TI' 1 x.uv m.us.length (intsC m.us), .row TI' 1 x.fv m.us.length (intsC m.frees), .row TI' 1 x.cv m.us.length (intsC m.cs), .row THr 2 x.jv x.ns.length (hrowsC x.ns),
    .stars (x.ns.map fun a => holdC m.l a.1 a.2), .pr (m.Ok ∧ Jobs m.l x.ns)] w := by
  obtain ⟨x, hS⟩ := (St.of h).opens 0 (fun x => unitsCs p m x) (fun F h => h)
  simp only [unitsCs] at hS
  simp only [Kw.red] at hS
  obtain ⟨_, ⟨⟨hok, hjo⟩, -⟩, -⟩ := hS.at 7 rfl
  exact ⟨x, ⟨(hS.blk 1).cell 0, (hS.blk 1).cell 1, hS.own 2, hS.own 3, hok, (hS.blk 1).cell 3, hS.own 5, hjo⟩, hS⟩
theorem found_row {j : Int} {ns : List In.Row} (hf : In.foundAt j ns = true) : ns[In.below j ns]? = some (j, In.atOf j ns) := by
  unfold In.foundAt at hf
  unfold In.atOf
  split at hf
  · rename_i a ha
    rw [ha]
    obtain ⟨b, c⟩ := a
    simp only [decide_eq_true_eq] at hf
    subst hf; rfl
  · cases hf
theorem uof_any (h : Sts [unitsC p m] F w) (j : Int) : Calls Tryz.prog 114 #[.pointer (some ⟨p, 0, none⟩), .int .i64 j] w fun e w' => e = .returned (.agg (intsC (heldL m.l j)).toArray) ∧ Keeps (fun _ => False) w w' := by
  obtain ⟨x, hx, hS⟩ := units_open h
  cases hf : In.foundAt j x.ns with
  | false =>
    have hn : ∀ y ∈ m.l, y.job ≠ j := fun y hy e => by
      have := (hx.jo.found j).2 ⟨y, hy, e⟩
      rw [hf] at this; cases this
    rw [heldL_none hn]
    exact uof_none hx j hf
  | true =>
    have hr := found_row hf
    obtain ⟨G, lv, hh⟩ := hS.elemAt 6 (In.below j x.ns) (ds := x.ns.map fun a => holdC m.l a.1 a.2) (c := holdC m.l j (In.atOf j x.ns)) (by rw [List.getD_eq_getElem?_getD, List.getElem?_map, hr]; rfl)
    have hb := (St.of (cs := holdCs m.l j (In.atOf j x.ns) lv) hh).blk 0
    exact uof_found hx j hf (heldL_len _ _) hb
set_option maxRecDepth 100000 in
set_option maxHeartbeats 4000000 in
theorem ulock_bad (h : Sts [unitsC p m] F w) (j r n need : Int) (he : m.lockErr j r n need ≠ 0) : Calls Tryz.prog 47 #[.pointer (some ⟨p, 0, none⟩), .int .i64 j, .int .i64 r, .int .i64 n, .int .i64 need] w fun e w' => e = .returned (.int .i64 (m.lockErr j r n need)) ∧ Keeps (fun _ => False) w w' := by
  obtain ⟨x, hx, hS⟩ := units_open h
  have HK := hid (uhas_any hx r)
  have HO := hid (uof_any h j)
  have HX := hid hx
  have hok := hx.ok
  have K0 := hid (Keeps.refl (fun _ => False) w)
  clear hS
  by_cases e1 : j < 0
  · have hz : m.lockErr j r n need = 1 := by unfold UM.lockErr; rw [if_pos (.inl e1)]
    have b1 : decide (j < 0) = true := by simpa using e1
    rw [hz]
    clear h hx e1 he hz
    go_enter Tryz.func47, Tryz.ntmps47
    go_wp2_with fail
    go_ret
    exact ⟨rfl, K0.out⟩
  have b1 : decide (j < 0) = false := by simpa using e1
  by_cases e2 : m.has r
  case neg =>
    have hz : m.lockErr j r n need = 1 := by unfold UM.lockErr; rw [if_pos (.inr (.inl e2))]
    rw [decide_eq_false e2] at HK
    rw [hz]
    clear h hx e1 e2 he hz
    go_enter Tryz.func47, Tryz.ntmps47
    go_wp2_with fail
    refine HK.out.mono ?_; rintro e w1 ⟨rfl, rfl⟩
    go_wp2_with fail
    go_ret
    exact ⟨rfl, K0.out⟩
  rw [decide_eq_true e2] at HK
  have e2' := e2
  unfold UM.has at e2'
  obtain ⟨k, rfl⟩ := Int.eq_ofNat_of_zero_le e2'.1
  have hk : k < m.us.length := by omega
  have hk16 : k < 16 := by have := hok.few; omega
  have hf : m.us[k]? = some (m.tot k) := by
    unfold UM.tot
    rw [Int.toNat_natCast, List.getD_eq_getElem?_getD, List.getElem?_eq_getElem hk]; rfl
  have hfree := frees_at m hk
  have c0 := hx.c0
  have c1 := hx.c1
  obtain ⟨g, cap, e, -⟩ := hx.uns.form (by omega)
  obtain ⟨fg, fcap, ef, -⟩ := hx.frs.form (by omega)
  have ho := hx.uns
  have hof := hx.frs
  rw [e] at ho c0
  rw [ef] at hof c1
  have d0 := ho.cells' (g := g) rfl (intsC_at hf)
  have d1 := hof.cells' (g := fg) rfl (intsC_at hfree)
  have D0 := hid d0
  have D1 := hid d1
  have C1 := hid c1
  have i0 : (0 : Int) ≤ (k : Int) := by omega
  have i1 : (k : Int) < (m.us.length : Int) := by omega
  have htb := tot_bd hok e2
  have hhb := held_bd hok j e2
  have hidx := fun w => idxH w (heldL m.l j) (heldL_len _ _) (heldL_at m.l j hk16)
  rw [show sumOf (ofBoth j k) m.l = m.held j k from rfl] at hidx
  by_cases e3 : n < 1
  · have hz : m.lockErr j k n need = 1 := by unfold UM.lockErr; rw [if_pos (.inr (.inr (.inl e3)))]
    have b3 : decide (n < 1) = true := by simpa using e3
    rw [hz]
    clear h hx e1 e2 e2' e3 he hz ho hof e ef hf hfree c1 d1 hidx
    go_enter Tryz.func47, Tryz.ntmps47
    go_wp2_with fail
    refine HK.out.mono ?_; rintro e w1 ⟨rfl, rfl⟩
    go_wp2_with fail
    go_ret
    exact ⟨rfl, K0.out⟩
  have b3 : decide (n < 1) = false := by simpa using e3
  by_cases e4 : m.tot k < n
  · have hz : m.lockErr j k n need = 1 := by unfold UM.lockErr; rw [if_pos (.inr (.inr (.inr e4)))]
    have b4 : decide (m.tot k < n) = true := by simpa using e4
    rw [hz]
    clear h hx e1 e2 e2' e3 e4 he hz ho hof e ef hf hfree c1 d1 hidx
    go_enter Tryz.func47, Tryz.ntmps47
    go_wp2_with fail
    refine HK.out.mono ?_; rintro e w1 ⟨rfl, rfl⟩
    go_wp2_with fail
    go_ret
    exact ⟨rfl, K0.out⟩
  have b4 : decide (m.tot k < n) = false := by simpa using e4
  have hbad : ¬ (j < 0 ∨ ¬ m.has k ∨ n < 1 ∨ m.tot k < n) := by
    rintro (h | h | h | h)
    · exact e1 h
    · exact h e2
    · exact e3 h
    · exact e4 h
  generalize (intsC (heldL m.l j)).toArray = ZA at hidx HO
  by_cases e5 : need < n + m.held j k
  · have hz : m.lockErr j k n need = 22 := by unfold UM.lockErr; rw [if_neg hbad, if_pos e5]
    have b5 : decide (need < n + m.held j k) = true := by simpa using e5
    rw [hz]
    generalize m.held j k = HD at *
    clear h hx e1 e2 e2' e5 he hz ho hof e ef hf hfree c1 d1 hbad
    go_enter Tryz.func47, Tryz.ntmps47
    go_wp2_with fail
    refine HK.out.mono ?_; rintro e w1 ⟨rfl, rfl⟩
    go_wp2_with fail
    refine HO.out.mono ?_; rintro e w1 ⟨rfl, k1⟩
    have K1 := hid k1
    clear k1
    go_wp2_with fail
    go_ret
    exact ⟨rfl, K1.out⟩
  have b5 : decide (need < n + m.held j k) = false := by simpa using e5
  by_cases e6 : m.free k < n
  · have hz : m.lockErr j k n need = 20 := by unfold UM.lockErr; rw [if_neg hbad, if_neg e5, if_pos e6]
    have b6 : decide (m.free k < n) = true := by simpa using e6
    rw [hz]
    generalize m.held j k = HD at *
    generalize m.free k = FR at *
    clear h hx e1 e2 e2' e5 he hz ho hof e ef hf hfree c1 d1 hbad e6
    go_enter Tryz.func47, Tryz.ntmps47
    go_wp2_with fail
    refine HK.out.mono ?_; rintro e w1 ⟨rfl, rfl⟩
    go_wp2_with fail
    refine HO.out.mono ?_; rintro e w1 ⟨rfl, k1⟩
    have K1 := hid k1
    have c1 := cellIn k1 C1.out
    have d1 := cellIn k1 D1.out
    clear k1 c0 d0
    go_wp2_with fail
    go_ret
    exact ⟨rfl, K1.out⟩
  · exact absurd (by unfold UM.lockErr; rw [if_neg hbad, if_neg e5, if_neg e6]) he
end
end Go.Proofs.YtnkjjhenfhnajaaGreatDoor

/-
  units.Table.Lock for a job that holds some; Lock in all cases.
-/
namespace Go.Proofs.YtnkjjhenfhnajaaGreatDoor
open Go.RowKit Go.Kw Go.Kreg Go.Tm Go.Um
set_option linter.unusedSimpArgs false
set_option linter.unusedVariables false

theorem held_set {l l2 : List Tkn} {j : Int} {a : Nat} {ns : List In.Row} {i : Nat} (hr : In.Rise ns) (hi : ns[i]? = some (j, a)) (h2 : ∀ k, k ≠ j → ∀ b, holdC l2 k b = holdC l k b) :
    (ns.map fun a => holdC l a.1 a.2).set i (holdC l2 j a) = ns.map fun a => holdC l2 a.1 a.2 := by
  refine List.ext_getElem? fun q => ?_
  rw [List.getElem?_set, List.getElem?_map, List.getElem?_map, List.length_map]
  have hlt := (List.getElem?_eq_some_iff.1 hi).1
  by_cases hq : i = q
  · subst hq
    rw [if_pos rfl, if_pos hlt, hi]; rfl
  · rw [if_neg hq]
    cases hx : ns[q]? with
    | none => rfl
    | some b =>
      have hne : b.1 ≠ j := by
        have hq2 := (List.getElem?_eq_some_iff.1 hx)
        have hi2 := (List.getElem?_eq_some_iff.1 hi)
        have hp := List.pairwise_iff_getElem.1 hr
        intro e
        rcases Nat.lt_or_ge i q with h | h
        · have := hp i q hi2.1 hq2.1 h
          rw [hi2.2, hq2.2] at this
          simp only at this; omega
        · have := hp q i hq2.1 hi2.1 (by omega)
          rw [hi2.2, hq2.2] at this
          simp only at this; omega
      simp only [Option.map_some]
      rw [h2 b.1 hne]
theorem hold_fin2 {w w0 : World} {F0 : Nat → Prop} {p k : Nat} {m : UM} {x : UX} {j n : Int} {rv : Value} {l2 : List Tkn} (hok : (UM.mk m.us l2 m.cs).Ok) (hjo : Jobs l2 x.ns) (hr : In.Rise x.ns) (hrw : x.ns[In.below j x.ns]? = some (j, In.atOf j x.ns))
    (hfl : (UM.mk m.us l2 m.cs).frees = m.frees.set k (m.free k - n)) (hhl : heldL l2 j = (heldL m.l j).set k (m.held j k + n)) (hfi : l2.filter (ofJob j) = m.l.filter (ofJob j) ++ [⟨j, k, n⟩]) (hot : ∀ i, i ≠ j → ∀ b, holdC l2 i b = holdC m.l i b)
    (hS : St F0 w0 [.emp, .pt p TUt [x.uv, x.fv, x.cv, x.jv], .row TI' 1 x.uv m.us.length (intsC m.us), .row TI' 1 x.fv m.us.length ((intsC m.frees).set k (.int .i64 (m.free k - n))), .row TI' 1 x.cv m.us.length (intsC m.cs),
      .row THr 2 x.jv x.ns.length (hrowsC x.ns), .stars ((x.ns.map fun a => holdC m.l a.1 a.2).set (In.below j x.ns) .emp), .pr (m.Ok ∧ Jobs m.l x.ns), .emp, .pt (In.atOf j x.ns) THo ((rv :: intsC (heldL m.l j)).set (1 + k) (.int .i64 (m.held j k + n))),
      .row TLk 2 rv ((m.l.filter (ofJob j)).length + 1) (locksC (m.l.filter (ofJob j)) ++ [.int .i64 k, .int .i64 n])] w) :
    St F0 w0 [unitsC p ⟨m.us, l2, m.cs⟩] w := by
  have e1 : (rv :: intsC (heldL m.l j)).set (1 + k) (.int .i64 (m.held j k + n)) = rv :: intsC (heldL l2 j) := by
    rw [hhl, intsC_set, Nat.add_comm 1 k, List.set_cons_succ]
  have e2 : locksC (m.l.filter (ofJob j)) ++ [Value.int .i64 k, .int .i64 n] = locksC (l2.filter (ofJob j)) := by rw [hfi, locksC_app]; rfl
  have e3 : (m.l.filter (ofJob j)).length + 1 = (l2.filter (ofJob j)).length := by rw [hfi]; simp
  rw [e1, e2, e3, ← intsC_set, ← hfl] at hS
  have h1 := hS.fold [9, 10] (holdC l2 j (In.atOf j x.ns)) (fun F h => ⟨rv, h⟩)
  have h2 : St F0 w0 [.emp, .pt p TUt [x.uv, x.fv, x.cv, x.jv], .row TI' 1 x.uv m.us.length (intsC m.us), .row TI' 1 x.fv m.us.length (intsC (UM.mk m.us l2 m.cs).frees), .row TI' 1 x.cv m.us.length (intsC m.cs),
      .row THr 2 x.jv x.ns.length (hrowsC x.ns), .stars ((x.ns.map fun a => holdC m.l a.1 a.2).set (In.below j x.ns) .emp), .pr (m.Ok ∧ Jobs m.l x.ns), .emp, holdC l2 j (In.atOf j x.ns), .emp] w := h1
  have h3 := h2.unelem 6 9 (In.below j x.ns) (by decide) set_emp_getD
  simp only [Kw.red] at h3
  rw [List.set_set, held_set hr hrw hot] at h3
  have h5 := h3.imp 7 (c := .pr (m.Ok ∧ Jobs m.l x.ns)) (.pr ((UM.mk m.us l2 m.cs).Ok ∧ Jobs l2 x.ns)) (fun F h => ⟨⟨hok, hjo⟩, h.2⟩)
  have h6 := h5.fold [1, 2, 3, 4, 5, 6, 7] (unitsC p (UM.mk m.us l2 m.cs)) (fun F h => ⟨⟨x.uv, x.fv, x.cv, x.jv, x.ns⟩, h⟩)
  exact h6.sub [1]
section
variable {w : World} {F : Nat → Prop} {p : Nat} {m : UM}
set_option maxRecDepth 100000 in
set_option maxHeartbeats 8000000 in
theorem ulock_old (h : Sts [unitsC p m] F w) (j n need : Int) (k : Nat) (he : m.lockErr j k n need = 0) (hf : ∃ x ∈ m.l, x.job = j) :
    Calls Tryz.prog 47 #[.pointer (some ⟨p, 0, none⟩), .int .i64 j, .int .i64 k, .int .i64 n, .int .i64 need] w fun e w' => e = .returned (.int .i64 0) ∧ St F w [unitsC p ⟨m.us, m.l ++ [⟨j, k, n⟩], m.cs⟩] w' := by
  obtain ⟨x, hx, hS⟩ := units_open h
  have hok := hx.ok
  have hjo := hx.jo
  have hfd : In.foundAt j x.ns = true := (hjo.found j).2 hf
  have hrw := found_row hfd
  have hof := uof_any h j
  have hok2 := lock_ok hok he
  have hjn := hjo.old (r := k) (n := n) hfd
  unfold UM.lockErr at he
  have hh : m.has k := Classical.byContradiction fun hn => by rw [if_pos (.inr (.inl hn))] at he; omega
  have hfree := frees_at m (r := k) (by unfold UM.has at hh; omega)
  have hfb := free_bd hok hh
  have htb := tot_bd hok hh
  have hhb := held_bd hok j hh
  have e1 : ¬ (j < 0) := fun hn => by rw [if_pos (.inl hn)] at he; omega
  have e2 : ¬ (n < 1) := fun hn => by rw [if_pos (.inr (.inr (.inl hn)))] at he; omega
  have e3 : ¬ (m.tot k < n) := fun hn => by rw [if_pos (.inr (.inr (.inr hn)))] at he; omega
  rw [if_neg (by simp [e1, hh, e2, e3])] at he
  have e4 : ¬ (need < n + m.held j k) := fun hn => by rw [if_pos hn] at he; omega
  rw [if_neg e4] at he
  have e5 : ¬ (m.free k < n) := fun hn => by rw [if_pos hn] at he; omega
  clear he
  have hk1 : k < m.us.length := by unfold UM.has at hh; omega
  have hk16 : k < 16 := by have := hok.few; omega
  have htot : m.us[k]? = some (m.tot k) := by
    unfold UM.tot
    rw [Int.toNat_natCast, List.getD_eq_getElem?_getD, List.getElem?_eq_getElem hk1]; rfl
  have hhas := uhas_any hx k
  rw [decide_eq_true hh] at hhas
  have hhl2 := heldL_add m.l j n k
  rw [show sumOf (ofBoth j k) m.l = m.held j k from rfl] at hhl2
  have hfl2 := frees_add m j n k
  have hfree2 : m.tot k - sumOf (ofRes k) m.l - n = m.free k - n := by unfold UM.free; rw [if_pos hh]
  rw [hfree2] at hfl2
  have hfilt : (m.l ++ [(⟨j, k, n⟩ : Tkn)]).filter (ofJob j) = m.l.filter (ofJob j) ++ [⟨j, k, n⟩] := by
    rw [List.filter_append]; simp [ofJob]
  have hlf : (m.l.filter (ofJob j)).length ≤ 4080 := Nat.le_trans (List.length_filter_le _ _) (locks_few hok)
  obtain ⟨ug, uc, eu, -⟩ := hx.uns.form (by omega)
  obtain ⟨fg, fc, ef, -⟩ := hx.frs.form (by omega)
  have c0 := hx.c0
  have c1 := hx.c1
  rw [eu] at c0
  rw [ef] at c1
  have hou := hx.uns
  rw [eu] at hou
  have hofr := hx.frs
  rw [ef] at hofr
  have d0 := hou.cells' (g := ug) rfl (intsC_at htot)
  have d1 := hofr.cells' (g := fg) rfl (intsC_at hfree)
  have i0 : (0 : Int) ≤ (k : Int) := by omega
  have i1 : (k : Int) < (m.us.length : Int) := by omega
  have b1 : decide (j < 0) = false := by simpa using e1
  have b2 : decide (n < 1) = false := by simpa using e2
  have b3 : decide (m.tot k < n) = false := by simpa using e3
  have b4 : decide (need < n + m.held j k) = false := by simpa using e4
  have b5 : decide (m.free k < n) = false := by simpa using e5
  have hidx := fun w => idxH w (heldL m.l j) (heldL_len _ _) (heldL_at m.l j hk16)
  rw [show sumOf (ofBoth j k) m.l = m.held j k from rfl] at hidx
  have hat := heldL_at m.l j hk16
  rw [show sumOf (ofBoth j k) m.l = m.held j k from rfl] at hat
  generalize hZA : (intsC (heldL m.l j)).toArray = ZA at hof hidx
  have hE := hS.elem 6 (In.below j x.ns) (ds := x.ns.map fun a => holdC m.l a.1 a.2) (c := holdC m.l j (In.atOf j x.ns)) (by rw [List.getD_eq_getElem?_getD, List.getElem?_map, hrw]; rfl)
  simp only [Kw.red] at hE
  obtain ⟨lv, hE⟩ := hE.opens 8 (fun lv => holdCs m.l j (In.atOf j x.ns) lv) (fun F h => h)
  simp only [holdCs] at hE
  simp only [Kw.red] at hE
  have hot : ∀ i, i ≠ j → ∀ b, holdC (m.l ++ [⟨j, k, n⟩]) i b = holdC m.l i b := fun i hi b => holdC_other (t := ⟨j, k, n⟩) (fun e => hi e.symm) b
  have HS := hid hE
  have HH := hid hhas
  have HO := hid hof
  have HX := hid hx
  have C0 := hid c0
  have C1 := hid c1
  have D0 := hid d0
  have D1 := hid d1
  have Hfd := hid hfd
  have Hef := hid ef
  have Hjn := hid hjn
  have Hok2 := hid hok2
  have Hfl2 := hid hfl2
  have Hhl2 := hid hhl2
  have Hfilt := hid hfilt
  have Hot := hid hot
  have Hrw := hid hrw
  have Hat := hid hat
  have Hlf := hid hlf
  clear hS hE hhas hof hx hou hofr hjo hfree htot eu ef hf h hjn hok2 hfl2 hhl2 hfilt hfree2 hok hfd hot hrw hat hZA hlf e1 e4 e5
  generalize hHD : m.held j k = HD at *
  have HHD := hid hHD
  clear hHD
  go_enter Tryz.func47, Tryz.ntmps47
  go_wp2_with fail
  refine HH.out.mono ?_; rintro e w1 ⟨rfl, rfl⟩
  go_wp2_with fail
  refine HO.out.mono ?_; rintro e w2 ⟨rfl, k2⟩
  have K2 := hid k2
  clear c0 c1 d0 d1
  have c0 := cellIn k2 C0.out
  have c1 := cellIn k2 C1.out
  have d0 := cellIn k2 D0.out
  have d1 := cellIn k2 D1.out
  clear k2
  go_wp2_with fail
  refine (hget_any (cellIn K2.out HX.out.c3) (HX.out.jb.keeps K2.out fun _ _ => id) HX.out.jo.1 (by have := HX.out.few; omega) j).mono ?_; rintro e w3 ⟨rfl, k3⟩
  rw [Hfd.out, if_pos rfl]
  have HS3 := hid (HS.out.step (K2.out.trans k3))
  clear c0 c1 d0 d1 k3 HS
  generalize hab : In.atOf j x.ns = ab at *
  have Hab := hid hab
  clear hab
  obtain ⟨F2, g2, _, _, bk2⟩ := HS3.out.sel [9, 10]
  have g2' : Sts [.pt ab THo (lv :: intsC (heldL m.l j)), .row TLk 2 lv (m.l.filter (ofJob j)).length (locksC (m.l.filter (ofJob j)))] F2 w3 := g2
  have HP := hid (lockPush_any g2' rfl (by have := Hlf.out; omega) k n)
  clear g2 g2'
  go_wp2_with fail
  refine HP.out.mono ?_; rintro e w5 ⟨rfl, rv, hS⟩
  have hS := bk2 hS
  simp only [Kw.red] at hS
  simp only [List.set_cons_zero] at hS
  have HS5 := hid hS
  have hh0 := (hS.blk 9).at (show (rv :: intsC (heldL m.l j))[1 + k]? = some (.int .i64 HD) by rw [Nat.add_comm]; exact intsC_at Hat.out)
  have hhz := (hS.blk 9).fz (1 + k)
  clear hS bk2 HP
  go_wp2_with fail
  refine wp_region_mix [true, true, true, true, true, true, true, true, true, true, true, false] 0 (fun _ => False) (by kernel_rfl) (by decide +kernel) ?_
  simp only [front, back, List.take_succ_cons, List.drop_succ_cons, List.take_zero, List.drop_zero]
  repeat ((first | refine wpFront_idxH (g := ab) (f := 1) (j := k) rfl rfl rfl rfl hk16 ?_ | ((first | refine wpFront_load rfl ?_ | refine wpFront_other rfl ?_); (first | go_big_quiet_step (fail) | quiet_step (fail)); refine wpQuiet_nil ?_)))
  refine wpFront_nil ?_
  simp only [wpSegs]
  go_wp2_with fail
  refine NoPanic.normal ?_
  have hS60 := HS5.out.set 9 (1 + k) (.int .i64 (HD + n))
  simp only [Kw.red] at hS60
  have hS70 := (hS60.setRow 3 (v := x.fv) (g := fg) (by rw [Hef.out]; rfl) k (.int .i64 (m.free k - n))).drew
  simp only [Kw.red] at hS70
  have hS6 := hS60.drew
  have c1 := (hS6.blk 1).cell 1
  have hofr := hS6.own 3
  simp only [List.set_cons_zero, List.set_cons_succ, List.getElem?_cons_zero, List.getElem?_cons_succ] at c1
  rw [Hef.out] at c1 hofr
  have d1 := hofr.cells' (g := fg) rfl (intsC_at (frees_at m hk1))
  have d1z := hofr.fz (g := fg) rfl k
  have hrw := Hrw.out
  rw [← Hab.out] at hS70 hrw
  obtain rfl := HHD.out
  have hfin := hold_fin2 (x := x) (F0 := F) (w0 := w) Hok2.out Hjn.out HX.out.jo.1 hrw Hfl2.out Hhl2.out Hfilt.out Hot.out hS70
  rw [Hab.out] at hfin
  have HF := hid hfin
  clear hh0 hhz hS6 hS60 hS70 hofr HS5 hfin hrw
  go_wp2_with fail
  go_ret
  exact ⟨rfl, HF.out⟩
theorem ulock_any (h : Sts [unitsC p m] F w) (j r n need : Int) (hnd : need ≤ 9223372036854775807) : Calls Tryz.prog 47 #[.pointer (some ⟨p, 0, none⟩), .int .i64 j, .int .i64 r, .int .i64 n, .int .i64 need] w fun e w' => e = .returned (.int .i64 (m.lockErr j r n need)) ∧ St F w [unitsC p (m.lock j r n need)] w' := by
  by_cases he : m.lockErr j r n need = 0
  · have hr : m.has r := Classical.byContradiction fun hn => by unfold UM.lockErr at he; rw [if_pos (.inr (.inl hn))] at he; omega
    have hr2 := hr
    unfold UM.has at hr2
    obtain ⟨k, rfl⟩ := Int.eq_ofNat_of_zero_le hr2.1
    rw [he, show m.lock j k n need = ⟨m.us, m.l ++ [⟨j, k, n⟩], m.cs⟩ by unfold UM.lock; rw [if_pos he]]
    by_cases hf : ∃ x ∈ m.l, x.job = j
    · exact ulock_old h j n need k he hf
    · exact ulock_new h j n need k he (fun x hx e => hf ⟨x, hx, e⟩) hnd
  · rw [show m.lock j r n need = m by unfold UM.lock; rw [if_neg he]]
    exact (ulock_bad h j r n need he).mono fun e w' ⟨h1, h2⟩ => ⟨h1, (St.of h).step h2⟩
end
end Go.Proofs.YtnkjjhenfhnajaaGreatDoor

/-
  Laws for slices.Delete in place: an append that moves cells within one row, and clear of a row's spare room. No program.
-/
namespace Go
namespace Kw
open Go.RowKit
set_option linter.unusedSimpArgs false
set_option linter.unusedVariables false
section
variable {P : Program} {w w0 : World} {F0 : Nat → Prop} {cs : List Ch}
/-- A row without element number i. -/
def cutOut (sz i : Nat) (xs : List Value) : List Value := xs.take (i * sz) ++ xs.drop ((i + 1) * sz)
theorem cutOut_len {sz i n : Nat} {xs : List Value} (h : xs.length = n * sz) (hi : i < n) : (cutOut sz i xs).length = (n - 1) * sz := by
  unfold cutOut
  have h1 : (i + 1) * sz ≤ n * sz := Nat.mul_le_mul_right _ hi
  have h2 : i * sz ≤ n * sz := Nat.mul_le_mul_right _ (by omega)
  have h3 : (i + 1) * sz = i * sz + sz := by rw [Nat.succ_mul]
  have h4 : (n - 1) * sz + sz = n * sz := by rw [← Nat.succ_mul]; congr 1; omega
  rw [List.length_append, List.length_take, List.length_drop, h]
  omega
/-- 'append(s[:i], s[i+1:]..)' where there is something behind i. -/
theorem wpList_appCut {ops : Array Oper} {rest : List Oper} {o : Oper} {a : Act} {Q : Exit → Act → World → Prop} (k : Nat) (s x : Operand) (t e : TypeId) (z : Value) (size bytes : Nat)
    (hinfo : (P.info? e).map (fun i => (i.zero, i.size, i.bytes)) = some (some z, size, bytes)) (ht : P.underlying t = some (.slice e))
    (hgd : o.guard = none) (ho : o.op = .call { callee := .builtin .append, args := #[s, x], argTypes := #[t, t] })
    {g n cap i m c : Nat} {xs : List Value} {ao : Option Addr} (hS : St F0 w0 cs w) (hi : cs.getD k .emp = .row e size (.slice (some ⟨g, 0, none⟩) n cap) n xs)
    (hin : i < n) (hs : a.eval s = .slice (some ⟨g, 0, none⟩) i cap) (hm : i + 1 + m = n) (hx : a.eval x = .slice ao m c) (hao : 0 < m → ao = some ⟨g, (i + 1) * size, none⟩)
    (h1 : ∀ u ∈ xs, u.oneCell' = true)
    (h : ∀ w', St F0 w0 (cs.set k (.row e size (.slice (some ⟨g, 0, none⟩) (n - 1) cap) (n - 1) (cutOut size i xs))) w' → wpList P ops Q rest (a.put o.dst (.slice (some ⟨g, 0, none⟩) (i + m) cap)) w') : wpList P ops Q (o :: rest) a w := by
  obtain ⟨i0, hi0, hz0, hz1, hz2⟩ := info_parts hinfo
  have hown := hS.own k hi
  have hlen := hown.1
  have hsh : Own w e size (.slice (some ⟨g, 0, none⟩) i cap) i (xs.take (i * size)) := hown.shorter i (by omega)
  have hdl : (xs.drop ((i + 1) * size)).length = m * size := by
    rw [List.length_drop, hlen, ← hm, Nat.add_mul]; omega
  have h31 : (i + 1) * size ≤ n * size := Nat.mul_le_mul_right _ hin
  obtain ⟨cur, hb, hcl, hnc, hcm, htk⟩ := Own.to_blk hown
  have hnm : i + m = n - 1 := by omega
  by_cases h0 : m = 0
  · subst h0
    have hnews : xs.drop ((i + 1) * size) = [] := List.eq_nil_of_length_eq_zero (by rw [hdl, Nat.zero_mul])
    have hr : (Builtin.append_ #[t, t] o.type #[.slice (some ⟨g, 0, none⟩) i cap, .slice ao 0 c]).run P w = .ok (.slice (some ⟨g, 0, none⟩) (i + 0) cap) w := by
      cases ao with
      | none => simp [Builtin.append_, run_underlying ht, sizeOf, typeInfo, hi0, Builtin.lenOf, show i ≤ cap by omega, Builtin.firstCells, loadCells, loadCellsFrom, storeCells]
      | some ad => simp [Builtin.append_, run_underlying ht, sizeOf, typeInfo, hi0, Builtin.lenOf, show i ≤ cap by omega, Builtin.firstCells, loadCells, loadCellsFrom, storeCells]
    refine wpList_plain hgd fun K hK => ?_
    unfold Oper.wp execOp
    simp only [ho, resolve, invoke, builtin, Sem.run_bind, Sem.run_pure, Result.andThen_ok, List.map_toArray, List.map_cons, List.map_nil, hs, hx, hr]
    refine hK _ _ (h w ?_)
    have he : cutOut size i xs = xs.take (i * size) := by unfold cutOut; rw [hnews, List.append_nil]
    rw [he, show n - 1 = i by omega]
    exact hS.turn k hi fun F hF => ⟨F, ⟨hsh, hF.2⟩, Keeps.refl _ _, fun _ => .inl⟩
  · have hao := hao (by omega)
    subst hao
    have hnews : ∀ (j : Nat) u, (xs.drop ((i + 1) * size))[j]? = some u → w.cell? ((⟨g, (i + 1) * size, none⟩ : Addr).add j) = some u := by
      intro j u hj
      rw [List.getElem?_drop] at hj
      rw [Addr.add_lit]
      exact hown.cells' (g := g) rfl hj
    obtain ⟨w', hr, ho2, hg2⟩ := run_append_own_spare (P := P) w 0 t o.type e i0 size ht hi0 hz1 g i cap _ hsh _ m c _ hdl hnews (fun u hu => h1 u (List.mem_of_mem_drop hu)) (by omega)
    refine wpList_plain hgd fun K hK => ?_
    unfold Oper.wp execOp
    simp only [ho, resolve, invoke, builtin, Sem.run_bind, Sem.run_pure, Result.andThen_ok, List.map_toArray, List.map_cons, List.map_nil, hs, hx, hr]
    refine hK _ _ (h w' ?_)
    rw [hnm] at ho2
    exact hS.turn k hi fun F hF => ⟨F, ⟨ho2, hF.2⟩, (Keeps.refl F w).grown hg2 (fun b hb => by cases hb; exact .inl ((hF.2 g).2 rfl)), fun _ => .inl⟩
/-- clear of a row's spare room. -/
theorem run_clearS (w : World) (t e ty : TypeId) (z : Value) (size : Nat) {bytes : Nat} (hinfo : (P.info? e).map (fun i => (i.zero, i.size, i.bytes)) = some (some z, size, bytes)) (ht : P.underlying t = some (.slice e)) (hzs : z.cells.size = size) (hz1 : ∀ u ∈ z.cells.toList, u.oneCell' = true)
    {g : Nat} {cur : List Value} (hb : Blk w g e cur) (o n c : Nat) (hn : 0 < n) (hfit : o + n * size ≤ cur.length) :
    ∃ ys, ys.length = n * size ∧ (Builtin.clear_ #[t] ty #[.slice (some ⟨g, o, none⟩) n c]).run P w = .ok (.tuple #[]) (w.setRow g (cur.take o ++ ys ++ cur.drop (o + n * size)).toArray) := by
  obtain ⟨i0, hi0, hz0, hzz, hz2⟩ := info_parts hinfo
  refine ⟨(Builtin.zeroCells z.cells n).toList, by rw [Array.length_toList, zeros_size, hzs], ?_⟩
  have hl : (Builtin.zeroCells z.cells n).toList.length = n * size := by rw [Array.length_toList, zeros_size, hzs]
  have hst := run_storeCells_at P g o e (Builtin.zeroCells z.cells n).toList 0 cur.toArray w hb (by simpa [hl] using hfit) (fun v hv => by
    simp only [Builtin.zeroCells, Array.toList_map, List.mem_map, Array.toList_range, List.mem_range] at hv
    obtain ⟨j, hj, rfl⟩ := hv
    have hp : 0 < z.cells.size := by
      rcases Nat.eq_zero_or_pos z.cells.size with h0 | h0
      · rw [h0, Nat.mul_zero] at hj; omega
      · exact h0
    have hq : j % z.cells.size < z.cells.size := Nat.mod_lt _ hp
    rw [getElem!_pos z.cells _ hq]
    exact hz1 _ (Array.getElem_mem_toList hq))
  simp only [Nat.add_zero, hl] at hst
  cases n with
  | zero => omega
  | succ n => simp [Builtin.clear_, run_underlying ht, zeroValue, typeInfo, hi0, hz0, hst]
theorem wpList_clearS {ops : Array Oper} {rest : List Oper} {o : Oper} {a : Act} {Q : Exit → Act → World → Prop} (k : Nat) (x : Operand) (t e : TypeId) (z : Value) (size bytes : Nat)
    (hinfo : (P.info? e).map (fun i => (i.zero, i.size, i.bytes)) = some (some z, size, bytes)) (ht : P.underlying t = some (.slice e)) (hzs : z.cells.size = size) (hz1 : ∀ u ∈ z.cells.toList, u.oneCell' = true)
    (hgd : o.guard = none) (ho : o.op = .call { callee := .builtin .clear, args := #[x], argTypes := #[t] })
    {g n cap m c : Nat} {xs : List Value} (hS : St F0 w0 cs w) (hi : cs.getD k .emp = .row e size (.slice (some ⟨g, 0, none⟩) n cap) n xs)
    (hx : a.eval x = .slice (some ⟨g, n * size, none⟩) m c) (h0 : 0 < m) (hm : n + m ≤ cap)
    (h : ∀ w', St F0 w0 cs w' → wpList P ops Q rest (a.put o.dst (.tuple #[])) w') : wpList P ops Q (o :: rest) a w := by
  have hown := hS.own k hi
  obtain ⟨cur, hb, hcl, hnc, hcm, htk⟩ := Own.to_blk hown
  have hfit : n * size + m * size ≤ cur.length := by rw [hcl, ← Nat.add_mul]; exact Nat.mul_le_mul_right _ hm
  obtain ⟨ys, hys, hr⟩ := run_clearS (P := P) w t e o.type z size hinfo ht hzs hz1 hb (n * size) m c h0 hfit
  refine wpList_plain hgd fun K hK => ?_
  unfold Oper.wp execOp
  simp only [ho, resolve, invoke, builtin, Sem.run_bind, Sem.run_pure, Result.andThen_ok, List.map_toArray, List.map_cons, List.map_nil, hx, hr]
  refine hK _ _ (h _ ?_)
  have hb2 := hb.row (cur.take (n * size) ++ ys ++ cur.drop (n * size + m * size))
  have hl2 : (cur.take (n * size) ++ ys ++ cur.drop (n * size + m * size)).length = cap * size := by
    rw [List.length_append, List.length_append, List.length_take, List.length_drop, hys, hcl]
    rw [hcl] at hfit; omega
  have ho2 := Own.of_blk (n := n) hb2 hl2 hnc hcm
  have he : (cur.take (n * size) ++ ys ++ cur.drop (n * size + m * size)).take (n * size) = xs := by
    rw [List.append_assoc, List.take_append_of_le_length (by rw [List.length_take, hcl]; rw [hcl] at hfit; omega), List.take_take, Nat.min_self, htk]
  rw [he] at ho2
  have := hS.turn (w' := w.setRow g (cur.take (n * size) ++ ys ++ cur.drop (n * size + m * size)).toArray) k (c' := .row e size (.slice (some ⟨g, 0, none⟩) n cap) n xs) hi fun F hF => ⟨F, ⟨ho2, hF.2⟩, (Keeps.refl F w).setRow (.inl ((hF.2 g).2 rfl)) _, fun _ => .inl⟩
  have hset : cs.set k (.row e size (.slice (some ⟨g, 0, none⟩) n cap) n xs) = cs := by
    refine List.ext_getElem? fun j => ?_
    rw [List.getElem?_set]
    by_cases hkj : k = j
    · subst hkj
      rw [if_pos rfl]
      split
      · rename_i hlt
        rw [← hi, List.getD_eq_getElem?_getD, List.getElem?_eq_getElem hlt]; rfl
      · rename_i hlt
        rw [List.getElem?_eq_none (by omega)]
    · rw [if_neg hkj]
  rwa [hset] at this
/-- A cell behind what a row holds may turn. -/
theorem Own.spare {w : World} {T : TypeId} {sz g n cap : Nat} {xs : List Value} (h : Own w T sz (.slice (some ⟨g, 0, none⟩) n cap) n xs) {o : Nat} (ho : n * sz ≤ o) (u : Value) : Own (w.setCell ⟨g, o, none⟩ u) T sz (.slice (some ⟨g, 0, none⟩) n cap) n xs := by
  obtain ⟨cur, hb, hcl, hnc, hcm, htk⟩ := Own.to_blk h
  have h2 := Own.of_blk (n := n) (hb.set o u) (by rw [List.length_set]; exact hcl) hnc hcm
  rw [List.take_set_of_le ho, htk] at h2
  exact h2
theorem St.spare (k : Nat) {T : TypeId} {sz g n cap : Nat} {xs : List Value} : ∀ (vs : List Value) (o : Nat) {w : World}, St F0 w0 cs w → cs.getD k .emp = .row T sz (.slice (some ⟨g, 0, none⟩) n cap) n xs → n * sz ≤ o → St F0 w0 cs (w.setCells g o vs)
  | [], _, _, hS, _, _ => hS
  | u :: vs, o, w, hS, hi, ho => by
    have h1 := hS.turn (w' := w.setCell ⟨g, o, none⟩ u) k (c' := .row T sz (.slice (some ⟨g, 0, none⟩) n cap) n xs) hi fun F hF => ⟨F, ⟨hF.1.spare ho u, hF.2⟩, (Keeps.refl F w).setCell (.inl ((hF.2 g).2 rfl)) _, fun _ => .inl⟩
    have hset : cs.set k (.row T sz (.slice (some ⟨g, 0, none⟩) n cap) n xs) = cs := by
      refine List.ext_getElem? fun j => ?_
      rw [List.getElem?_set]
      by_cases hkj : k = j
      · subst hkj
        rw [if_pos rfl]
        split
        · rename_i hlt
          rw [← hi, List.getD_eq_getElem?_getD, List.getElem?_eq_getElem hlt]; rfl
        · rename_i hlt
          rw [List.getElem?_eq_none (by omega)]
      · rw [if_neg hkj]
    rw [hset] at h1
    exact St.spare k vs (o + 1) h1 hi (by omega)
/-- A store of an element behind what a row holds. -/
theorem wpList_storeSpare {ops : Array Oper} {rest : List Oper} {o : Oper} {a : Act} {Q : Exit → Act → World → Prop} (k : Nat) (ty : TypeId) (x v : Operand) (hgd : o.guard = none) (ho : o.op = .store ty x v)
    {T : TypeId} {sz g n cap : Nat} {xs : List Value} (new : List Value) (hS : St F0 w0 cs w) (hi : cs.getD k .emp = .row T sz (.slice (some ⟨g, 0, none⟩) n cap) n xs)
    (hx : a.eval x = .pointer (some ⟨g, n * sz, none⟩)) (hv : a.eval v = .agg new.toArray) (hn : n < cap) (hl : new.length = sz)
    (hsz : (P.info? ty).map (·.size) = some new.length) (h1 : ∀ u ∈ new, u.oneCell' = true)
    (h : ∀ w', St F0 w0 cs w' → wpList P ops Q rest (a.put o.dst undef) w') : wpList P ops Q (o :: rest) a w := by
  have hown := hS.own k hi
  obtain ⟨cur, hb, hcl, hnc, hcm, htk⟩ := Own.to_blk hown
  have hfit : n * sz + new.length ≤ cur.length := by
    rw [hcl, hl, ← Nat.succ_mul]; exact Nat.mul_le_mul_right _ hn
  refine wpList_store_mid hgd ty x v ho g (n * sz) new.toArray hx hv (fun j hj => ?_) (by simpa using hsz) (all_oneCell_toArray h1) ?_
  · have hj' : j < new.length := by simpa using hj
    refine ⟨?_, hb.fz _⟩
    rw [hb.cell, List.getElem?_eq_getElem (by omega)]; rfl
  · exact h _ (hS.spare k _ _ hi (Nat.le_refl _))
end
end Kw
end Go
