/-
  Texts Ts Tb Kcp Ti in one.
-/
import Derived.Test.YtnkjjhenfhnajaaGreatDoorG06
import Derived.Test.YtnkjjhenfhnajaaGreatDoorG04
import Derived.Test.YtnkjjhenfhnajaaGreatDoorG01
import Derived.Lib.Overlaps
import Derived.Lib.AppendZerosOnto
import Derived.Lib.AppendZeros
/-
  Package shelf at the tasks' rows, walked: Stack.Len, At, Push.
-/
namespace Go.Proofs.YtnkjjhenfhnajaaGreatDoor
open Go.RowKit Go.Kw Go.Kreg Go.Tm

abbrev TR : Nat := 143
abbrev TRs : Nat := 123
abbrev zrow : List Value := [.string ⟨#[]⟩, .int .i64 0, .int .i64 0, .slice none 0 0, .string ⟨#[]⟩, .int .i64 0, .int .i64 0, .int .i64 0, .slice none 0 0]
theorem infoR : (Tryz.prog.info? TR).map (fun i => (i.zero, i.size, i.bytes)) = some (some (.agg zrow.toArray), 9, 120) := by kernel_rfl
theorem sizeR : (Tryz.prog.info? TR).map (·.size) = some 9 := by kernel_rfl
theorem cellIn {w w1 : World} (hk : Keeps (fun _ => False) w w1) {a : Addr} {u : Value} (h : w.cell? a = some u) : w1.cell? a = some u :=
  (World.cell?_of_block (w := w) (hk.block a.block (World.block_lt_of_cell? w _ h) id)).trans h
theorem cells9 {w : World} {p : Nat} {T : TypeId} {a b c d e f g h i : Value} (hb : Blk w p T [a, b, c, d, e, f, g, h, i]) :
    w.cell? ⟨p, 0, none⟩ = some a ∧ w.cell? ⟨p, 1, none⟩ = some b ∧ w.cell? ⟨p, 2, none⟩ = some c ∧ w.cell? ⟨p, 3, none⟩ = some d ∧ w.cell? ⟨p, 4, none⟩ = some e ∧ w.cell? ⟨p, 5, none⟩ = some f ∧ w.cell? ⟨p, 6, none⟩ = some g ∧ w.cell? ⟨p, 7, none⟩ = some h ∧ w.cell? ⟨p, 8, none⟩ = some i ∧ (∀ o, w.frozen? ⟨p, o, none⟩ = false) :=
  ⟨hb.cell 0, hb.cell 1, hb.cell 2, hb.cell 3, hb.cell 4, hb.cell 5, hb.cell 6, hb.cell 7, hb.cell 8, hb.fz⟩

section
variable {w : World} {p o n : Nat} {rv : Value} {xs : List Value}

set_option maxRecDepth 100000 in
theorem stackLen_any (hc : w.cell? ⟨p, o, none⟩ = some rv) (hown : Own w TR 9 rv n xs) :
    Calls Tryz.prog 78 #[.pointer (some ⟨p, o, none⟩)] w fun e w' => e = .returned (.int .i64 n) ∧ w = w' := by
  obtain ⟨a, c, rfl, _⟩ := hown.shape
  clear hown
  go_enter Tryz.func78, Tryz.ntmps78
  go_wp2_with fail
  go_ret
  exact ⟨rfl, rfl⟩

set_option maxRecDepth 100000 in
set_option maxHeartbeats 1000000 in
theorem stackAt_out (hc : w.cell? ⟨p, o, none⟩ = some rv) (hown : Own w TR 9 rv n xs) (i : Int) (hi : i < 0 ∨ (n : Int) ≤ i) :
    Calls Tryz.prog 137 #[.pointer (some ⟨p, o, none⟩), .int .i64 i] w fun e w' => e = .returned (.tuple #[.agg zrow.toArray, .bool false]) ∧ Keeps (fun _ => False) w w' := by
  obtain ⟨a, c, rfl, _⟩ := hown.shape
  clear hown
  by_cases h0 : i < 0
  · have b0 : decide (i < 0) = true := by simpa using h0
    clear hi h0
    go_enter Tryz.func137, Tryz.ntmps137
    go_wp2_with fail
    exact bodyPost_ret (v := .tuple #[.agg zrow.toArray, .bool false]) (by simp [results, Tryz.results137, go_sem]) rfl ⟨rfl, ((Keeps.refl _ _).alloc _).alloc _⟩
  · have b0 : decide (i < 0) = false := by simpa using h0
    have b1 : decide ((n : Int) ≤ i) = true := by simp; omega
    clear hi h0
    go_enter Tryz.func137, Tryz.ntmps137
    go_wp2_with fail
    exact bodyPost_ret (v := .tuple #[.agg zrow.toArray, .bool false]) (by simp [results, Tryz.results137, go_sem]) rfl ⟨rfl, ((Keeps.refl _ _).alloc _).alloc _⟩

set_option maxRecDepth 100000 in
set_option maxHeartbeats 1000000 in
theorem stackAt_in (hc : w.cell? ⟨p, o, none⟩ = some rv) (hown : Own w TR 9 rv n xs) (i : Nat) (hi : i < n) {a b c d e f g h k : Value}
    (hx : xs[i * 9]? = some a ∧ xs[i * 9 + 1]? = some b ∧ xs[i * 9 + 2]? = some c ∧ xs[i * 9 + 3]? = some d ∧ xs[i * 9 + 4]? = some e ∧ xs[i * 9 + 5]? = some f ∧ xs[i * 9 + 6]? = some g ∧ xs[i * 9 + 7]? = some h ∧ xs[i * 9 + 8]? = some k) (h1 : ∀ u ∈ [a, b, c, d, e, f, g, h, k], u.oneCell' = true) :
    Calls Tryz.prog 137 #[.pointer (some ⟨p, o, none⟩), .int .i64 i] w fun r w' => r = .returned (.tuple #[.agg #[a, b, c, d, e, f, g, h, k], .bool true]) ∧ Keeps (fun _ => False) w w' := by
  obtain ⟨gb, cap, rfl, hlt⟩ := hown.form (by omega)
  obtain ⟨x0, x1, x2, x3, x4, x5, x6, x7, x8⟩ := hx
  have d0 := hown.cells' (g := gb) rfl x0
  have d1 := hown.cells' (g := gb) rfl x1
  have d2 := hown.cells' (g := gb) rfl x2
  have d3 := hown.cells' (g := gb) rfl x3
  have d4 := hown.cells' (g := gb) rfl x4
  have d5 := hown.cells' (g := gb) rfl x5
  have d6 := hown.cells' (g := gb) rfl x6
  have d7 := hown.cells' (g := gb) rfl x7
  have d8 := hown.cells' (g := gb) rfl x8
  have hS := hid ((St.start w).new TR zrow)
  clear x0 x1 x2 x3 x4 x5 x6 x7 x8 hown
  have b0 : decide ((i : Int) < 0) = false := by simp
  have b1 : decide (n ≤ i) = false := by simpa using hi
  have i0 : (0 : Int) ≤ (i : Int) := by omega
  have i1 : (i : Int) < (n : Int) := by omega
  go_enter Tryz.func137, Tryz.ntmps137
  go_wp2_with (refine wpList_storeS 0 TR _ _ rfl rfl [a, b, c, d, e, f, g, h, k] hS.out rfl rfl rfl sizeR rfl h1 ?_; intro w2 hS2; obtain ⟨f0, f1, f2, f3, f4, f5, f6, f7, f8, fz⟩ := cells9 (hS2.blk 0))
  exact bodyPost_ret (v := .tuple #[.agg #[a, b, c, d, e, f, g, h, k], .bool true]) (by simp [results, Tryz.results137, go_sem, f0, f1, f2, f3, f4, f5, f6, f7, f8]) rfl ⟨rfl, hS2.keeps⟩
end

set_option maxRecDepth 100000 in
set_option maxHeartbeats 2000000 in
theorem stackPush_any {w : World} {F : Nat → Prop} {p o n : Nat} {T : TypeId} {ys xs : List Value} {rv : Value} (H : Sts [.pt p T ys, .row TR 9 rv n xs] F w) (ho : ys[o]? = some rv) (hn : n ≤ 1000000) {a b c d e f g h k : Value}
    (h1 : ∀ u ∈ [a, b, c, d, e, f, g, h, k], u.oneCell' = true) :
    Calls Tryz.prog 82 #[.pointer (some ⟨p, o, none⟩), .agg #[a, b, c, d, e, f, g, h, k]] w fun r w' => r = .returned (.tuple #[]) ∧
      ∃ rv', St F w [.pt p T (ys.set o rv'), .row TR 9 rv' (n + 1) (xs ++ [a, b, c, d, e, f, g, h, k])] w' := by
  have hcell := ((St.of H).blk 0).at ho
  have hfz := ((St.of H).blk 0).fz o
  have hS := (St.of H).new TR [a, b, c, d, e, f, g, h, k]
  simp only [Kw.red] at hS
  obtain ⟨c0, c1, c2, c3, c4, c5, c6, c7, c8, cz⟩ := cells9 (hS.blk 2)
  have hpw : p < w.heap.size := ((St.of H).blk 0).lt
  have HS := hid hS
  have H1 := hid h1
  clear hS H h1
  go_enter Tryz.func82, Tryz.ntmps82
  go_wp2_with fail
  refine wp_region_mix [true, true, true, true, true, true, false, false, false, false, false] 1 (fun _ => False) (by kernel_rfl) (by decide +kernel) ?_
  simp only [front, back, List.take_succ_cons, List.take_zero, List.drop_succ_cons, List.drop_zero]
  repeat ((first | refine wpFront_load rfl ?_ | refine wpFront_other rfl ?_); (first | go_big_quiet_step (fail) | quiet_step (fail)); refine wpQuiet_nil ?_)
  refine wpFront_nil ?_
  simp only [wpSegs]
  go_wp2_with fail
  refine segQ_normal (((Keeps.refl _ _).alloc _).drew) ?_
  have hSb := (HS.out.new TR [a, b, c, d, e, f, g, h, k]).drew
  simp only [Kw.red] at hSb
  rw [show (w.alloc (.cells [a, b, c, d, e, f, g, h, k].toArray TR)).heap.size = w.heap.size + 1 by simp] at hSb
  refine wpList_appS 1 3 _ _ TRs TR (.agg zrow.toArray) 9 120 infoR Tryz.underlying123 rfl (by decide) rfl rfl hSb rfl rfl rfl rfl rfl H1.out (by omega) (by unfold maxLen; omega) (by omega) ?_
  intro gb gc w7 hSc hat
  have hc7 := (hSc.blk 0).at ho
  have hfz7 := (hSc.blk 0).fz o
  clear c0 c1 c2 c3 c4 c5 c6 c7 c8 cz hcell hfz
  go_wp2_with fail
  refine NoPanic.normal ?_
  go_wp2_with fail
  go_end0
  refine ⟨rfl, .slice (some ⟨gb, 0, none⟩) (n + 1) gc, ?_⟩
  exact (hSc.set 0 o (.slice (some ⟨gb, 0, none⟩) (n + 1) gc)).sub [0, 1]
end Go.Proofs.YtnkjjhenfhnajaaGreatDoor

/-
  Package shelf at the tasks' names, walked: find, Get.
-/
namespace Go.Proofs.YtnkjjhenfhnajaaGreatDoor
open Go.RowKit Go.Kw Go.Kreg Go.Tm Go.Tn

abbrev TN : Nat := 224
abbrev TNs : Nat := 126
abbrev cmpF : Nat := 165
theorem infoN : (Tryz.prog.info? TN).map (fun i => (i.zero, i.size, i.bytes)) = some (some (.agg #[.string ⟨#[]⟩, .int .i64 0]), 2, 24) := by kernel_rfl
def namesC (ns : List Tn.Row) : List Value := ns.flatMap fun r => [.string r.1, .int .i64 r.2]
theorem namesC_len (ns : List Tn.Row) : (namesC ns).length = ns.length * 2 := by
  induction ns with
  | nil => rfl
  | cons r ns ih => simp only [namesC, List.flatMap_cons, List.length_append, List.length_cons, List.length_nil] at *; omega
theorem namesC_app (l r : List Tn.Row) : namesC (l ++ r) = namesC l ++ namesC r := by simp [namesC]
theorem namesC_at {ns : List Tn.Row} {i : Nat} {r : Tn.Row} (h : ns[i]? = some r) : (namesC ns)[i * 2]? = some (.string r.1) ∧ (namesC ns)[i * 2 + 1]? = some (.int .i64 r.2) := by
  have hs : ns = ns.take i ++ (r :: ns.drop (i + 1)) := by
    have := (List.getElem?_eq_some_iff.1 h)
    rw [← this.2, List.getElem_cons_drop, List.take_append_drop]
  have hl : (namesC (ns.take i)).length = i * 2 := by
    rw [namesC_len, List.length_take]; have := (List.getElem?_eq_some_iff.1 h).1; omega
  have e : namesC ns = namesC (ns.take i) ++ ([.string r.1, .int .i64 r.2] ++ namesC (ns.drop (i + 1))) := by
    conv => lhs; rw [hs]
    simp [namesC]
  rw [e]
  constructor
  all_goals
    rw [List.getElem?_append_right (by omega), hl]
    simp
def cmpOf (a k : ByteArray) : Int := if less a k = true then -1 else if a = k then 0 else 1

set_option maxRecDepth 100000 in
theorem cmp_any (w : World) (a k : ByteArray) (v : Int) : Calls Tryz.prog cmpF #[.agg #[.string a, .int .i64 v], .string k] w fun e w' => e = .returned (.int .i64 (cmpOf a k)) ∧ Keeps (fun _ => False) w w' := by
  unfold cmpOf less
  have hgt : ∀ w, (binOp .gtr 9 (.string a) (.string k)).run Tryz.prog w = .ok (.bool (!(Op.bytesLess a.toList k.toList || a.toList == k.toList))) w := fun w => by simp [binOp, Op.stringOp]
  by_cases h1 : Op.bytesLess a.toList k.toList = true
  · rw [if_pos h1]
    go_enter Tryz.func165, Tryz.ntmps165
    go_wp2_with fail
    go_ret
    exact ⟨rfl, (Keeps.refl _ _).alloc _⟩
  · have h1 : Op.bytesLess a.toList k.toList = false := by simpa using h1
    rw [if_neg (by simp [h1])]
    by_cases h2 : a = k
    · have h3 : (a.toList == k.toList) = true := by simp [h2]
      rw [h1, h3] at hgt
      rw [if_pos h2]
      clear h2
      go_enter Tryz.func165, Tryz.ntmps165
      go_wp2_with fail
      go_ret
      exact ⟨rfl, (Keeps.refl _ _).alloc _⟩
    · have h3 : (a.toList == k.toList) = false := by simpa using fun e => h2 (toList_inj e)
      rw [h1, h3] at hgt
      rw [if_neg h2]
      clear h2
      go_enter Tryz.func165, Tryz.ntmps165
      go_wp2_with fail
      go_ret
      exact ⟨rfl, (Keeps.refl _ _).alloc _⟩

section
variable {w : World} {nv : Value} {ns : List Tn.Row}

set_option maxRecDepth 100000 in
set_option maxHeartbeats 2000000 in
theorem search_any (hown : Own w TN 2 nv ns.length (namesC ns)) (hr : Rise ns) (hn : ns.length ≤ 1000000) (k : ByteArray) :
    Calls Tryz.prog 164 #[nv, .string k, .func (.func cmpF) #[] #[]] w fun e w' => e = .returned (.tuple #[.int .i64 (below k ns), .bool (foundAt k ns)]) ∧ Keeps (fun _ => False) w w' := by
  obtain ⟨oa, oc, rfl, _⟩ := hown.shape
  have hbl := below_le k ns
  have hlow : ∀ (i : Nat) (a : Tn.Row), ns[i]? = some a → (less a.1 k = true ↔ i < below k ns) := fun i a h => below_iff hr h
  have hfo : foundAt k ns = match ns[below k ns]? with | some a => decide (a.1 = k) | none => false := rfl
  have Hown := hid hown
  generalize below k ns = B at *
  generalize foundAt k ns = fd at *
  have Hlow := hid hlow
  have Hfo := hid hfo
  clear hr hown hlow hfo
  go_enter Tryz.func164, Tryz.ntmps164
  go_wp2_with fail
  go_loopw [9, 10] (fun x y wr => ∃ i j : Nat, i ≤ B ∧ B ≤ j ∧ j ≤ ns.length ∧ x = .int .i64 i ∧ y = .int .i64 j ∧ Keeps (fun _ => False) w wr) (fun x y _ => (intOf y).toNat - (intOf x).toNat)
  case atStart => exact ⟨0, ns.length, Nat.zero_le _, hbl, Nat.le_refl _, rfl, rfl, Keeps.refl _ _⟩
  case round =>
    obtain ⟨i, j, hi, hj, hjn, rfl, rfl, hK⟩ := hrel
    have HK := hid hK
    clear hK
    by_cases hlt : i < j
    · have b1 : decide ((i : Int) < (j : Int)) = true := by simp; omega
      have hw1 : IntKind.i64.wrap ((i : Int) + (j : Int)) = (i : Int) + (j : Int) := by rw [IntKind.wrap_i64]; omega
      have hhn : (i + j) / 2 < ns.length := by omega
      obtain ⟨g, cap, e1, _⟩ := Hown.out.form (by omega)
      cases e1
      have hx := List.getElem?_eq_getElem hhn
      have hlb := Hlow.out _ _ hx
      obtain ⟨x0, x1⟩ := namesC_at hx
      generalize ns[(i + j) / 2] = r at *
      have d0 := cellIn HK.out (Hown.out.cells' (g := g) rfl x0)
      have d1 := cellIn HK.out (Hown.out.cells' (g := g) rfl x1)
      clear x0 x1 hx
      have hcmp := fun w => cmp_any w r.1 k r.2
      by_cases hl : less r.1 k = true
      · have e0 : cmpOf r.1 k = -1 := if_pos hl
        rw [e0] at hcmp
        have hm := hlb.1 hl
        clear hlb hl e0
        go_wp2_with fail
        refine (hcmp _).mono ?_; rintro e w2 ⟨rfl, k2⟩
        have HK2 := hid (HK.out.trans k2)
        clear k2 HK hcmp
        go_wp2_with fail
        go_roundw
        case rel => exact ⟨(i + j) / 2 + 1, j, by omega, hj, hjn, by go_num, rfl, HK2.out⟩
        case measure => simp [intOf]; omega
      · have hm : ¬ (i + j) / 2 < B := fun h => hl (hlb.2 h)
        have hle : i ≤ (i + j) / 2 := by omega
        obtain ⟨c, hcv, hc0⟩ : ∃ c : Int, cmpOf r.1 k = c ∧ 0 ≤ c := by unfold cmpOf; rw [if_neg hl]; split <;> exact ⟨_, rfl, by omega⟩
        rw [hcv] at hcmp
        have b2 : decide (c < 0) = false := by simp; omega
        clear hlb hl hcv
        go_wp2_with fail
        refine (hcmp _).mono ?_; rintro e w2 ⟨rfl, k2⟩
        have HK2 := hid (HK.out.trans k2)
        clear k2 HK hcmp
        go_wp2_with fail
        go_roundw
        case rel => exact ⟨i, (i + j) / 2, hi, by omega, by omega, rfl, by go_num, HK2.out⟩
        case measure => simp [intOf]; omega
    · have b1 : decide ((i : Int) < (j : Int)) = false := by simp; omega
      have eB : B = i := by omega
      subst eB
      have b2 : B ≤ ns.length := by omega
      by_cases hend : B < ns.length
      · have hx := List.getElem?_eq_getElem hend
        have hlb := Hlow.out _ _ hx
        have hfo := Hfo.out
        rw [hx] at hfo
        simp only at hfo
        obtain ⟨g, cap, e1, _⟩ := Hown.out.form (by omega)
        cases e1
        obtain ⟨x0, x1⟩ := namesC_at hx
        generalize ns[B] = r at *
        have d0 := cellIn HK.out (Hown.out.cells' (g := g) rfl x0)
        have d1 := cellIn HK.out (Hown.out.cells' (g := g) rfl x1)
        have b3 : decide ((B : Int) < (ns.length : Int)) = true := by simp; omega
        have i0 : (0 : Int) ≤ (B : Int) := by omega
        have i1 : (B : Int) < (ns.length : Int) := by omega
        have hl : ¬ less r.1 k = true := fun h => by have := hlb.1 h; omega
        clear x0 x1 hx hlb
        have hcmp := fun w => cmp_any w r.1 k r.2
        by_cases he : r.1 = k
        · have e0 : cmpOf r.1 k = 0 := by unfold cmpOf; rw [if_neg hl, if_pos he]
          rw [e0] at hcmp
          obtain rfl : fd = true := by rw [hfo]; simpa using he
          clear he e0 hl hfo
          go_wp2_with fail
          refine (hcmp _).mono ?_; rintro e w2 ⟨rfl, k2⟩
          have HK2 := hid (HK.out.trans k2)
          clear k2 HK hcmp
          go_wp2_with fail
          go_ret2
          exact ⟨rfl, HK2.out⟩
        · have e0 : cmpOf r.1 k = 1 := by unfold cmpOf; rw [if_neg hl, if_neg he]
          rw [e0] at hcmp
          obtain rfl : fd = false := by rw [hfo]; simpa using he
          clear he e0 hl hfo
          go_wp2_with fail
          refine (hcmp _).mono ?_; rintro e w2 ⟨rfl, k2⟩
          have HK2 := hid (HK.out.trans k2)
          clear k2 HK hcmp
          go_wp2_with fail
          go_ret2
          exact ⟨rfl, HK2.out⟩
      · obtain rfl : fd = false := by rw [Hfo.out, List.getElem?_eq_none (by omega)]
        have b3 : decide ((B : Int) < (ns.length : Int)) = false := by simp; omega
        go_wp2_with fail
        go_ret2
        exact ⟨rfl, HK.out⟩
variable {p o : Nat}
set_option maxRecDepth 100000 in
theorem nfind_any (hc : w.cell? ⟨p, o, none⟩ = some nv) (hown : Own w TN 2 nv ns.length (namesC ns)) (hr : Rise ns) (hn : ns.length ≤ 1000000) (k : ByteArray) :
    Calls Tryz.prog 140 #[.pointer (some ⟨p, o, none⟩), .string k] w fun e w' => e = .returned (.tuple #[.int .i64 (below k ns), .bool (foundAt k ns)]) ∧ Keeps (fun _ => False) w w' := by
  have hs := search_any hown hr hn k
  clear hown hr
  go_enter Tryz.func140, Tryz.ntmps140
  go_wp2_with fail
  refine hs.mono ?_; rintro e w2 ⟨rfl, k2⟩
  clear hs
  go_wp2_with fail
  go_ret2
  exact ⟨rfl, k2⟩

set_option maxRecDepth 100000 in
set_option maxHeartbeats 1000000 in
theorem nget_any (hc : w.cell? ⟨p, o, none⟩ = some nv) (hown : Own w TN 2 nv ns.length (namesC ns)) (hr : Rise ns) (hn : ns.length ≤ 1000000) (k : ByteArray) :
    Calls Tryz.prog 75 #[.pointer (some ⟨p, o, none⟩), .string k] w fun e w' => e = .returned (.tuple #[.int .i64 (if foundAt k ns then Tn.atOf k ns else 0 : Nat), .bool (foundAt k ns)]) ∧ Keeps (fun _ => False) w w' := by
  have hs := nfind_any hc hown hr hn k
  by_cases hf : foundAt k ns = true
  · have hb : ∃ r, ns[below k ns]? = some r ∧ Tn.atOf k ns = r.2 := by
      unfold foundAt at hf
      unfold Tn.atOf
      split at hf
      · rename_i a ha; exact ⟨a, ha, rfl⟩
      · cases hf
    obtain ⟨r, hx, ha⟩ := hb
    rw [hf] at hs ⊢
    rw [if_pos rfl, ha]
    have hlt := (List.getElem?_eq_some_iff.1 hx).1
    obtain ⟨x0, x1⟩ := namesC_at hx
    obtain ⟨g, cap, e1, _⟩ := hown.form (by omega)
    subst e1
    have d1 := hown.cells' (g := g) rfl x1
    generalize below k ns = B at *
    have i0 : (0 : Int) ≤ (B : Int) := by omega
    have i1 : (B : Int) < (ns.length : Int) := by omega
    clear x0 x1 hx ha hf hown hr
    go_enter Tryz.func75, Tryz.ntmps75
    go_wp2_with fail
    refine hs.mono ?_; rintro e w2 ⟨rfl, k2⟩
    have d1' := cellIn k2 d1
    have hc' := cellIn k2 hc
    clear hs d1 hc
    go_wp2_with fail
    go_ret2
    exact ⟨rfl, k2⟩
  · have hf : foundAt k ns = false := by simpa using hf
    rw [hf] at hs ⊢
    clear hf hown hr
    go_enter Tryz.func75, Tryz.ntmps75
    go_wp2_with fail
    refine hs.mono ?_; rintro e w2 ⟨rfl, k2⟩
    clear hs
    go_wp2_with fail
    go_ret2
    exact ⟨by simp, k2⟩
end
end Go.Proofs.YtnkjjhenfhnajaaGreatDoor

/-
  copy, and append of zero values, in blocks known whole, for elements of several cells.
-/
namespace Go
namespace Kw
open Go.RowKit

theorem run_copyS {P : Program} {w : World} (dT sT ty elem : TypeId) (size : Nat) {b : Nat} {xs : List Value} (hb : Blk w b elem xs) (o dLen dCap : Nat) (a : Addr) (sLen sCap : Nat) (cs : List Value)
    (hu : P.underlying dT = some (.slice elem)) (hs : (P.info? elem).map (·.size) = some size) (hn : cs.length = Nat.min sLen dLen * size)
    (hsrc : ∀ (j : Nat) v, cs[j]? = some v → w.cell? (a.add j) = some v) (hfit : o + cs.length ≤ xs.length) (h1 : ∀ v ∈ cs, v.oneCell' = true) :
    (Builtin.copy_ #[dT, sT] ty #[.slice (some ⟨b, o, none⟩) dLen dCap, .slice (some a) sLen sCap]).run P w = .ok (goInt (Nat.min sLen dLen)) (w.setRow b (xs.take o ++ cs ++ xs.drop (o + cs.length)).toArray) := by
  have hl := run_loadCells_list (P := P) w a cs hsrc
  have hst := run_storeCells_at P b o elem cs 0 xs.toArray w hb (by simpa using hfit) h1
  simp only [Nat.add_zero] at hst
  cases hq : P.info? elem with
  | none => simp [hq] at hs
  | some i =>
    have hi : i.size = size := by simpa [hq] using hs
    simp [Builtin.copy_, run_underlying hu, Builtin.lenOf, Builtin.firstCells, sizeOf, typeInfo, hq, hi, ← hn, hl, hst]

theorem wpList_copyS {P : Program} {w : World} {ops : Array Oper} {rest : List Oper} {op : Oper} {a : Act} {Q : Exit → Act → World → Prop} (d s : Operand) (dT sT elem : TypeId) (size : Nat)
    (hu : P.underlying dT = some (.slice elem)) (hs : (P.info? elem).map (·.size) = some size) (hgd : op.guard = none) (ho : op.op = .call { callee := .builtin .copy, args := #[d, s], argTypes := #[dT, sT] })
    {b : Nat} {xs : List Value} (hb : Blk w b elem xs) (o dLen dCap : Nat) (ad : Addr) (sLen sCap : Nat) (cs : List Value)
    (hd : a.eval d = .slice (some ⟨b, o, none⟩) dLen dCap) (hx : a.eval s = .slice (some ad) sLen sCap) (hn : cs.length = Nat.min sLen dLen * size)
    (hsrc : ∀ (j : Nat) v, cs[j]? = some v → w.cell? (ad.add j) = some v) (hfit : o + cs.length ≤ xs.length) (h1 : ∀ v ∈ cs, v.oneCell' = true)
    (h : ∀ w', Blk w' b elem (xs.take o ++ cs ++ xs.drop (o + cs.length)) → Keeps (fun k => k = b) w w' → w'.heap.size = w.heap.size → wpList P ops Q rest (a.put op.dst (goInt (Nat.min sLen dLen))) w') : wpList P ops Q (op :: rest) a w := by
  refine wpList_plain hgd fun K hK => ?_
  have hr := run_copyS (P := P) dT sT op.type elem size hb o dLen dCap ad sLen sCap cs hu hs hn hsrc hfit h1
  unfold Oper.wp execOp
  simp only [ho, resolve, invoke, builtin, Sem.run_bind, Sem.run_pure, Result.andThen_ok, List.map_toArray, List.map_cons, List.map_nil, hd, hx, hr]
  exact hK _ _ (h _ (hb.row _) ((Keeps.refl (fun k => k = b) w).setRow (.inl rfl) _) (by simp))

/-- A block's cells as a slice that owns its row. -/
theorem Own.of_blk {w : World} {T : TypeId} {sz g n cap : Nat} {xs : List Value} (h : Blk w g T xs) (hl : xs.length = cap * sz) (hn : n ≤ cap) (hm : cap ≤ maxLen) : Own w T sz (.slice (some ⟨g, 0, none⟩) n cap) n (xs.take (n * sz)) := by
  have := Nat.mul_le_mul_right sz hn
  exact ⟨by rw [List.length_take]; omega, .inr ⟨g, cap, xs.toArray, rfl, Nat.zero_le _, h, hn, hm, by simpa using hl, by simp⟩⟩
theorem Own.to_blk {w : World} {T : TypeId} {sz g n cap : Nat} {xs : List Value} (h : Own w T sz (.slice (some ⟨g, 0, none⟩) n cap) n xs) : ∃ cur, Blk w g T cur ∧ cur.length = cap * sz ∧ n ≤ cap ∧ cap ≤ maxLen ∧ cur.take (n * sz) = xs := by
  rcases h.2 with ⟨e, _⟩ | ⟨g', cap', cur, e, _, hh, hn, hm, hs, ht⟩
  · cases e
  · cases e
    exact ⟨cur.toList, by unfold Blk; simpa using hh, by simpa using hs, hn, hm, ht⟩
theorem shape_blk {w : World} {b : Nat} {T : TypeId} {xs : List Value} (h : Blk w b T xs) : w.shape? b = some (T, xs.length) := by
  unfold Blk at h; simp [World.shape?, h]

/-- 'append(s, make(S, k)...)' that must grow. -/
theorem wpList_app_zeros {P : Program} {w : World} {ops : Array Oper} {rest : List Oper} {o : Oper} {a : Act} {Q : Exit → Act → World → Prop} (s x : Operand) (t tn e : TypeId) (z : Value) (size bytes : Nat) (kq kn : IntKind)
    (hinfo : (P.info? e).map (fun i => (i.zero, i.size, i.bytes)) = some (some z, size, bytes)) (ht : P.underlying t = some (.slice e)) (htn : P.underlying tn = some (.int kn)) (hzs : z.cells.size = size) (hsz : 0 < size)
    (hgd : o.guard = none) (ho : o.op = .call { callee := .builtin .append, args := #[s, x], argTypes := #[t, tn] })
    (g n cap : Nat) (olds : List Value) (hs : a.eval s = .slice (some ⟨g, 0, none⟩) n cap) (hol : olds.length = n * size) (holds : ∀ (j : Nat) u, olds[j]? = some u → w.cell? ⟨g, j, none⟩ = some u)
    (k N : Nat) (hN : n + k = N) (h0 : 0 < k) (hx : a.eval x = .int kq k) (hg : cap < n + k) (h63 : n + k ≤ maxLen) (hbytes : (n + k) * bytes ≤ 140737488355328)
    (h : ∀ g' G w' zs, Blk w' g' e (olds ++ zs) → (olds ++ zs).length = G * size → N ≤ G → G ≤ maxLen → g' = w.heap.size → Keeps (fun _ => False) w w' → wpList P ops Q rest (a.put o.dst (.slice (some ⟨g', 0, none⟩) N G)) w') : wpList P ops Q (o :: rest) a w := by
  subst hN
  obtain ⟨i, hi, hz0, hz1, hz2⟩ := info_parts hinfo
  have h63' : ((n + k : Nat) : Int) ≤ 9223372036854775807 := by simp only [maxLen] at h63; omega
  have hold : (Builtin.firstCells i.size n (.slice (some ⟨g, 0, none⟩) n cap)).run P w.drew = .ok olds.toArray w.drew := by
    rw [hz1]
    exact run_firstCells_some w.drew size n ⟨g, 0, none⟩ n cap olds hol (fun j v hj => by rw [add_at, Nat.zero_add]; exact holds j v hj)
  have hkb : k * bytes ≤ (n + k) * bytes := Nat.mul_le_mul_right _ (by omega)
  have hr := Lib.run_append_grow_zeros w t tn o.type e i z kq kn ht htn hi hz0 (some ⟨g, 0, none⟩) n cap olds hold k h0 (by omega) hg h63' (by rw [hz2]; omega) (by rw [hz2]; exact growslice_fits hg hbytes)
  refine wpList_plain hgd fun K hK => ?_
  unfold Oper.wp execOp
  simp only [ho, resolve, invoke, builtin, Sem.run_bind, Sem.run_pure, Result.andThen_ok, List.map_toArray, List.map_cons, List.map_nil, hs, hx, hr]
  have hge := grownCap_ge w (n + k) cap e
  have hcm : grownCap w (n + k) cap e ≤ maxLen := grownCap_le_maxLen w (n + k) cap e h63
  refine hK _ _ (h w.heap.size (grownCap w (n + k) cap e) _ ((Builtin.zeroCells z.cells k ++ Builtin.zeroCells z.cells (grownCap w (n + k) cap e - (n + k))).toList) ?_ ?_ hge hcm rfl ?_)
  · have := Blk.new w.drew e (olds ++ (Builtin.zeroCells z.cells k ++ Builtin.zeroCells z.cells (grownCap w (n + k) cap e - (n + k))).toList)
    have he : (olds ++ (Builtin.zeroCells z.cells k ++ Builtin.zeroCells z.cells (grownCap w (n + k) cap e - (n + k))).toList).toArray = olds.toArray ++ Builtin.zeroCells z.cells k ++ Builtin.zeroCells z.cells (grownCap w (n + k) cap e - (n + k)) := by
      apply Array.toList_inj.1; simp
    rw [he] at this
    exact this
  · simp only [List.length_append, Array.toList_append, Array.length_toList, zeros_size, hzs, hol, ← Nat.add_mul]
    congr 1; omega
  · exact (Keeps.refl _ w).drew.alloc _
/-- 'make' of an empty list in a state: a new row. -/
theorem wpList_mkg {P : Program} {w w0 : World} {F0 : Nat → Prop} {cs : List Ch} {ops : Array Oper} {rest : List Oper} {o : Oper} {a : Act} {Q : Exit → Act → World → Prop} (l c : Operand) (t e : TypeId) (z : Value) (size bytes : Nat)
    (hinfo : (P.info? e).map (fun i => (i.zero, i.size, i.bytes)) = some (some z, size, bytes)) (ht : P.underlying t = some (.slice e))
    (hg : o.guard = none) (hop : o.op = Op.makeSlice t l c) (hS : St F0 w0 cs w)
    (kl kc : IntKind) (C : Int) (n : Nat) (hl : a.eval l = .int kl 0) (hc : a.eval c = .int kc C) (hC : C = (n : Int)) (b2 : bytes * n ≤ 281474976710656) (b3 : n ≤ maxLen)
    (hK : ∀ g w', Own w' e size (.slice (some ⟨g, 0, none⟩) 0 n) 0 [] → Keeps (fun _ => False) w w' → w.heap.size ≤ g → St F0 w0 (cs ++ [.row e size (.slice (some ⟨g, 0, none⟩) 0 n) 0 []]) w' → wpList P ops Q rest (a.put o.dst (.slice (some ⟨g, 0, none⟩) 0 n)) w') :
    wpList P ops Q (o :: rest) a w :=
  wpList_mk l c t e z size bytes hinfo ht hg hop kl kc C n hl hc hC b2 b3 fun w' h1 h2 => hK _ w' h1 h2 (Nat.le_refl _)
    (hS.add h2 (G := fun b => (Value.slice (some ⟨w.heap.size, 0, none⟩) 0 n).ownBlock = some b) (c := .row e size (.slice (some ⟨w.heap.size, 0, none⟩) 0 n) 0 []) ⟨h1, fun _ => Iff.rfl⟩ fun b hb => by
      simp only [Value.ownBlock, Option.some.injEq] at hb; rw [← hb]; exact Nat.le_refl _)
/-- 'append(s, x..)' of any list, none perhaps, onto an owned row. -/
theorem wpList_appX {P : Program} {w w0 : World} {F0 : Nat → Prop} {cs : List Ch} {ops : Array Oper} {rest : List Oper} {o : Oper} {a : Act} {Q : Exit → Act → World → Prop} (i : Nat) (s x : Operand) (t e : TypeId) (z : Value) (size bytes : Nat)
    (hinfo : (P.info? e).map (fun i => (i.zero, i.size, i.bytes)) = some (some z, size, bytes)) (ht : P.underlying t = some (.slice e)) (hzs : z.cells.size = size) (hsz : 0 < size)
    (hgd : o.guard = none) (ho : o.op = .call { callee := .builtin .append, args := #[s, x], argTypes := #[t, t] })
    {v : Value} {n : Nat} {xs : List Value} (hS : St F0 w0 cs w) (hi : cs.getD i .emp = .row e size v n xs) (hs : a.eval s = v)
    (ao : Option Addr) (m c : Nat) (news : List Value) (hx : a.eval x = .slice ao m c) (hl : news.length = m * size) (hnone : ao = none → m = 0 ∧ c = 0)
    (hc : ∀ ad, ao = some ad → ∀ (j : Nat) u, news[j]? = some u → w.cell? (ad.add j) = some u) (h1 : ∀ u ∈ news, u.oneCell' = true) (h63 : n + m ≤ maxLen) (hbytes : (n + m) * bytes ≤ 140737488355328)
    (h : ∀ v' w', St F0 w0 (cs.set i (.row e size v' (n + m) (xs ++ news))) w' → (v'.ownBlock = v.ownBlock ∨ ∃ b, v'.ownBlock = some b ∧ w.heap.size ≤ b) → wpList P ops Q rest (a.put o.dst v') w') : wpList P ops Q (o :: rest) a w := by
  obtain ⟨i0, hi0, hz0, hz1, hz2⟩ := info_parts hinfo
  have hown := hS.own i hi
  by_cases hm : m = 0
  · subst hm
    have hnews : news = [] := List.eq_nil_of_length_eq_zero (by simpa using hl)
    subst hnews
    have hr : (Builtin.append_ #[t, t] o.type #[v, .slice ao 0 c]).run P w = .ok v w := by
      cases ao with
      | none =>
        obtain ⟨_, rfl⟩ := hnone rfl
        exact run_append_owned_none w 0 t o.type e i0 size ht hi0 v n xs hown
      | some ad =>
        rcases hown.2 with ⟨rfl, rfl⟩ | ⟨g, cap, cur, rfl, _, hh, hn, hmm, hss, htk⟩
        · simp [Builtin.append_, run_underlying ht, sizeOf, typeInfo, hi0, Builtin.lenOf, Builtin.firstCells, loadCells, loadCellsFrom]
        · simp [Builtin.append_, run_underlying ht, sizeOf, typeInfo, hi0, Builtin.lenOf, hn, Builtin.firstCells, loadCells, loadCellsFrom, storeCells]
    refine wpList_plain hgd fun K hK' => ?_
    unfold Oper.wp execOp
    simp only [ho, resolve, invoke, builtin, Sem.run_bind, Sem.run_pure, Result.andThen_ok, List.map_toArray, List.map_cons, List.map_nil, hs, hx, hr]
    refine hK' _ _ (h v w ?_ (.inl rfl))
    have := hS.imp i (.row e size v n xs) (fun F h => h) hi
    simpa using this
  · obtain ⟨ad, rfl⟩ : ∃ ad, ao = some ad := by
      cases ao with
      | none => exact absurd (hnone rfl).1 hm
      | some ad => exact ⟨ad, rfl⟩
    refine wpList_append_lies w hgd s x t ho 0 e i0 z size bytes ht hi0 hz0 hz1 hz2 hzs hsz v n xs hs hown ad m c news hx hl (hc ad rfl) h1 (by omega) h63 hbytes (Nat.zero_le _) _ rfl fun g' cap w' h2 h3 h4 _ => ?_
    refine h _ w' (hS.grown i h3 h2 (fun b hb => ?_) hi) ?_
    · simp only [Value.ownBlock, Option.some.injEq] at hb
      subst hb
      rcases h4 with h4 | h4
      · exact .inl h4
      · exact .inr (by rw [h4]; exact Nat.le_refl _)
    · rcases h4 with h4 | h4
      · exact .inl h4.symm
      · exact .inr ⟨g', rfl, by rw [h4]; exact Nat.le_refl _⟩
theorem St.filled {F0 : Nat → Prop} {w0 w w' : World} {cs : List Ch} (i : Nat) {T : TypeId} {sz g n : Nat} {xs : List Value} (hS : St F0 w0 cs w) (hb : Blk w' g T xs) (hk : Keeps (fun b => b = g) w w')
    (hi : cs.getD i .emp = .row T sz (.slice (some ⟨g, 0, none⟩) 0 n) 0 [] := by rfl) : St F0 w0 (cs.set i (.pt g T xs)) w' :=
  hS.turn i hi fun F h => ⟨fun b => b = g, ⟨hb, fun _ => Iff.rfl⟩, hk.mono fun b hb => by rw [hb]; exact (h.2 g).2 rfl, fun b hb => .inl (by rw [hb]; exact (h.2 g).2 rfl)⟩
end Kw
end Go

/-
  Package shelf at the tasks' names, walked: slices.Insert, Set.
-/
namespace Go.Proofs.YtnkjjhenfhnajaaGreatDoor
open Go.RowKit Go.Kw Go.Kreg Go.Tm Go.Tn

theorem overlaps_no {w : World} {g B : Nat} {T U : TypeId} {xs ys : List Value} (hg : Blk w g T xs) (hB : Blk w B U ys) (hne : B ≠ g) (hx : 0 < xs.length) (o la ca lb cb : Nat) :
    (callFunc 169 #[.slice (some ⟨B, 0, none⟩) la ca, .slice (some ⟨g, o, none⟩) lb cb]).run Tryz.prog w = .ok (.value (.bool false)) w := by
  have hz : ∀ w, (Go.sizeOf TN).run Tryz.prog w = .ok 2 w := fun w => by
    obtain ⟨i, hi, h0, h1, h2⟩ := info_parts infoN
    simp [sizeOf, typeInfo, hi, h1]
  rw [run_callFunc_extern Tryz.func169 (by kernel_rfl) (by kernel_rfl) (by kernel_rfl) (e := Extern.SlicesOverlaps.overlaps #[TNs, TNs] #[4]) (by kernel_rfl),
    Lib.run_overlaps_apart w TNs 4 TN Tryz.underlying126 2 hz ⟨B, 0, none⟩ ⟨g, o, none⟩ la ca lb cb hne U T ys.length xs.length (shape_blk hB) (shape_blk hg) (by omega) (hB.fz _) (hB.fz _)]
  rfl

theorem shift_list {cur xs : List Value} (a b : Value) {i n cap : Nat} (hct : cur.take (n * 2) = xs) (hcl : cur.length = cap * 2) (hi : i < n) (hcap : n + 1 ≤ cap) {L1 : List Value}
    (h1 : L1 = cur.take ((i + 1) * 2) ++ xs.drop (i * 2) ++ cur.drop ((i + 1) * 2 + (xs.drop (i * 2)).length)) :
    (L1.take (i * 2) ++ [a, b] ++ L1.drop (i * 2 + [a, b].length)).length = cap * 2 ∧ (L1.take (i * 2) ++ [a, b] ++ L1.drop (i * 2 + [a, b].length)).take ((n + 1) * 2) = xs.take (i * 2) ++ [a, b] ++ xs.drop (i * 2) := by
  have hxl : xs.length = n * 2 := by rw [← hct, List.length_take]; omega
  have hdl : (xs.drop (i * 2)).length = (n - i) * 2 := by rw [List.length_drop, hxl]; omega
  have e1 : L1.take (i * 2) = xs.take (i * 2) := by
    rw [h1, List.append_assoc, List.take_append_of_le_length (by rw [List.length_take]; omega), List.take_take, ← hct, List.take_take]
    congr 1; omega
  have e2 : L1.drop (i * 2 + [a, b].length) = xs.drop (i * 2) ++ cur.drop ((i + 1) * 2 + (xs.drop (i * 2)).length) := by
    rw [h1, List.append_assoc, List.drop_append_of_le_length (by rw [List.length_take]; simp; omega), List.drop_eq_nil_of_le (by rw [List.length_take]; simp; omega), List.nil_append]
  rw [e1, e2]
  constructor
  · simp only [List.length_append, List.length_take, List.length_drop, List.length_cons, List.length_nil]; omega
  · rw [← List.append_assoc, List.take_append_of_le_length (by simp only [List.length_append, List.length_take, List.length_drop, List.length_cons, List.length_nil]; omega), List.take_of_length_le (by simp only [List.length_append, List.length_take, List.length_drop, List.length_cons, List.length_nil]; omega)]

section
variable {w : World} {F : Nat → Prop} {nv a b : Value} {n B : Nat} {xs : List Value}
abbrev insF : Nat := 144

set_option maxRecDepth 100000 in
set_option maxHeartbeats 2000000 in
theorem insert_end (h : Sts [.row TN 2 nv n xs, .pt B TN [a, b]] F w) (hn : n ≤ 1000000) (h1 : ∀ u ∈ [a, b], u.oneCell' = true) :
    Calls Tryz.prog insF #[nv, .int .i64 n, .slice (some ⟨B, 0, none⟩) 1 1] w fun e w' => ∃ nv', e = .returned nv' ∧ St F w [.row TN 2 nv' (n + 1) (xs ++ [a, b]), .pt B TN [a, b]] w' := by
  have HS := hid (St.of h)
  obtain ⟨oa, oc, rfl, hle⟩ := (HS.out.own 0).shape
  have H1 := hid h1
  clear h h1
  have i0 : (0 : Int) ≤ (n : Int) := by omega
  have i1 : (n : Int) ≤ (n : Int) := by omega
  go_enter Tryz.func144, Tryz.ntmps144
  go_wp2_with (at_builtin; refine wpList_appS 0 1 _ _ TNs TN (.agg #[.string ⟨#[]⟩, .int .i64 0]) 2 24 infoN Tryz.underlying126 rfl (by decide) rfl rfl HS.out rfl rfl rfl rfl rfl H1.out (by omega) (by unfold maxLen; omega) (by omega) ?_; intro g gc w7 hSc hat)
  all_goals
    go_ret
    exact ⟨_, rfl, hSc⟩

set_option maxRecDepth 100000 in
set_option maxHeartbeats 2000000 in
theorem insert_in {g cap : Nat} (h : Sts [.row TN 2 (.slice (some ⟨g, 0, none⟩) n cap) n xs, .pt B TN [a, b]] F w) (hn : n ≤ 1000000) (h1 : ∀ u ∈ [a, b], u.oneCell' = true) (h2 : ∀ u ∈ xs, u.oneCell' = true) (i : Nat) (hi : i < n) (hcap : n + 1 ≤ cap) :
    Calls Tryz.prog insF #[.slice (some ⟨g, 0, none⟩) n cap, .int .i64 i, .slice (some ⟨B, 0, none⟩) 1 1] w fun e w' => ∃ nv', e = .returned nv' ∧ St F w [.row TN 2 nv' (n + 1) (xs.take (i * 2) ++ [a, b] ++ xs.drop (i * 2)), .pt B TN [a, b]] w' := by
  have HS := hid (St.of h)
  obtain ⟨cur, hb, hcl, hnc, hcm, hct⟩ := Own.to_blk (HS.out.own 0)
  have hB := HS.out.blk 1
  have H1 := hid h1
  have h2c : ∀ u ∈ xs.drop (i * 2), u.oneCell' = true := fun u hu => h2 u (List.mem_of_mem_drop hu)
  have hxl : xs.length = n * 2 := (HS.out.own 0).1
  have hne : B ≠ g := by
    obtain ⟨F1, F2, k1, k2, k3, _⟩ := h
    have k2 := Sts.of_one k2
    intro e; subst e
    exact k3 B ((k1.2 B).2 rfl) ((k2.2 B).2 rfl)
  have H2 := hid h2c
  have Hct := hid hct
  have Hcl := hid hcl
  have Hxl := hid hxl
  have Hb := hid hb
  have HB := hid hB
  have Hov := fun oo la ca lb cb => overlaps_no hb hB hne (by omega) oo la ca lb cb
  have i0 : (0 : Int) ≤ (i : Int) := by omega
  have i1 : (i : Int) ≤ (n : Int) := by omega
  have i2 : ((i : Int) == (n : Int)) = false := by simp; omega
  have i3 : decide ((cap : Int) < (n : Int) + 1) = false := by simp; omega
  have i4 : (n : Int) + 1 ≤ (cap : Int) := by omega
  have i5 : (i : Int) + 1 ≤ (n : Int) + 1 := by omega
  have i6 : (i : Int) ≤ (n : Int) + 1 := by omega
  have i7 : ¬ cap = i := by omega
  have i8 : ¬ cap = i + 1 := by omega
  have t1 : ((n : Int) + 1).toNat = n + 1 := by omega
  have t2 : ((i : Int) + 1).toNat = i + 1 := by omega
  have hcm' : cap ≤ 9223372036854775807 := by unfold maxLen at hcm; exact hcm
  clear h h1 h2 h2c hct hcl hxl hb hB hcm
  go_enter Tryz.func144, Tryz.ntmps144
  go_wp2_with (simp only [Hov])
  have hsz2 : (Tryz.prog.info? TN).map (·.size) = some 2 := by
    obtain ⟨i, hi, h0, h1, h2⟩ := info_parts infoN
    simp [hi, h1]
  have hd1 : (xs.drop (i * 2)).length = (n - i) * 2 := by rw [List.length_drop, Hxl.out]; omega
  have hm1 : Nat.min (n + 1 - i) (n + 1 - (i + 1)) = n - i := by show min _ _ = _; omega
  have hcx : ∀ (j : Nat) v, (xs.drop (i * 2))[j]? = some v → w.cell? ((⟨g, i * 2, none⟩ : Addr).add j) = some v := fun j v hj => by
    rw [add_at]
    rw [List.getElem?_drop, ← Hct.out, List.getElem?_take] at hj
    split at hj
    · exact Hb.out.at hj
    · cases hj
  refine wp_region_mix [true, true, true, true, true, true, true, true, false] 0 (fun _ => False) (by kernel_rfl) (by decide +kernel) ?_
  simp only [front, back, List.take_zero, List.drop_zero]
  repeat ((first | refine wpFront_load rfl ?_ | refine wpFront_other rfl ?_); (first | go_big_quiet_step (fail) | quiet_step (fail)); refine wpQuiet_nil ?_)
  refine wpFront_nil ?_
  simp only [wpSegs]
  refine wpList_copyS _ _ TNs TNs TN 2 Tryz.underlying126 hsz2 rfl rfl Hb.out.drew ((i + 1) * 2) (n + 1 - (i + 1)) (cap - (i + 1)) ⟨g, i * 2, none⟩ (n + 1 - i) (cap - i) (xs.drop (i * 2)) (by simp [Act.eval]) (by simp [Act.eval]) (by rw [hd1, hm1]) hcx (by rw [hd1, Hcl.out]; omega) H2.out ?_
  intro w1 hb1 hk1 hs1
  refine wpList_nil (NoPanic.normal ?_)
  have hB1 : Blk w1 B TN [a, b] := hk1.blk HB.out.drew hne
  have hm2 : Nat.min 1 (n + 1 - i) = 1 := by show min _ _ = _; omega
  clear hcx hm1
  go_wp2_with (refine wpList_copyS _ _ TNs TNs TN 2 Tryz.underlying126 hsz2 rfl rfl hb1 (i * 2) (n + 1 - i) (cap - i) ⟨B, 0, none⟩ 1 1 [a, b] rfl rfl (by rw [hm2]; rfl) (fun j v hj => by rw [add_at, Nat.zero_add]; exact hB1.at hj) (by simp only [List.length_append, List.length_take, List.length_drop, List.length_cons, List.length_nil, Hcl.out, Hxl.out]; omega) H1.out ?_; intro w2 hb2 hk2 hs2)
  go_ret
  refine ⟨_, rfl, ?_⟩
  have hkk : Keeps (fun k => k = g) w w2 := (((Keeps.refl (fun k => k = g) w).drew).trans hk1).trans hk2
  refine HS.out.turn 0 rfl fun F0 hF0 => ⟨F0, ⟨?_, fun b => hF0.2 b⟩, hkk.mono fun b hb => by rw [hb]; exact (hF0.2 g).2 rfl, fun _ => .inl⟩
  obtain ⟨q1, q2⟩ := shift_list a b Hct.out Hcl.out hi hcap rfl
  have q3 := Own.of_blk hb2 q1 hcap hcm'
  rw [q2] at q3
  exact q3

theorem grow_list {xs zs : List Value} (a b : Value) {i n G : Nat} (hxl : xs.length = n * 2) (hl : (xs.take (i * 2) ++ zs).length = G * 2) (hi : i < n) (hG : n + 1 ≤ G) {L1 L2 : List Value}
    (h1 : L1 = (xs.take (i * 2) ++ zs).take (i * 2) ++ [a, b] ++ (xs.take (i * 2) ++ zs).drop (i * 2 + [a, b].length)) (h2 : L2 = L1.take ((i + 1) * 2) ++ xs.drop (i * 2) ++ L1.drop ((i + 1) * 2 + (xs.drop (i * 2)).length)) :
    L1.length = G * 2 ∧ L2.length = G * 2 ∧ L2.take ((n + 1) * 2) = xs.take (i * 2) ++ [a, b] ++ xs.drop (i * 2) := by
  have hdl : (xs.drop (i * 2)).length = (n - i) * 2 := by rw [List.length_drop, hxl]; omega
  have htl : (xs.take (i * 2)).length = i * 2 := by rw [List.length_take, hxl]; omega
  have hab : [a, b].length = 2 := rfl
  have e1 : (xs.take (i * 2) ++ zs).take (i * 2) = xs.take (i * 2) := List.take_left' htl
  have l1 : L1.length = G * 2 := by
    rw [h1, e1]
    simp only [List.length_append, List.length_drop, hab] at hl ⊢
    omega
  have e2 : L1.take ((i + 1) * 2) = xs.take (i * 2) ++ [a, b] := by
    rw [h1, e1]; exact List.take_left' (by simp only [List.length_append, htl, hab]; omega)
  have l2 : L2.length = G * 2 := by
    rw [h2, e2]
    simp only [List.length_append, List.length_drop, hab, l1, hdl, htl]
    omega
  refine ⟨l1, l2, ?_⟩
  rw [h2, e2]
  exact List.take_left' (by simp only [List.length_append, htl, hab, hdl]; omega)

set_option maxRecDepth 100000 in
set_option maxHeartbeats 2000000 in
theorem insert_grow {g cap : Nat} (h : Sts [.row TN 2 (.slice (some ⟨g, 0, none⟩) n cap) n xs, .pt B TN [a, b]] F w) (hn : n ≤ 1000000) (h1 : ∀ u ∈ [a, b], u.oneCell' = true) (h2 : ∀ u ∈ xs, u.oneCell' = true) (i : Nat) (hi : i < n) (hcap : cap < n + 1) :
    Calls Tryz.prog insF #[.slice (some ⟨g, 0, none⟩) n cap, .int .i64 i, .slice (some ⟨B, 0, none⟩) 1 1] w fun e w' => ∃ nv', e = .returned nv' ∧ St F w [.row TN 2 nv' (n + 1) (xs.take (i * 2) ++ [a, b] ++ xs.drop (i * 2)), .pt B TN [a, b]] w' := by
  have HS := hid (St.of h)
  have hown := HS.out.own 0
  obtain ⟨cur, hb, hcl, hnc, hcm, hct⟩ := Own.to_blk hown
  obtain rfl : cap = n := by omega
  have H1 := hid h1
  have h2c : ∀ u ∈ xs.drop (i * 2), u.oneCell' = true := fun u hu => h2 u (List.mem_of_mem_drop hu)
  have hxl : xs.length = cap * 2 := hown.1
  have H2 := hid h2c
  have Hxl := hid hxl
  have Hown := hid hown
  have HB := hid (HS.out.blk 1)
  have hgl := hb.lt
  have hBl := HB.out.lt
  have i0 : (0 : Int) ≤ (i : Int) := by omega
  have i1 : (i : Int) ≤ (cap : Int) := by omega
  have i2 : ((i : Int) == (cap : Int)) = false := by simp; omega
  have i3 : decide ((cap : Int) < (cap : Int) + 1) = true := by simp; omega
  have i5 : (i : Int) + 1 ≤ (cap : Int) + 1 := by omega
  have i6 : (i : Int) ≤ (cap : Int) + 1 := by omega
  have i7 : ¬ cap = i := by omega
  have t1 : ((cap : Int) + 1).toNat = cap + 1 := by omega
  have t2 : ((i : Int) + 1).toNat = i + 1 := by omega
  have hkk : (cap : Int) + 1 - (i : Int) = ((cap + 1 - i : Nat) : Int) := by omega
  have hik : i + (cap + 1 - i) = cap + 1 := by omega
  have hold : ∀ (j : Nat) u, (xs.take (i * 2))[j]? = some u → w.cell? ⟨g, j, none⟩ = some u := fun j u hj => by
    rw [List.getElem?_take] at hj
    split at hj
    · exact Hown.out.cells' (g := g) rfl hj
    · cases hj
  have Hold := hid hold
  have Hkk := hid hkk
  have Hik := hid hik
  clear h h1 h2 h2c hct hcl hxl hb hown hold hkk hik
  go_enter Tryz.func144, Tryz.ntmps144
  have hsz2 : (Tryz.prog.info? TN).map (·.size) = some 2 := by
    obtain ⟨i, hi, h0, h1, h2⟩ := info_parts infoN
    simp [hi, h1]
  have hm2 : Nat.min 1 (cap + 1 - i) = 1 := by show min _ _ = _; omega
  go_wp2_with (first
    | (at_builtin; refine wpList_app_zeros _ _ TNs 3 TN (.agg #[.string ⟨#[]⟩, .int .i64 0]) 2 24 .i64 .i64 infoN Tryz.underlying126 Tryz.underlying3 rfl (by decide) rfl rfl g i cap (xs.take (i * 2)) rfl (by rw [List.length_take, Hxl.out]; omega) Hold.out (cap + 1 - i) (cap + 1) Hik.out (by omega) (by show Value.int .i64 _ = _; rw [← Hkk.out]) (by omega) (by unfold maxLen; omega) (by omega) ?_; intro g2 G w1 zs hb1 hl1 hG1 hG2 hg2 hk1; have i8 : ¬ G = i := (by omega); have hBw1 : Blk w1 B TN [a, b] := hk1.blk HB.out id; have Hg2 := hid hg2; have Hl1 := hid hl1; clear hg2 hl1)
    | (refine wpList_copyS _ _ TNs TNs TN 2 Tryz.underlying126 hsz2 rfl rfl hb1 (i * 2) (cap + 1 - i) (G - i) ⟨B, 0, none⟩ 1 1 [a, b] rfl rfl (by rw [hm2]; rfl) (fun j v hj => by rw [add_at, Nat.zero_add]; exact hBw1.at hj) (by rw [Hl1.out]; simp only [List.length_cons, List.length_nil]; omega) H1.out ?_; intro w2 hb2 hk2 hs2))
  have HG2 := hid hG2
  have i9 : ¬ G = i + 1 := by omega
  have hgg : g ≠ g2 := by have := Hg2.out; omega
  have hBg : B ≠ g2 := by have := Hg2.out; omega
  clear hG2
  have hcx : ∀ (j : Nat) v, (xs.drop (i * 2))[j]? = some v → w2.cell? ((⟨g, i * 2, none⟩ : Addr).add j) = some v := fun j v hj => by
    rw [add_at]
    rw [List.getElem?_drop] at hj
    have o2 := (Hown.out.keeps hk1 fun _ _ => id).keeps hk2 (fun b hb e => by simp only [Value.ownBlock, Option.some.injEq] at hb; omega)
    exact o2.cells' (g := g) rfl hj
  have Hcx := hid hcx
  have hd1 : (xs.drop (i * 2)).length = (cap - i) * 2 := by rw [List.length_drop, Hxl.out]; omega
  have hm1 : Nat.min (cap - i) (cap + 1 - (i + 1)) = cap - i := by show min _ _ = _; omega
  obtain ⟨g1, g3, g4⟩ := grow_list a b Hxl.out Hl1.out hi hG1 rfl rfl
  have G3 := hid g3
  have G4 := hid g4
  clear hcx g3 g4
  refine wp_region_mix [true, true, true, true, true, true, true, true, false] 0 (fun _ => False) (by kernel_rfl) (by decide +kernel) ?_
  simp only [front, back, List.take_zero, List.drop_zero]
  repeat ((first | refine wpFront_load rfl ?_ | refine wpFront_other rfl ?_); (first | go_big_quiet_step (fail) | quiet_step (fail)); refine wpQuiet_nil ?_)
  refine wpFront_nil ?_
  simp only [wpSegs]
  refine wpList_copyS _ _ TNs TNs TN 2 Tryz.underlying126 hsz2 rfl rfl hb2.drew ((i + 1) * 2) (cap + 1 - (i + 1)) (G - (i + 1)) ⟨g, i * 2, none⟩ (cap - i) (cap - i) (xs.drop (i * 2)) (by simp [Act.eval]) (by simp [Act.eval]) (by rw [hd1, hm1]) Hcx.out (by rw [g1, hd1]; omega) H2.out ?_
  intro w3 hb3 hk3 hs3
  refine wpList_nil (NoPanic.normal ?_)
  go_wp2_with fail
  go_ret
  refine ⟨.slice (some ⟨g2, 0, none⟩) (cap + 1) G, rfl, ?_⟩
  have k13 : Keeps (fun k => k = g2) w1 w3 := (hk2.drew).trans hk3
  have k03 : Keeps (fun _ => False) w w3 := hk1.trans' k13 fun b hb => .inr (by rw [hb, Hg2.out]; exact Nat.le_refl _)
  have q3 := Own.of_blk hb3 G3.out hG1 HG2.out
  rw [G4.out] at q3
  refine HS.out.turn 0 rfl fun F0 hF0 => ⟨fun b => b = g2, ⟨q3, fun b => ?_⟩, k03.mono fun b hb => hb.elim, fun b hb => .inr ?_⟩
  · rw [Value.ownBlock, Option.some.injEq]; exact eq_comm
  · rw [hb, Hg2.out]; exact Nat.le_refl _

theorem insert_any (h : Sts [.row TN 2 nv n xs, .pt B TN [a, b]] F w) (hn : n ≤ 1000000) (h1 : ∀ u ∈ [a, b], u.oneCell' = true) (h2 : ∀ u ∈ xs, u.oneCell' = true) (i : Nat) (hi : i ≤ n) :
    Calls Tryz.prog insF #[nv, .int .i64 i, .slice (some ⟨B, 0, none⟩) 1 1] w fun e w' => ∃ nv', e = .returned nv' ∧ St F w [.row TN 2 nv' (n + 1) (xs.take (i * 2) ++ [a, b] ++ xs.drop (i * 2)), .pt B TN [a, b]] w' := by
  have hown := (St.of h).own 0
  have hxl : xs.length = n * 2 := hown.1
  by_cases hlt : i < n
  · obtain ⟨g, cap, rfl, _⟩ := hown.form (by omega)
    by_cases hc : n + 1 ≤ cap
    · exact insert_in h hn h1 h2 i hlt hc
    · exact insert_grow h hn h1 h2 i hlt (by omega)
  · obtain rfl : i = n := by omega
    rw [List.take_of_length_le (by omega), List.drop_eq_nil_of_le (by omega), List.append_nil]
    exact insert_end h hn h1

theorem namesC_one (ns : List Tn.Row) : ∀ u ∈ namesC ns, u.oneCell' = true := by
  intro u hu
  simp only [namesC, List.mem_flatMap, List.mem_cons, List.not_mem_nil, or_false] at hu
  obtain ⟨r, _, rfl | rfl⟩ := hu <;> rfl
theorem namesC_laid (k : ByteArray) (v : Nat) (ns : List Tn.Row) : namesC (laid k v ns) = (namesC ns).take (below k ns * 2) ++ [.string k, .int .i64 v] ++ (namesC ns).drop (below k ns * 2) := by
  have hl : (namesC (ns.take (below k ns))).length = below k ns * 2 := by rw [namesC_len, List.length_take]; have := below_le k ns; omega
  have e : namesC ns = namesC (ns.take (below k ns)) ++ namesC (ns.drop (below k ns)) := by rw [← namesC_app, List.take_append_drop]
  conv => rhs; rw [e]
  rw [List.take_left' hl, List.drop_left' hl]
  simp [laid, namesC]

set_option maxRecDepth 100000 in
set_option maxHeartbeats 2000000 in
theorem nset_any {p o : Nat} {T : TypeId} {ys : List Value} {ns : List Tn.Row} (H : Sts [.pt p T ys, .row TN 2 nv ns.length (namesC ns)] F w) (ho : ys[o]? = some nv) (hr : Rise ns) (hn : ns.length ≤ 100000) (k : ByteArray) (v : Nat) (hf : foundAt k ns = false) :
    Calls Tryz.prog 83 #[.pointer (some ⟨p, o, none⟩), .string k, .int .i64 v] w fun e w' => e = .returned (.bool true) ∧ ∃ nv', St F w [.pt p T (ys.set o nv'), .row TN 2 nv' (ns.length + 1) (namesC (laid k v ns))] w' := by
  have HS := hid (St.of H)
  have hc := (HS.out.blk 0).at ho
  have hs := nfind_any hc (HS.out.own 1) hr (by omega) k
  have hble := below_le k ns
  rw [hf] at hs
  rw [namesC_laid]
  generalize below k ns = I at *
  clear H hf hr
  go_enter Tryz.func83, Tryz.ntmps83
  go_wp2_with fail
  refine hs.mono ?_; rintro e w2 ⟨rfl, k2⟩
  have HS2 := hid (HS.out.step k2)
  have hc2 := cellIn k2 hc
  clear hs hc HS k2
  have hS3 := HS2.out.new TN [.string k, .int .i64 v]
  simp only [Kw.red] at hS3
  obtain ⟨F1, g1, _, hout, back⟩ := hS3.sel [1, 2]
  have hp : ¬ F1 p := hout 0 p T ys rfl
  have g2 : Sts [.row TN 2 nv ns.length (namesC ns), .pt w2.heap.size TN [.string k, .int .i64 v]] F1 _ := g1
  have hi := insert_any g2 (by omega) (by intro u hu; simp only [List.mem_cons, List.not_mem_nil, or_false] at hu; rcases hu with rfl | rfl <;> rfl) (namesC_one ns) I hble
  clear hS3 g1 g2 HS2
  go_wp2_with fail
  refine hi.mono ?_; rintro e w4 ⟨nv', rfl, hS⟩
  have hS := back hS
  simp only [Kw.red] at hS
  have hc4 := (hS.blk 0).at ho
  have hz4 := (hS.blk 0).fz o
  obtain ⟨na, nc, rfl, _⟩ := (hS.own 1).shape
  have HS4 := hid hS
  clear hS back hi hc2
  go_wp2_with fail
  go_ret
  refine ⟨rfl, .slice na (ns.length + 1) nc, ?_⟩
  exact (HS4.out.set 0 o (.slice na (ns.length + 1) nc)).sub [0, 1]
end
end Go.Proofs.YtnkjjhenfhnajaaGreatDoor
