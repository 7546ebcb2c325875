/-
  Package shelf at the tasks' names, walked: find, Get.
-/
import Derived.Test.YtkaecdkmalppcaaDoorTs
namespace Go.Proofs.YtkaecdkmalppcaaDoor
open Go.RowKit Go.Kw Go.Kreg Go.Tm Go.Tn

abbrev TN : Nat := 90
abbrev TNs : Nat := 62
abbrev cmpF : Nat := 49
theorem infoN : (Tryd.prog.info? TN).map (fun i => (i.zero, i.size, i.bytes)) = some (some (.agg #[.string ⟨#[]⟩, .int .i64 0]), 2, 24) := by kernel_rfl
def namesC (ns : List Tn.Row) : List Value := ns.flatMap fun r => [.string r.1, .int .i64 r.2]
theorem namesC_len (ns : List Tn.Row) : (namesC ns).length = ns.length * 2 := by
  induction ns with
  | nil => rfl
  | cons r ns ih => simp only [namesC, List.flatMap_cons, List.length_append, List.length_cons, List.length_nil] at *; omega
theorem namesC_app (l r : List Tn.Row) : namesC (l ++ r) = namesC l ++ namesC r := by simp [namesC]
theorem namesC_at {ns : List Tn.Row} {i : Nat} {r : Tn.Row} (h : ns[i]? = some r) : (namesC ns)[i * 2]? = some (.string r.1) ∧ (namesC ns)[i * 2 + 1]? = some (.int .i64 r.2) := by
  have hs : ns = ns.take i ++ (r :: ns.drop (i + 1)) := by
    have := (List.getElem?_eq_some_iff.1 h)
    rw [← this.2, List.getElem_cons_drop, List.take_append_drop]
  have hl : (namesC (ns.take i)).length = i * 2 := by
    rw [namesC_len, List.length_take]; have := (List.getElem?_eq_some_iff.1 h).1; omega
  have e : namesC ns = namesC (ns.take i) ++ ([.string r.1, .int .i64 r.2] ++ namesC (ns.drop (i + 1))) := by
    conv => lhs; rw [hs]
    simp [namesC]
  rw [e]
  constructor
  all_goals
    rw [List.getElem?_append_right (by omega), hl]
    simp
def cmpOf (a k : ByteArray) : Int := if less a k = true then -1 else if a = k then 0 else 1

set_option maxRecDepth 100000 in
theorem cmp_any (w : World) (a k : ByteArray) (v : Int) : Calls Tryd.prog cmpF #[.agg #[.string a, .int .i64 v], .string k] w fun e w' => e = .returned (.int .i64 (cmpOf a k)) ∧ Keeps (fun _ => False) w w' := by
  unfold cmpOf less
  have hgt : ∀ w, (binOp .gtr 9 (.string a) (.string k)).run Tryd.prog w = .ok (.bool (!(Op.bytesLess a.toList k.toList || a.toList == k.toList))) w := fun w => by simp [binOp, Op.stringOp]
  by_cases h1 : Op.bytesLess a.toList k.toList = true
  · rw [if_pos h1]
    go_enter Tryd.func49, Tryd.ntmps49
    go_wp2_with fail
    go_ret
    exact ⟨rfl, (Keeps.refl _ _).alloc _⟩
  · have h1 : Op.bytesLess a.toList k.toList = false := by simpa using h1
    rw [if_neg (by simp [h1])]
    by_cases h2 : a = k
    · have h3 : (a.toList == k.toList) = true := by simp [h2]
      rw [h1, h3] at hgt
      rw [if_pos h2]
      clear h2
      go_enter Tryd.func49, Tryd.ntmps49
      go_wp2_with fail
      go_ret
      exact ⟨rfl, (Keeps.refl _ _).alloc _⟩
    · have h3 : (a.toList == k.toList) = false := by simpa using fun e => h2 (toList_inj e)
      rw [h1, h3] at hgt
      rw [if_neg h2]
      clear h2
      go_enter Tryd.func49, Tryd.ntmps49
      go_wp2_with fail
      go_ret
      exact ⟨rfl, (Keeps.refl _ _).alloc _⟩

section
variable {w : World} {nv : Value} {ns : List Tn.Row}

set_option maxRecDepth 100000 in
set_option maxHeartbeats 2000000 in
theorem search_any (hown : Own w TN 2 nv ns.length (namesC ns)) (hr : Rise ns) (hn : ns.length ≤ 1000000) (k : ByteArray) :
    Calls Tryd.prog 48 #[nv, .string k, .func (.func cmpF) #[] #[]] w fun e w' => e = .returned (.tuple #[.int .i64 (below k ns), .bool (foundAt k ns)]) ∧ Keeps (fun _ => False) w w' := by
  obtain ⟨oa, oc, rfl, _⟩ := hown.shape
  have hbl := below_le k ns
  have hlow : ∀ (i : Nat) (a : Tn.Row), ns[i]? = some a → (less a.1 k = true ↔ i < below k ns) := fun i a h => below_iff hr h
  have hfo : foundAt k ns = match ns[below k ns]? with | some a => decide (a.1 = k) | none => false := rfl
  have Hown := hid hown
  generalize below k ns = B at *
  generalize foundAt k ns = fd at *
  have Hlow := hid hlow
  have Hfo := hid hfo
  clear hr hown hlow hfo
  go_enter Tryd.func48, Tryd.ntmps48
  go_wp2_with fail
  go_loopw [9, 10] (fun x y wr => ∃ i j : Nat, i ≤ B ∧ B ≤ j ∧ j ≤ ns.length ∧ x = .int .i64 i ∧ y = .int .i64 j ∧ Keeps (fun _ => False) w wr) (fun x y _ => (intOf y).toNat - (intOf x).toNat)
  case atStart => exact ⟨0, ns.length, Nat.zero_le _, hbl, Nat.le_refl _, rfl, rfl, Keeps.refl _ _⟩
  case round =>
    obtain ⟨i, j, hi, hj, hjn, rfl, rfl, hK⟩ := hrel
    have HK := hid hK
    clear hK
    by_cases hlt : i < j
    · have b1 : decide ((i : Int) < (j : Int)) = true := by simp; omega
      have hw1 : IntKind.i64.wrap ((i : Int) + (j : Int)) = (i : Int) + (j : Int) := by rw [IntKind.wrap_i64]; omega
      have hhn : (i + j) / 2 < ns.length := by omega
      obtain ⟨g, cap, e1, _⟩ := Hown.out.form (by omega)
      cases e1
      have hx := List.getElem?_eq_getElem hhn
      have hlb := Hlow.out _ _ hx
      obtain ⟨x0, x1⟩ := namesC_at hx
      generalize ns[(i + j) / 2] = r at *
      have d0 := cellIn HK.out (Hown.out.cells' (g := g) rfl x0)
      have d1 := cellIn HK.out (Hown.out.cells' (g := g) rfl x1)
      clear x0 x1 hx
      have hcmp := fun w => cmp_any w r.1 k r.2
      by_cases hl : less r.1 k = true
      · have e0 : cmpOf r.1 k = -1 := if_pos hl
        rw [e0] at hcmp
        have hm := hlb.1 hl
        clear hlb hl e0
        go_wp2_with fail
        refine (hcmp _).mono ?_; rintro e w2 ⟨rfl, k2⟩
        have HK2 := hid (HK.out.trans k2)
        clear k2 HK hcmp
        go_wp2_with fail
        go_roundw
        case rel => exact ⟨(i + j) / 2 + 1, j, by omega, hj, hjn, by go_num, rfl, HK2.out⟩
        case measure => simp [intOf]; omega
      · have hm : ¬ (i + j) / 2 < B := fun h => hl (hlb.2 h)
        have hle : i ≤ (i + j) / 2 := by omega
        obtain ⟨c, hcv, hc0⟩ : ∃ c : Int, cmpOf r.1 k = c ∧ 0 ≤ c := by unfold cmpOf; rw [if_neg hl]; split <;> exact ⟨_, rfl, by omega⟩
        rw [hcv] at hcmp
        have b2 : decide (c < 0) = false := by simp; omega
        clear hlb hl hcv
        go_wp2_with fail
        refine (hcmp _).mono ?_; rintro e w2 ⟨rfl, k2⟩
        have HK2 := hid (HK.out.trans k2)
        clear k2 HK hcmp
        go_wp2_with fail
        go_roundw
        case rel => exact ⟨i, (i + j) / 2, hi, by omega, by omega, rfl, by go_num, HK2.out⟩
        case measure => simp [intOf]; omega
    · have b1 : decide ((i : Int) < (j : Int)) = false := by simp; omega
      have eB : B = i := by omega
      subst eB
      have b2 : B ≤ ns.length := by omega
      by_cases hend : B < ns.length
      · have hx := List.getElem?_eq_getElem hend
        have hlb := Hlow.out _ _ hx
        have hfo := Hfo.out
        rw [hx] at hfo
        simp only at hfo
        obtain ⟨g, cap, e1, _⟩ := Hown.out.form (by omega)
        cases e1
        obtain ⟨x0, x1⟩ := namesC_at hx
        generalize ns[B] = r at *
        have d0 := cellIn HK.out (Hown.out.cells' (g := g) rfl x0)
        have d1 := cellIn HK.out (Hown.out.cells' (g := g) rfl x1)
        have b3 : decide ((B : Int) < (ns.length : Int)) = true := by simp; omega
        have i0 : (0 : Int) ≤ (B : Int) := by omega
        have i1 : (B : Int) < (ns.length : Int) := by omega
        have hl : ¬ less r.1 k = true := fun h => by have := hlb.1 h; omega
        clear x0 x1 hx hlb
        have hcmp := fun w => cmp_any w r.1 k r.2
        by_cases he : r.1 = k
        · have e0 : cmpOf r.1 k = 0 := by unfold cmpOf; rw [if_neg hl, if_pos he]
          rw [e0] at hcmp
          obtain rfl : fd = true := by rw [hfo]; simpa using he
          clear he e0 hl hfo
          go_wp2_with fail
          refine (hcmp _).mono ?_; rintro e w2 ⟨rfl, k2⟩
          have HK2 := hid (HK.out.trans k2)
          clear k2 HK hcmp
          go_wp2_with fail
          go_ret2
          exact ⟨rfl, HK2.out⟩
        · have e0 : cmpOf r.1 k = 1 := by unfold cmpOf; rw [if_neg hl, if_neg he]
          rw [e0] at hcmp
          obtain rfl : fd = false := by rw [hfo]; simpa using he
          clear he e0 hl hfo
          go_wp2_with fail
          refine (hcmp _).mono ?_; rintro e w2 ⟨rfl, k2⟩
          have HK2 := hid (HK.out.trans k2)
          clear k2 HK hcmp
          go_wp2_with fail
          go_ret2
          exact ⟨rfl, HK2.out⟩
      · obtain rfl : fd = false := by rw [Hfo.out, List.getElem?_eq_none (by omega)]
        have b3 : decide ((B : Int) < (ns.length : Int)) = false := by simp; omega
        go_wp2_with fail
        go_ret2
        exact ⟨rfl, HK.out⟩
variable {p o : Nat}
set_option maxRecDepth 100000 in
theorem nfind_any (hc : w.cell? ⟨p, o, none⟩ = some nv) (hown : Own w TN 2 nv ns.length (namesC ns)) (hr : Rise ns) (hn : ns.length ≤ 1000000) (k : ByteArray) :
    Calls Tryd.prog 39 #[.pointer (some ⟨p, o, none⟩), .string k] w fun e w' => e = .returned (.tuple #[.int .i64 (below k ns), .bool (foundAt k ns)]) ∧ Keeps (fun _ => False) w w' := by
  have hs := search_any hown hr hn k
  clear hown hr
  go_enter Tryd.func39, Tryd.ntmps39
  go_wp2_with fail
  refine hs.mono ?_; rintro e w2 ⟨rfl, k2⟩
  clear hs
  go_wp2_with fail
  go_ret2
  exact ⟨rfl, k2⟩

set_option maxRecDepth 100000 in
set_option maxHeartbeats 1000000 in
theorem nget_any (hc : w.cell? ⟨p, o, none⟩ = some nv) (hown : Own w TN 2 nv ns.length (namesC ns)) (hr : Rise ns) (hn : ns.length ≤ 1000000) (k : ByteArray) :
    Calls Tryd.prog 32 #[.pointer (some ⟨p, o, none⟩), .string k] w fun e w' => e = .returned (.tuple #[.int .i64 (if foundAt k ns then Tn.atOf k ns else 0 : Nat), .bool (foundAt k ns)]) ∧ Keeps (fun _ => False) w w' := by
  have hs := nfind_any hc hown hr hn k
  by_cases hf : foundAt k ns = true
  · have hb : ∃ r, ns[below k ns]? = some r ∧ Tn.atOf k ns = r.2 := by
      unfold foundAt at hf
      unfold Tn.atOf
      split at hf
      · rename_i a ha; exact ⟨a, ha, rfl⟩
      · cases hf
    obtain ⟨r, hx, ha⟩ := hb
    rw [hf] at hs ⊢
    rw [if_pos rfl, ha]
    have hlt := (List.getElem?_eq_some_iff.1 hx).1
    obtain ⟨x0, x1⟩ := namesC_at hx
    obtain ⟨g, cap, e1, _⟩ := hown.form (by omega)
    subst e1
    have d1 := hown.cells' (g := g) rfl x1
    generalize below k ns = B at *
    have i0 : (0 : Int) ≤ (B : Int) := by omega
    have i1 : (B : Int) < (ns.length : Int) := by omega
    clear x0 x1 hx ha hf hown hr
    go_enter Tryd.func32, Tryd.ntmps32
    go_wp2_with fail
    refine hs.mono ?_; rintro e w2 ⟨rfl, k2⟩
    have d1' := cellIn k2 d1
    have hc' := cellIn k2 hc
    clear hs d1 hc
    go_wp2_with fail
    go_ret2
    exact ⟨rfl, k2⟩
  · have hf : foundAt k ns = false := by simpa using hf
    rw [hf] at hs ⊢
    clear hf hown hr
    go_enter Tryd.func32, Tryd.ntmps32
    go_wp2_with fail
    refine hs.mono ?_; rintro e w2 ⟨rfl, k2⟩
    clear hs
    go_wp2_with fail
    go_ret2
    exact ⟨by simp, k2⟩
end
end Go.Proofs.YtkaecdkmalppcaaDoor
