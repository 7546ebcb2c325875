/-
  Package shelf at the units' holders, walked: find, Get.
-/
import Derived.Test.YtdjgijndcjbpiaaGreatDoorG10
import Derived.Test.YtdjgijndcjbpiaaGreatDoorIn
namespace Go.Proofs.YtdjgijndcjbpiaaGreatDoor
open Go.RowKit Go.Kw Go.Kreg Go.Tm
set_option linter.unusedSimpArgs false
set_option linter.unusedVariables false

abbrev THr : Nat := 249
abbrev THrs : Nat := 173
abbrev hcmpF : Nat := 186
theorem infoHr : (Tryz.prog.info? THr).map (fun i => (i.zero, i.size, i.bytes)) = some (some (.agg #[.int .i64 0, .pointer none]), 2, 16) := by kernel_rfl
def hrowsC (ns : List In.Row) : List Value := ns.flatMap fun r => [.int .i64 r.1, .pointer (some ⟨r.2, 0, none⟩)]
theorem hrowsC_len (ns : List In.Row) : (hrowsC ns).length = ns.length * 2 := by
  induction ns with
  | nil => rfl
  | cons r ns ih => simp only [hrowsC, List.flatMap_cons, List.length_append, List.length_cons, List.length_nil] at *; omega
theorem hrowsC_app (l r : List In.Row) : hrowsC (l ++ r) = hrowsC l ++ hrowsC r := by simp [hrowsC]
theorem hrowsC_at {ns : List In.Row} {i : Nat} {r : In.Row} (h : ns[i]? = some r) : (hrowsC ns)[i * 2]? = some (.int .i64 r.1) ∧ (hrowsC ns)[i * 2 + 1]? = some (.pointer (some ⟨r.2, 0, none⟩)) := by
  have hs : ns = ns.take i ++ (r :: ns.drop (i + 1)) := by
    have := (List.getElem?_eq_some_iff.1 h)
    rw [← this.2, List.getElem_cons_drop, List.take_append_drop]
  have hl : (hrowsC (ns.take i)).length = i * 2 := by
    rw [hrowsC_len, List.length_take]; have := (List.getElem?_eq_some_iff.1 h).1; omega
  have e : hrowsC ns = hrowsC (ns.take i) ++ ([.int .i64 r.1, .pointer (some ⟨r.2, 0, none⟩)] ++ hrowsC (ns.drop (i + 1))) := by
    conv => lhs; rw [hs]
    simp [hrowsC]
  rw [e]
  constructor
  all_goals
    rw [List.getElem?_append_right (by omega), hl]
    simp
def hcmpOf (a k : Int) : Int := if a < k then -1 else if a = k then 0 else 1

set_option maxRecDepth 100000 in
theorem hcmp_any (w : World) (a k : Int) (v : Nat) : Calls Tryz.prog hcmpF #[.agg #[.int .i64 a, .pointer (some ⟨v, 0, none⟩)], .int .i64 k] w fun e w' => e = .returned (.int .i64 (hcmpOf a k)) ∧ Keeps (fun _ => False) w w' := by
  unfold hcmpOf
  by_cases h1 : a < k
  · have b1 : decide (a < k) = true := by simpa using h1
    rw [if_pos h1]
    clear h1
    go_enter Tryz.func186, Tryz.ntmps186
    go_wp2_with fail
    go_ret
    exact ⟨rfl, (Keeps.refl _ _).alloc _⟩
  · have b1 : decide (a < k) = false := by simpa using h1
    rw [if_neg h1]
    by_cases h2 : a = k
    · have b2 : decide (k < a) = false := by simp; omega
      rw [if_pos h2]
      clear h1 h2
      go_enter Tryz.func186, Tryz.ntmps186
      go_wp2_with fail
      go_ret
      exact ⟨rfl, (Keeps.refl _ _).alloc _⟩
    · have b2 : decide (k < a) = true := by simp; omega
      rw [if_neg h2]
      clear h1 h2
      go_enter Tryz.func186, Tryz.ntmps186
      go_wp2_with fail
      go_ret
      exact ⟨rfl, (Keeps.refl _ _).alloc _⟩

section
variable {w : World} {nv : Value} {ns : List In.Row}

set_option maxRecDepth 100000 in
set_option maxHeartbeats 2000000 in
theorem hsearch_any (hown : Own w THr 2 nv ns.length (hrowsC ns)) (hr : In.Rise ns) (hn : ns.length ≤ 1000000) (k : Int) :
    Calls Tryz.prog 185 #[nv, .int .i64 k, .func (.func hcmpF) #[] #[]] w fun e w' => e = .returned (.tuple #[.int .i64 (In.below k ns), .bool (In.foundAt k ns)]) ∧ Keeps (fun _ => False) w w' := by
  obtain ⟨oa, oc, rfl, _⟩ := hown.shape
  have hbl := In.below_le k ns
  have hlow : ∀ (i : Nat) (a : In.Row), ns[i]? = some a → (a.1 < k ↔ i < In.below k ns) := fun i a h => In.below_iff hr h
  have hfo : In.foundAt k ns = match ns[In.below k ns]? with | some a => decide (a.1 = k) | none => false := rfl
  have Hown := hid hown
  generalize In.below k ns = B at *
  generalize In.foundAt k ns = fd at *
  have Hlow := hid hlow
  have Hfo := hid hfo
  clear hr hown hlow hfo
  go_enter Tryz.func185, Tryz.ntmps185
  go_wp2_with fail
  go_loopw [9, 10] (fun x y wr => ∃ i j : Nat, i ≤ B ∧ B ≤ j ∧ j ≤ ns.length ∧ x = .int .i64 i ∧ y = .int .i64 j ∧ Keeps (fun _ => False) w wr) (fun x y _ => (intOf y).toNat - (intOf x).toNat)
  case atStart => exact ⟨0, ns.length, Nat.zero_le _, hbl, Nat.le_refl _, rfl, rfl, Keeps.refl _ _⟩
  case round =>
    obtain ⟨i, j, hi, hj, hjn, rfl, rfl, hK⟩ := hrel
    have HK := hid hK
    clear hK
    by_cases hlt : i < j
    · have b1 : decide ((i : Int) < (j : Int)) = true := by simp; omega
      have hw1 : IntKind.i64.wrap ((i : Int) + (j : Int)) = (i : Int) + (j : Int) := by rw [IntKind.wrap_i64]; omega
      have hhn : (i + j) / 2 < ns.length := by omega
      obtain ⟨g, cap, e1, _⟩ := Hown.out.form (by omega)
      cases e1
      have hx := List.getElem?_eq_getElem hhn
      have hlb := Hlow.out _ _ hx
      obtain ⟨x0, x1⟩ := hrowsC_at hx
      generalize ns[(i + j) / 2] = r at *
      have d0 := cellIn HK.out (Hown.out.cells' (g := g) rfl x0)
      have d1 := cellIn HK.out (Hown.out.cells' (g := g) rfl x1)
      clear x0 x1 hx
      have hcmp := fun w => hcmp_any w r.1 k r.2
      by_cases hl : r.1 < k
      · have e0 : hcmpOf r.1 k = -1 := if_pos hl
        rw [e0] at hcmp
        have hm := hlb.1 hl
        clear hlb hl e0
        go_wp2_with fail
        refine (hcmp _).mono ?_; rintro e w2 ⟨rfl, k2⟩
        have HK2 := hid (HK.out.trans k2)
        clear k2 HK hcmp
        go_wp2_with fail
        go_roundw
        case rel => exact ⟨(i + j) / 2 + 1, j, by omega, hj, hjn, by go_num, rfl, HK2.out⟩
        case measure => simp [intOf]; omega
      · have hm : ¬ (i + j) / 2 < B := fun h => hl (hlb.2 h)
        have hle : i ≤ (i + j) / 2 := by omega
        obtain ⟨c, hcv, hc0⟩ : ∃ c : Int, hcmpOf r.1 k = c ∧ 0 ≤ c := by unfold hcmpOf; rw [if_neg hl]; split <;> exact ⟨_, rfl, by omega⟩
        rw [hcv] at hcmp
        have b2 : decide (c < 0) = false := by simp; omega
        clear hlb hl hcv
        go_wp2_with fail
        refine (hcmp _).mono ?_; rintro e w2 ⟨rfl, k2⟩
        have HK2 := hid (HK.out.trans k2)
        clear k2 HK hcmp
        go_wp2_with fail
        go_roundw
        case rel => exact ⟨i, (i + j) / 2, hi, by omega, by omega, rfl, by go_num, HK2.out⟩
        case measure => simp [intOf]; omega
    · have b1 : decide ((i : Int) < (j : Int)) = false := by simp; omega
      have eB : B = i := by omega
      subst eB
      have b2 : B ≤ ns.length := by omega
      by_cases hend : B < ns.length
      · have hx := List.getElem?_eq_getElem hend
        have hlb := Hlow.out _ _ hx
        have hfo := Hfo.out
        rw [hx] at hfo
        simp only at hfo
        obtain ⟨g, cap, e1, _⟩ := Hown.out.form (by omega)
        cases e1
        obtain ⟨x0, x1⟩ := hrowsC_at hx
        generalize ns[B] = r at *
        have d0 := cellIn HK.out (Hown.out.cells' (g := g) rfl x0)
        have d1 := cellIn HK.out (Hown.out.cells' (g := g) rfl x1)
        have b3 : decide ((B : Int) < (ns.length : Int)) = true := by simp; omega
        have i0 : (0 : Int) ≤ (B : Int) := by omega
        have i1 : (B : Int) < (ns.length : Int) := by omega
        have hl : ¬ r.1 < k := fun h => by have := hlb.1 h; omega
        clear x0 x1 hx hlb
        have hcmp := fun w => hcmp_any w r.1 k r.2
        by_cases he : r.1 = k
        · have e0 : hcmpOf r.1 k = 0 := by unfold hcmpOf; rw [if_neg hl, if_pos he]
          rw [e0] at hcmp
          obtain rfl : fd = true := by rw [hfo]; simpa using he
          clear he e0 hl hfo
          go_wp2_with fail
          refine (hcmp _).mono ?_; rintro e w2 ⟨rfl, k2⟩
          have HK2 := hid (HK.out.trans k2)
          clear k2 HK hcmp
          go_wp2_with fail
          go_ret2
          exact ⟨rfl, HK2.out⟩
        · have e0 : hcmpOf r.1 k = 1 := by unfold hcmpOf; rw [if_neg hl, if_neg he]
          rw [e0] at hcmp
          obtain rfl : fd = false := by rw [hfo]; simpa using he
          clear he e0 hl hfo
          go_wp2_with fail
          refine (hcmp _).mono ?_; rintro e w2 ⟨rfl, k2⟩
          have HK2 := hid (HK.out.trans k2)
          clear k2 HK hcmp
          go_wp2_with fail
          go_ret2
          exact ⟨rfl, HK2.out⟩
      · obtain rfl : fd = false := by rw [Hfo.out, List.getElem?_eq_none (by omega)]
        have b3 : decide ((B : Int) < (ns.length : Int)) = false := by simp; omega
        go_wp2_with fail
        go_ret2
        exact ⟨rfl, HK.out⟩
variable {p o : Nat}
set_option maxRecDepth 100000 in
theorem hfind_any (hc : w.cell? ⟨p, o, none⟩ = some nv) (hown : Own w THr 2 nv ns.length (hrowsC ns)) (hr : In.Rise ns) (hn : ns.length ≤ 1000000) (k : Int) :
    Calls Tryz.prog 163 #[.pointer (some ⟨p, o, none⟩), .int .i64 k] w fun e w' => e = .returned (.tuple #[.int .i64 (In.below k ns), .bool (In.foundAt k ns)]) ∧ Keeps (fun _ => False) w w' := by
  have hs := hsearch_any hown hr hn k
  clear hown hr
  go_enter Tryz.func163, Tryz.ntmps163
  go_wp2_with fail
  refine hs.mono ?_; rintro e w2 ⟨rfl, k2⟩
  clear hs
  go_wp2_with fail
  go_ret2
  exact ⟨rfl, k2⟩

set_option maxRecDepth 100000 in
set_option maxHeartbeats 1000000 in
theorem hget_any (hc : w.cell? ⟨p, o, none⟩ = some nv) (hown : Own w THr 2 nv ns.length (hrowsC ns)) (hr : In.Rise ns) (hn : ns.length ≤ 1000000) (k : Int) :
    Calls Tryz.prog 121 #[.pointer (some ⟨p, o, none⟩), .int .i64 k] w fun e w' => e = .returned (.tuple #[.pointer (if In.foundAt k ns then some ⟨In.atOf k ns, 0, none⟩ else none), .bool (In.foundAt k ns)]) ∧ Keeps (fun _ => False) w w' := by
  have hs := hfind_any hc hown hr hn k
  by_cases hf : In.foundAt k ns = true
  · have hb : ∃ r, ns[In.below k ns]? = some r ∧ In.atOf k ns = r.2 := by
      unfold In.foundAt at hf
      unfold In.atOf
      split at hf
      · rename_i a ha; exact ⟨a, ha, rfl⟩
      · cases hf
    obtain ⟨r, hx, ha⟩ := hb
    rw [hf] at hs ⊢
    rw [if_pos rfl, ha]
    have hlt := (List.getElem?_eq_some_iff.1 hx).1
    obtain ⟨x0, x1⟩ := hrowsC_at hx
    obtain ⟨g, cap, e1, _⟩ := hown.form (by omega)
    subst e1
    have d1 := hown.cells' (g := g) rfl x1
    generalize In.below k ns = B at *
    have i0 : (0 : Int) ≤ (B : Int) := by omega
    have i1 : (B : Int) < (ns.length : Int) := by omega
    clear x0 x1 hx ha hf hown hr
    go_enter Tryz.func121, Tryz.ntmps121
    go_wp2_with fail
    refine hs.mono ?_; rintro e w2 ⟨rfl, k2⟩
    have d1' := cellIn k2 d1
    have hc' := cellIn k2 hc
    clear hs d1 hc
    go_wp2_with fail
    go_ret2
    exact ⟨rfl, k2⟩
  · have hf : In.foundAt k ns = false := by simpa using hf
    rw [hf] at hs ⊢
    clear hf hown hr
    go_enter Tryz.func121, Tryz.ntmps121
    go_wp2_with fail
    refine hs.mono ?_; rintro e w2 ⟨rfl, k2⟩
    clear hs
    go_wp2_with fail
    go_ret2
    exact ⟨by simp, k2⟩
end
end Go.Proofs.YtdjgijndcjbpiaaGreatDoor
