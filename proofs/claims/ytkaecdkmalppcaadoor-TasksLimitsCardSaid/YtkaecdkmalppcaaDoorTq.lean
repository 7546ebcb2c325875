/-
  Package tasks, walked: greatest frames, the bound, what is found.
-/
import Derived.Test.YtkaecdkmalppcaaDoorTk
namespace Go.Proofs.YtkaecdkmalppcaaDoor
open Go.RowKit Go.Kw Go.Kreg Go.Tm

section
variable {w : World} {p : Nat} {m : TM} {x : TabX}

theorem max_if (a b : Int) : (if a ≤ b then b else a) = max a b := by rw [Int.max_def]

set_option maxRecDepth 100000 in
set_option maxHeartbeats 2000000 in
theorem largest_any (h : TabAt w p m x) (level : Int) : Calls Tryd.prog 16 #[.pointer (some ⟨p, 0, none⟩), .int .i64 level] w fun e w' => e = .returned (.int .i64 (largest m.ts level)) ∧ Keeps (fun _ => False) w w' := by
  have hl := stackLen_any h.cells.2.2.1 h.rows
  have hf := h.tok.ok.fit
  have hlen := h.few
  generalize hR : largest m.ts level = R at *
  have HR := hid hR
  have H := hid h
  have Hf := hid hf
  clear h hR hf
  go_enter Tryd.func16, Tryd.ntmps16
  go_wp2_with fail
  refine hl.mono ?_; rintro e w1 ⟨rfl, rfl⟩
  go_wp2_with fail
  go_loopw [13, 5] (fun i y wr => ∃ (k : Nat), k ≤ m.ts.length ∧ i = .int .i64 k ∧ y = .int .i64 (largest (m.ts.take k) level) ∧ Keeps (fun _ => False) w wr) (fun i _ _ => m.ts.length - (intOf i).toNat)
  case atStart => exact ⟨0, Nat.zero_le _, rfl, rfl, Keeps.refl _ _⟩
  case round =>
    obtain ⟨k, hk, rfl, rfl, hK⟩ := hrel
    by_cases hlt : k < m.ts.length
    · have b1 : decide (k < m.ts.length) = true := by simpa using hlt
      have ht := List.getElem?_eq_getElem hlt
      have hstep := largest_take ht level
      have hfit := Hf.out _ (List.mem_of_getElem? ht)
      have hb := largest_bd (ts := m.ts.take k) (fun t ht => Hf.out t (List.mem_of_mem_take ht)) level
      obtain ⟨na, nc, sa, sc, _, _, hrow⟩ := row_in (H.out.keeps hK) ht
      generalize m.ts[k] = t at *
      generalize t.needs.length = nl at *
      generalize (prog t).1.length = sl at *
      generalize largest (m.ts.take k) level = L at *
      have HK := hid hK
      have Hstep := hid hstep
      have hfr := hfit.frm
      clear ht hstep hfit hK
      unfold rowC at hrow
      go_wp2_with fail
      refine hrow.mono ?_; rintro e w2 ⟨rfl, k2⟩
      have HK2 := hid (HK.out.trans k2)
      clear HK k2 hrow
      by_cases hl : t.level = level
      · have e1 : (t.level == level) = true := by simpa using hl
        go_wp2_with fail
        go_roundw
        case rel => exact ⟨k + 1, by omega, by go_num, by rw [Hstep.out, if_pos hl], HK2.out.alloc _⟩
        case measure => simp [intOf]; omega
      · have e1 : (t.level == level) = false := by simpa using hl
        go_wp2_with fail
        go_roundw
        case rel => exact ⟨k + 1, by omega, by go_num, by rw [Hstep.out, if_neg hl], HK2.out.alloc _⟩
        case measure => simp [intOf]; omega
    · have b1 : decide (k < m.ts.length) = false := by simpa using hlt
      have e : largest (m.ts.take k) level = R := by rw [List.take_of_length_le (by omega)]; exact HR.out
      rw [e]
      clear e
      go_wp2_with fail
      go_ret
      exact ⟨rfl, hK⟩

set_option maxRecDepth 100000 in
set_option maxHeartbeats 2000000 in
theorem bound_any (h : TabAt w p m x) : Calls Tryd.prog 10 #[.pointer (some ⟨p, 0, none⟩)] w fun e w' => e = .returned (.int .i64 (bound m.ts)) ∧ Keeps (fun _ => False) w w' := by
  have hf := h.tok.ok.fit
  generalize hR : bound m.ts = R at *
  have HR := hid hR
  have H := hid h
  have Hf := hid hf
  clear h hR hf
  go_enter Tryd.func10, Tryd.ntmps10
  go_wp2_with fail
  go_loopw [5, 3] (fun i y wr => ∃ (k : Nat), k ≤ 33 ∧ i = .int .i64 k ∧ y = .int .i64 (boundTo m.ts k) ∧ Keeps (fun _ => False) w wr) (fun i _ _ => 33 - (intOf i).toNat)
  case atStart => exact ⟨0, Nat.zero_le _, rfl, rfl, Keeps.refl _ _⟩
  case round =>
    obtain ⟨k, hk, rfl, rfl, hK⟩ := hrel
    by_cases hlt : k < 33
    · have b1 : decide ((k : Int) < 33) = true := by simp; omega
      have hb := boundTo_bd Hf.out k
      have hlb := largest_bd Hf.out k
      have hstep : boundTo m.ts (k + 1) = boundTo m.ts k + largest m.ts k := rfl
      have hl := largest_any (H.out.keeps hK) k
      generalize boundTo m.ts k = L at *
      generalize largest m.ts k = M at *
      have HK := hid hK
      have Hstep := hid hstep
      clear hstep hK
      go_wp2_with fail
      refine hl.mono ?_; rintro e w2 ⟨rfl, k2⟩
      have HK2 := hid (HK.out.trans k2)
      clear HK k2 hl
      go_wp2_with fail
      go_roundw
      case rel => exact ⟨k + 1, by omega, by go_num, by rw [Hstep.out], HK2.out⟩
      case measure => simp [intOf]; omega
    · have b1 : decide ((k : Int) < 33) = false := by simp; omega
      have e : boundTo m.ts k = R := by rw [← HR.out]; unfold bound; congr 1; omega
      rw [e]
      clear e
      go_wp2_with fail
      go_ret
      exact ⟨rfl, hK⟩

set_option maxRecDepth 100000 in
set_option maxHeartbeats 2000000 in
theorem with_any (h : TabAt w p m x) (level frame : Int) (hb : -9223372036854775808 ≤ frame ∧ frame ≤ 9223372036854775807) : Calls Tryd.prog 12 #[.pointer (some ⟨p, 0, none⟩), .int .i64 level, .int .i64 frame] w fun e w' => e = .returned (.int .i64 (withOne m.ts level frame)) ∧ Keeps (fun _ => False) w w' := by
  have hbd := bound_bd h.tok.ok.fit
  have hlb := largest_bd h.tok.ok.fit level
  by_cases hbad : bad level frame
  · have hR : withOne m.ts level frame = bound m.ts := by unfold withOne; rw [if_pos hbad]
    rw [hR]
    have hbn := bound_any h
    generalize bound m.ts = R at *
    clear hR h
    have fin : ∀ (b1 b2 b3 b4 : Bool), decide (level < 1) = b1 → decide (32 < level) = b2 → decide (frame < 0) = b3 → decide (4096 < frame) = b4 → (b1 = true ∨ b1 = false ∧ b2 = true ∨ b1 = false ∧ b2 = false ∧ b3 = true ∨ b1 = false ∧ b2 = false ∧ b3 = false ∧ b4 = true) := by
      intro b1 b2 b3 b4 h1 h2 h3 h4
      subst h1 h2 h3 h4
      simp only [decide_eq_true_eq, decide_eq_false_iff_not]
      unfold bad at hbad
      omega
    have fin := fin _ _ _ _ rfl rfl rfl rfl
    clear hbad
    rcases fin with h1 | ⟨h1, h2⟩ | ⟨h1, h2, h3⟩ | ⟨h1, h2, h3, h4⟩
    all_goals
      go_enter Tryd.func12, Tryd.ntmps12
      go_wp2_with fail
      refine hbn.mono ?_; rintro e w2 ⟨rfl, k2⟩
      go_wp2_with fail
      go_ret
      exact ⟨rfl, k2⟩
  · have hR : withOne m.ts level frame = bound m.ts + max 0 (frame - largest m.ts level) := by unfold withOne; rw [if_neg hbad]
    rw [hR]
    have hbn := bound_any h
    have hl := fun (w1 : World) (k : Keeps (fun _ => False) w w1) => largest_any (h.keeps k) level
    generalize bound m.ts = R at *
    generalize largest m.ts level = L at *
    unfold bad at hbad
    have b1 : decide (level < 1) = false := by simp; omega
    have b2 : decide (32 < level) = false := by simp; omega
    have b3 : decide (frame < 0) = false := by simp; omega
    have b4 : decide (4096 < frame) = false := by simp; omega
    have hf0 : 0 ≤ frame := by omega
    have hf1 : frame ≤ 4096 := by omega
    clear hR h hbad
    go_enter Tryd.func12, Tryd.ntmps12
    go_wp2_with fail
    refine hbn.mono ?_; rintro e w2 ⟨rfl, k2⟩
    go_wp2_with fail
    refine (hl _ k2).mono ?_; rintro e w3 ⟨rfl, k3⟩
    go_wp2_with fail
    go_ret
    exact ⟨ret_int (by first | rfl | omega), k2.trans k3⟩

set_option maxRecDepth 100000 in
theorem find_any (h : TabAt w p m x) (k : ByteArray) : Calls Tryd.prog 18 #[.pointer (some ⟨p, 0, none⟩), .string k] w fun e w' => e = .returned (.tuple #[.int .i64 ((find m.ts k).getD 0 : Nat), .bool (find m.ts k).isSome]) ∧ Keeps (fun _ => False) w w' := by
  have hg := nget_any h.cells.2.2.2.1 h.names h.tok.names.1 (by rw [h.tok.nlen]; have := h.few; omega) k
  obtain ⟨h1, h2⟩ := h.tok.names.found k
  have e : (if Tn.foundAt k x.ns = true then Tn.atOf k x.ns else 0) = (find m.ts k).getD 0 := by
    split
    · rename_i hf; exact h2 hf
    · rename_i hf
      rw [h1] at hf
      cases hq : find m.ts k with
      | none => rfl
      | some v => rw [hq] at hf; simp at hf
  rw [e, h1] at hg
  generalize (find m.ts k).getD 0 = N at *
  generalize (find m.ts k).isSome = B at *
  clear h h1 h2 e
  go_enter Tryd.func18, Tryd.ntmps18
  go_wp2_with fail
  refine hg.mono ?_; rintro e w2 ⟨rfl, k2⟩
  go_wp2_with fail
  go_ret2
  exact ⟨rfl, k2⟩
theorem tget_any (h : TabAt w p m x) (k : ByteArray) : Calls Tryd.prog 32 #[.pointer (some ⟨p, 3, none⟩), .string k] w fun e w' => e = .returned (.tuple #[.int .i64 ((find m.ts k).getD 0 : Nat), .bool (find m.ts k).isSome]) ∧ Keeps (fun _ => False) w w' := by
  have hg := nget_any h.cells.2.2.2.1 h.names h.tok.names.1 (by rw [h.tok.nlen]; have := h.few; omega) k
  obtain ⟨h1, h2⟩ := h.tok.names.found k
  have e : (if Tn.foundAt k x.ns = true then Tn.atOf k x.ns else 0) = (find m.ts k).getD 0 := by
    split
    · rename_i hf; exact h2 hf
    · rename_i hf
      rw [h1] at hf
      cases hq : find m.ts k with
      | none => rfl
      | some v => rw [hq] at hf; simp at hf
  rw [e, h1] at hg
  exact hg
end
end Go.Proofs.YtkaecdkmalppcaaDoor
