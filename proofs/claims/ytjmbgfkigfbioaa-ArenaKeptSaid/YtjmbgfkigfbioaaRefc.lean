/-
  The reference's arena: Words, and its contracts.
-/
import Derived.Test.YtjmbgfkigfbioaaRef
namespace Go.Proofs.Ytjmbgfkigfbioaa
open Go.RowKit Go.Kw Go.Kreg Go.Arm

theorem fill_set {A l : List Int} {t c : Nat} {x : Int} (hx : l[t]? = some x) : (A ++ (l.take t ++ List.replicate (c + 1) 0)).set (A.length + t) x = A ++ (l.take (t + 1) ++ List.replicate c 0) := by
  have ht : t < l.length := (List.getElem?_eq_some_iff.1 hx).1
  have hl : (l.take t).length = t := by simp; omega
  have := set_mid A (l.take t) (List.replicate c 0) 0 x
  rw [hl] at this
  rw [List.replicate_succ, this, List.take_add_one, hx]
  simp
theorem fill_next {l : List Fr} {k n : Nat} {f : Fr} (hf : l[k]? = some f) (hl : f.laid.length ≤ f.size) (hn : sizes (l.take k) + f.size ≤ n) :
    rows (l.take k) ++ (f.laid ++ List.replicate (n - sizes (l.take k) - f.laid.length) 0) = rows (l.take (k + 1)) ++ List.replicate (n - sizes (l.take (k + 1))) 0 := by
  rw [sizes_take hf, List.take_add_one, hf, rows_append]
  simp only [Option.toList_some, rows, List.flatMap_cons, List.flatMap_nil, List.append_nil, Fr.row, List.append_assoc, List.replicate_append_replicate]
  congr 3
  omega

section
variable {w : World} {q : Nat} {sv lv : Value} {m : AM} {vals : List Value}
set_option maxRecDepth 100000 in
set_option maxHeartbeats 1000000 in
theorem rwords_any (h : RRep w q sv lv m vals) :
    Calls Try.prog 30 #[.pointer (some ⟨q, 0, none⟩)] w fun e w' => ∃ v, e = .returned v ∧ Fresh w w' TI v m.n (ints m.words) := by
  obtain ⟨c0, c1, c2, c3, fz⟩ := h.cells
  have hn := h.ok.n_le
  have hu := h.ok.used_n
  have hf := h.few
  have HR := hid h
  obtain ⟨sa, sc, rfl, _⟩ := h.sz.shape
  obtain ⟨la, lc, rfl, _⟩ := h.la.shape
  clear h
  go_enter Try.func30, Try.ntmps30
  go_wp2_with (at_make; refine wpList_mkfull _ _ TS TI (.int .i64 0) 8 infoI Try.underlying28 rfl rfl rfl .i64 .i64 _ _ m.n rfl rfl rfl rfl (by omega) (by unfold maxLen; omega) ?_; intro w1 hb hk hsz)
  clear c0 c1 c2 c3 fz
  go_loopw [4, 5] (fun s i wr => ∃ k : Nat, k ≤ m.frs.length ∧ s = .int .i64 (sizes (m.frs.take k) : Nat) ∧ i = .int .i64 k ∧ Blk wr w.heap.size TI (ints (rows (m.frs.take k) ++ List.replicate (m.n - sizes (m.frs.take k)) 0)) ∧ Keeps (fun _ => False) w wr) (fun _ i _ => m.frs.length - (intOf i).toNat)
  case atStart => exact ⟨0, Nat.zero_le _, rfl, rfl, by simpa [rows, sizes, ints] using hb, hk⟩
  case round =>
    obtain ⟨k, hkl, rfl, rfl, hB, hK⟩ := hrel
    clear hb hk hsz
    have hR := HR.out.keeps hK fun _ _ => id
    obtain ⟨c0, c1, c2, c3, fz⟩ := hR.cells
    by_cases hlt : k < m.frs.length
    · have hfk := List.getElem?_eq_getElem hlt
      have hst := sizes_take hfk
      have hle := sizes_take_le m.frs (k + 1)
      have hll := HR.out.ok.laid_le _ (List.getElem_mem hlt)
      have hnext := fun h => fill_next (n := m.n) hfk hll h
      generalize m.frs[k] = f at *
      have hsn : sizes (m.frs.take k) + f.size ≤ m.n := by unfold AM.used at hu; omega
      have Hst := hid hst
      have Hfk := hid hfk
      have hrl : (rows (m.frs.take k)).length = sizes (m.frs.take k) := rows_len fun g hg => HR.out.ok.laid_le g (List.mem_of_mem_take hg)
      have Hnext := hid (hnext hsn)
      have Hrl := hid hrl
      clear hst hfk hnext hrl hle
      have i0 : (0 : Int) ≤ (k : Int) := by omega
      have i1 : (k : Int) < (m.frs.length : Int) := by omega
      have b1 : decide ((k : Int) < (m.frs.length : Int)) = true := by simp; omega
      generalize hsk : sizes (m.frs.take k) = sk at *
      go_wp2_with fail
      go_loopw [6] (fun j wi => ∃ t : Nat, t ≤ f.laid.length ∧ j = .int .i64 t ∧ Blk wi w.heap.size TI (ints (rows (m.frs.take k) ++ (f.laid.take t ++ List.replicate (m.n - sk - t) 0))) ∧ Keeps (fun _ => False) w wi) (fun j _ => f.laid.length - (intOf j).toNat)
      case atStart => exact ⟨0, Nat.zero_le _, rfl, by simpa using hB, hK⟩
      case round =>
        clear hB hK hR c0 c1 c2 c3 fz
        obtain ⟨t, ht, rfl, hB, hK⟩ := hrel
        have hR := HR.out.keeps hK fun _ _ => id
        obtain ⟨c0, c1, c2, c3, fz⟩ := hR.cells
        obtain ⟨g, gc, e, _, _⟩ := hR.sz.form (by omega)
        simp only [Value.slice.injEq, true_and] at e
        obtain ⟨rfl, rfl⟩ := e
        obtain ⟨l, llc, e, _, _⟩ := hR.la.form (by omega)
        simp only [Value.slice.injEq, true_and] at e
        obtain ⟨rfl, rfl⟩ := e
        obtain ⟨v, hv1, hv2, _⟩ := hR.rows k f Hfk.out
        have d1 := hR.sz.cells' (g := g) rfl (szs_at Hfk.out)
        have d2 := hR.la.cells' (g := l) rfl hv1
        obtain ⟨va, vc, rfl, _⟩ := hv2.shape
        have Hv1 := hid hv1
        have HRR := hid hR
        clear hv1 hR
        by_cases hlt2 : t < f.laid.length
        · obtain ⟨r, rc, e, _, _⟩ := hv2.form (by omega)
          simp only [Value.slice.injEq, true_and] at e
          obtain ⟨rfl, rfl⟩ := e
          have hx := List.getElem?_eq_getElem hlt2
          generalize f.laid[t] = x at *
          have d3 := hv2.cells' (g := r) rfl (j := t) (u := .int .i64 x) (by simp [ints, hx])
          obtain ⟨c, hc⟩ : ∃ c, m.n - sk - t = c + 1 := ⟨m.n - sk - t - 1, by omega⟩
          have hc2 : m.n - sk - (t + 1) = c := by omega
          have j0 : (0 : Int) ≤ (t : Int) := by omega
          have j1 : (t : Int) < (f.laid.length : Int) := by omega
          have j2 : (0 : Int) ≤ (sk : Int) + (t : Int) := by omega
          have j3 : (sk : Int) + (t : Int) < (m.n : Int) := by omega
          have b2 : decide ((t : Int) < (f.laid.length : Int)) = true := by simp; omega
          have hlen : (ints (rows (m.frs.take k) ++ (f.laid.take t ++ List.replicate (m.n - sk - t) 0))).length = m.n := by
            rw [ints_len]; simp only [List.length_append, Hrl.out, List.length_take, List.length_replicate]; omega
          obtain ⟨y, hy⟩ : ∃ y, (ints (rows (m.frs.take k) ++ (f.laid.take t ++ List.replicate (m.n - sk - t) 0)))[sk + t]? = some y := ⟨_, List.getElem?_eq_getElem (by rw [hlen]; omega)⟩
          have dy := hB.at hy
          have dz := hB.fz
          have hset : (ints (rows (m.frs.take k) ++ (f.laid.take t ++ List.replicate (m.n - sk - t) 0))).set (sk + t) (.int .i64 x) = ints (rows (m.frs.take k) ++ (f.laid.take (t + 1) ++ List.replicate (m.n - sk - (t + 1)) 0)) := by
            rw [ints_set, hc, hc2, ← Hrl.out, fill_set hx]
          have Hset := hid hset
          have Hx := hid hx
          clear hset hx hy hlen hc hc2
          go_wp2_with fail
          go_roundw
          case rel => exact ⟨t + 1, by omega, by go_num, by have := hB.set (sk + t) (.int .i64 x); rw [Hset.out] at this; exact this, hK.setCell (.inr (Nat.le_refl _)) _⟩
          case measure => simp [intOf]; omega
        · have b2 : decide ((t : Int) < (f.laid.length : Int)) = false := by simp; omega
          obtain rfl : t = f.laid.length := by omega
          rw [List.take_length, Hnext.out] at hB
          go_wp2_with fail
          go_roundw
          case rel => exact ⟨k + 1, by omega, by rw [Hst.out]; go_num, by go_num, hB, hK⟩
          case measure => simp [intOf]; omega
    · have b1 : decide ((k : Int) < (m.frs.length : Int)) = false := by simp; omega
      have e : m.frs.take k = m.frs := List.take_of_length_le (by omega)
      rw [e] at hB ⊢
      go_wp2_with fail
      go_ret
      exact ⟨_, rfl, w.heap.size, rfl, Nat.le_refl _, hB, hK⟩
end
end Go.Proofs.Ytjmbgfkigfbioaa
