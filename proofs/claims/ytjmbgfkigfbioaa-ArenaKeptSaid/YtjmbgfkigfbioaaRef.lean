/-
  The reference's arena, walked: it holds the same model.
-/
import Derived.Test.YtjmbgfkigfbioaaArc
import Derived.Test.YtjmbgfkigfbioaaBook
import Derived.Test.YtjmbgfkigfbioaaVec
import Derived.Test.YtjmbgfkigfbioaaKtree
namespace Go.Proofs.Ytjmbgfkigfbioaa
open Go.RowKit Go.Kw Go.Kreg Go.Arm

abbrev TR : Nat := 47

def szs (l : List Fr) : List Int := l.map fun f => (f.size : Int)
structure RRep (w : World) (q : Nat) (sv lv : Value) (m : AM) (vals : List Value) : Prop where
  ok : m.ok
  few : m.frs.length ≤ 1000000
  st : Blk w q TR [.int .i64 m.n, sv, lv, .int .i64 m.high]
  sz : Vec w TI 1 sv m.frs.length (ints (szs m.frs))
  la : Vec w TS 1 lv m.frs.length vals
  rows : ∀ (i : Nat) (f : Fr), m.frs[i]? = some f → ∃ v, vals[i]? = some v ∧ Vec w TI 1 v f.laid.length (ints f.laid) ∧ ∀ b, v.ownBlock = some b → sv.ownBlock ≠ some b
def rfoot (q : Nat) (sv lv : Value) (vals : List Value) : Nat → Prop := fun b => b = q ∨ sv.ownBlock = some b ∨ lv.ownBlock = some b ∨ ∃ v ∈ vals, v.ownBlock = some b

theorem szs_len (l : List Fr) : (szs l).length = l.length := by simp [szs]
theorem szs_at {l : List Fr} {i : Nat} {f : Fr} (h : l[i]? = some f) : (ints (szs l))[i]? = some (.int .i64 f.size) := by simp [ints, szs, h]
theorem RRep.lens {w : World} {q : Nat} {sv lv : Value} {m : AM} {vals : List Value} (h : RRep w q sv lv m vals) : vals.length = m.frs.length := by
  have := h.la.1; omega
theorem RRep.keeps {w w' : World} {q : Nat} {sv lv : Value} {m : AM} {vals : List Value} {G : Nat → Prop} (h : RRep w q sv lv m vals) (hk : Keeps G w w') (hs : ∀ b, rfoot q sv lv vals b → ¬ G b) : RRep w' q sv lv m vals := by
  refine ⟨h.ok, h.few, hk.blk h.st (hs _ (.inl rfl)), h.sz.keeps hk fun b hb => hs b (.inr (.inl hb)), h.la.keeps hk fun b hb => hs b (.inr (.inr (.inl hb))), fun i f hf => ?_⟩
  obtain ⟨v, h1, h2, h3⟩ := h.rows i f hf
  exact ⟨v, h1, h2.keeps hk fun b hb => hs b (.inr (.inr (.inr ⟨v, List.mem_of_getElem? h1, hb⟩))), h3⟩
theorem RRep.lt {w : World} {q : Nat} {sv lv : Value} {m : AM} {vals : List Value} (h : RRep w q sv lv m vals) : ∀ b, rfoot q sv lv vals b → b < w.heap.size := by
  rintro b (rfl | hb | hb | ⟨v, hv, hb⟩)
  · exact h.st.lt
  · exact h.sz.lt b hb
  · exact h.la.lt b hb
  · obtain ⟨i, hi, rfl⟩ := List.mem_iff_getElem.1 hv
    have hi' : i < m.frs.length := by rw [← h.lens]; exact hi
    obtain ⟨v, h1, h2, _⟩ := h.rows i m.frs[i] (List.getElem?_eq_getElem hi')
    rw [List.getElem?_eq_getElem hi] at h1
    cases h1
    exact h2.lt b hb
theorem RRep.drewN {w : World} {q : Nat} {sv lv : Value} {m : AM} {vals : List Value} (h : RRep w q sv lv m vals) (n : Nat) : RRep (w.drewN n) q sv lv m vals :=
  h.keeps ((Keeps.refl (fun _ => False) w).drewN n) fun _ _ => id
theorem RRep.cells {w : World} {q : Nat} {sv lv : Value} {m : AM} {vals : List Value} (h : RRep w q sv lv m vals) :
    w.cell? ⟨q, 0, none⟩ = some (.int .i64 m.n) ∧ w.cell? ⟨q, 1, none⟩ = some sv ∧ w.cell? ⟨q, 2, none⟩ = some lv ∧ w.cell? ⟨q, 3, none⟩ = some (.int .i64 m.high) ∧ (∀ o, w.frozen? ⟨q, o, none⟩ = false) := cells4 h.st

section
variable {w : World} {q : Nat} {sv lv : Value} {m : AM} {vals : List Value}
theorem sizes_take {l : List Fr} {k : Nat} {f : Fr} (h : l[k]? = some f) : sizes (l.take (k + 1)) = sizes (l.take k) + f.size := by
  rw [List.take_add_one, h, sizes_append]; simp [sizes_one]
theorem sizes_take_le (l : List Fr) (k : Nat) : sizes (l.take k) ≤ sizes l := by
  conv => rhs; rw [← List.take_append_drop k l]
  rw [sizes_append]; omega

theorem rused_raw {l : List Fr} (c1 : w.cell? ⟨q, 1, none⟩ = some sv) (hs : Vec w TI 1 sv l.length (ints (szs l))) (hu : sizes l ≤ 65536) (hf : l.length ≤ 2000000) :
    Calls Try.prog 41 #[.pointer (some ⟨q, 0, none⟩)] w fun e w' => e = .returned (.int .i64 (sizes l : Nat)) ∧ w = w' := by
  obtain ⟨a, c, rfl, _⟩ := hs.shape
  go_enter Try.func41, Try.ntmps41
  go_wp2_with fail
  go_loopw [3, 4] (fun s i wr => ∃ k : Nat, k ≤ l.length ∧ s = .int .i64 (sizes (l.take k) : Nat) ∧ i = .int .i64 k ∧ w = wr) (fun _ i _ => l.length - (intOf i).toNat)
  case atStart => exact ⟨0, Nat.zero_le _, rfl, rfl, rfl⟩
  case round =>
    obtain ⟨k, hk, rfl, rfl, rfl⟩ := hrel
    have hle := sizes_take_le l k
    by_cases hlt : k < l.length
    · obtain ⟨g, cap, e, _, _⟩ := hs.form (by omega)
      simp only [Value.slice.injEq, true_and] at e
      obtain ⟨rfl, rfl⟩ := e
      have hx := hs.cells' (g := g) rfl (szs_at (List.getElem?_eq_getElem hlt))
      have hst := sizes_take (List.getElem?_eq_getElem hlt)
      have hle2 := sizes_take_le l (k + 1)
      have i0 : (0 : Int) ≤ (k : Int) := by omega
      have i1 : (k : Int) < (l.length : Int) := by omega
      have b1 : decide ((k : Int) < (l.length : Int)) = true := by simp; omega
      generalize l[k] = f at *
      have Hst := hid hst
      clear hst
      have hb : sizes (l.take k) + f.size ≤ 65536 := by have := Hst.out; omega
      clear hle2
      generalize hsk : sizes (l.take k) = sk at *
      go_wp2_with fail
      go_roundw
      case rel => exact ⟨k + 1, by omega, by rw [Hst.out]; go_num, by go_num, by trivial⟩
      case measure => simp [intOf]; omega
    · have b1 : decide ((k : Int) < (l.length : Int)) = false := by simp; omega
      have e : l.take k = l := List.take_of_length_le (by omega)
      rw [e]
      go_wp2_with fail
      go_ret
      exact ⟨rfl, rfl⟩
theorem rused_any (h : RRep w q sv lv m vals) :
    Calls Try.prog 41 #[.pointer (some ⟨q, 0, none⟩)] w fun e w' => e = .returned (.int .i64 m.used) ∧ w = w' :=
  rused_raw h.cells.2.1 h.sz (Nat.le_trans h.ok.used_n h.ok.n_le) (Nat.le_trans h.few (by omega))

/-- The last frame's row, its size and where they lie. -/
theorem RRep.lastRow {n hi : Nat} {init : List Fr} {f : Fr} (h : RRep w q sv lv ⟨n, init ++ [f], hi⟩ vals) :
    ∃ g gc l lc v, sv = .slice (some ⟨g, 0, none⟩) (init.length + 1) gc ∧ init.length + 1 ≤ gc ∧ lv = .slice (some ⟨l, 0, none⟩) (init.length + 1) lc ∧ init.length + 1 ≤ lc ∧
      w.cell? ⟨g, init.length, none⟩ = some (.int .i64 f.size) ∧ w.cell? ⟨l, init.length, none⟩ = some v ∧ (∀ o, w.frozen? ⟨l, o, none⟩ = false) ∧
      vals[init.length]? = some v ∧ Vec w TI 1 v f.laid.length (ints f.laid) ∧ (∀ b, v.ownBlock = some b → sv.ownBlock ≠ some b) ∧ l ≠ q ∧ g ≠ q ∧ g ≠ l := by
  have hn : (init ++ [f]).length = init.length + 1 := by simp
  have hf : (init ++ [f])[init.length]? = some f := by simp
  have hsz := h.sz
  have hla := h.la
  simp only [hn] at hsz hla
  obtain ⟨g, gc, rfl, _, h1⟩ := hsz.form (by omega)
  obtain ⟨l, lc, rfl, _, h2⟩ := hla.form (by omega)
  obtain ⟨v, h3, h4, h5⟩ := h.rows _ f hf
  refine ⟨g, gc, l, lc, v, rfl, h1, rfl, h2, hsz.cells' rfl (szs_at hf), hla.cells' rfl h3, hla.fz rfl, h3, h4, h5, ?_, ?_, ?_⟩
  · have := hla.neT h.st (by decide); simpa [Value.ownBlock] using this
  · have := hsz.neT h.st (by decide); simpa [Value.ownBlock] using this
  · have := hla.neV hsz (by decide) l rfl; simpa [Value.ownBlock] using this

theorem rhead_any (h : RRep w q sv lv m vals) :
    Calls Try.prog 40 #[.pointer (some ⟨q, 0, none⟩)] w fun e w' => e = .returned (.tuple #[.int .i64 m.top.1, .bool m.top.2]) ∧ ∃ n, w' = w.drewN n := by
  obtain ⟨c0, c1, c2, c3, fz⟩ := h.cells
  by_cases h1 : m.frs = []
  · have e1 : m.top = (0, false) := by unfold AM.top; rw [h1]; rfl
    rw [e1]
    obtain ⟨a, c, rfl, _⟩ := h.sz.shape
    rw [h1] at c1
    clear h1 e1
    go_enter Try.func40, Try.ntmps40
    go_wp2_with fail
    go_ret2
    exact ⟨rfl, 0, rfl⟩
  · obtain ⟨init, f, hm⟩ := last_of h1
    obtain ⟨n, frs, hi⟩ := m
    simp only at hm; subst hm
    clear h1
    obtain ⟨g, gc, l, lc, v, rfl, hgc, rfl, hlc, d1, d2, d3, d4, d5, _, _, _⟩ := h.lastRow
    have hfew := h.few
    simp only [List.length_append, List.length_singleton] at hfew
    have b0 : ((init.length : Int) + 1 == 0) = false := by simp; omega
    have i0 : (0 : Int) ≤ (init.length : Int) := by omega
    have i1 : (init.length : Int) < (init.length : Int) + 1 := by omega
    have e1 : IntKind.i64.wrap ((init.length : Int) + 1 - 1) = (init.length : Int) := (IntWalk.i64_in _ (by omega)).trans (by omega)
    by_cases h2 : f.laid = []
    · have e2 : AM.top ⟨n, init ++ [f], hi⟩ = (0, false) := by simp [AM.top, h2]
      rw [e2]
      obtain ⟨a, c, rfl, _⟩ := d5.shape
      rw [h2] at d2
      clear h2 e2
      go_enter Try.func40, Try.ntmps40
      go_wp2_with fail
      go_ret2
      exact ⟨rfl, 0, rfl⟩
    · obtain ⟨l0, x, hf⟩ := laid_of h2
      rw [hf] at d5 ⊢
      clear h2
      have e2 : AM.top ⟨n, init ++ [⟨f.size, l0 ++ [x]⟩], hi⟩ = (x, true) := by simp [AM.top]
      rw [e2]
      have hx : (l0 ++ [x]).length = l0.length + 1 := by simp
      rw [hx] at d5
      have hl0 : l0.length + 1 ≤ 65536 := by
        have h1 := h.ok.laid_le f (by simp)
        have h2 := h.ok.used_n
        have h3 := h.ok.n_le
        rw [hf] at h1
        simp only [AM.used, sizes_append, sizes_one] at h1 h2 h3
        simp at h1; omega
      obtain ⟨r, rc, rfl, _, hrc⟩ := d5.form (by omega)
      have d6 := d5.cells' (g := r) rfl (j := l0.length) (u := .int .i64 x) (by simp [ints])
      have b1 : ((l0.length : Int) + 1 == 0) = false := by simp; omega
      have e3 : IntKind.i64.wrap ((l0.length : Int) + 1 - 1) = (l0.length : Int) := (IntWalk.i64_in _ (by omega)).trans (by omega)
      have i2 : (0 : Int) ≤ (l0.length : Int) := by omega
      have i3 : (l0.length : Int) < (l0.length : Int) + 1 := by omega
      clear e2 hf
      go_enter Try.func40, Try.ntmps40
      go_wp2_with fail
      go_quiet (fail)
      go_wp2_with fail
      go_ret2
      exact ⟨rfl, _, rfl⟩

/-- The reference's arena at q, that holds m; its blocks are F's. -/
def RObj (w : World) (q : Nat) (m : AM) (F : Nat → Prop) : Prop := ∃ sv lv vals, RRep w q sv lv m vals ∧ F = rfoot q sv lv vals

theorem RRep.stay (h : RRep w q sv lv m vals) (n : Nat) : ∃ F', RObj (w.drewN n) q m F' ∧ Moves (rfoot q sv lv vals) F' w (w.drewN n) :=
  ⟨_, ⟨sv, lv, vals, h.drewN n, rfl⟩, (Keeps.refl _ _).drewN n, fun _ h => .inl h⟩

theorem ints_take (l : List Int) (k : Nat) : (ints l).take k = ints (l.take k) := by simp [ints, List.map_take]
theorem rclosed {n hi g gc l lc : Nat} {init : List Fr} {f : Fr} (h : RRep w q (.slice (some ⟨g, 0, none⟩) (init.length + 1) gc) (.slice (some ⟨l, 0, none⟩) (init.length + 1) lc) ⟨n, init ++ [f], hi⟩ vals) (hlq : l ≠ q) (hgq : g ≠ q) :
    RRep ((w.setCell ⟨q, 1, none⟩ (.slice (some ⟨g, 0, none⟩) init.length init.length)).setCell ⟨q, 2, none⟩ (.slice (some ⟨l, 0, none⟩) init.length init.length)) q (.slice (some ⟨g, 0, none⟩) init.length init.length) (.slice (some ⟨l, 0, none⟩) init.length init.length) ⟨n, init, hi⟩ (vals.take init.length) := by
  have hn : (init ++ [f]).length = init.length + 1 := by simp
  have hok := h.ok.closes
  have e1 : AM.closes ⟨n, init ++ [f], hi⟩ = (0, ⟨n, init, hi⟩) := by simp [AM.closes]
  rw [e1] at hok
  have hsz := h.sz
  have hla := h.la
  have hfew := h.few
  simp only [hn] at hsz hla hfew
  refine ⟨hok, by simp only []; omega, ?_, ?_, ?_, fun i f' hf => ?_⟩
  · have := (h.st.set 1 (.slice (some ⟨g, 0, none⟩) init.length init.length)).set 2 (.slice (some ⟨l, 0, none⟩) init.length init.length)
    simpa using this
  · have := ((hsz.cut3 init.length (by omega)).far (a := ⟨q, 1, none⟩) (by simpa [Value.ownBlock] using hgq) (.slice (some ⟨g, 0, none⟩) init.length init.length)).far (a := ⟨q, 2, none⟩) (by simpa [Value.ownBlock] using hgq) (.slice (some ⟨l, 0, none⟩) init.length init.length)
    rw [Nat.mul_one, ints_take] at this
    have e : (szs (init ++ [f])).take init.length = szs init := by simp [szs]
    rw [e] at this
    exact this
  · have := ((hla.cut3 init.length (by omega)).far (a := ⟨q, 1, none⟩) (by simpa [Value.ownBlock] using hlq) (.slice (some ⟨g, 0, none⟩) init.length init.length)).far (a := ⟨q, 2, none⟩) (by simpa [Value.ownBlock] using hlq) (.slice (some ⟨l, 0, none⟩) init.length init.length)
    rw [Nat.mul_one] at this
    exact this
  · simp only at hf
    have hi : i < init.length := (List.getElem?_eq_some_iff.1 hf).1
    obtain ⟨v, h1, h2, h3⟩ := h.rows i f' (by simp only [List.getElem?_append_left hi]; exact hf)
    have hk : Keeps (fun b => b = q) w ((w.setCell ⟨q, 1, none⟩ (.slice (some ⟨g, 0, none⟩) init.length init.length)).setCell ⟨q, 2, none⟩ (.slice (some ⟨l, 0, none⟩) init.length init.length)) := ((Keeps.refl (fun b => b = q) w).setCell (.inl rfl) _).setCell (.inl rfl) _
    refine ⟨v, by rw [List.getElem?_take, if_pos hi]; exact h1, h2.keeps hk fun b hb e => ?_, h3⟩
    subst e
    exact h2.neT h.st (by decide) hb

theorem rclose_any (h : RRep w q sv lv m vals) :
    Calls Try.prog 36 #[.pointer (some ⟨q, 0, none⟩)] w fun e w' => e = .returned (.int .i64 m.closes.1) ∧ ∃ F', RObj w' q m.closes.2 F' ∧ Moves (rfoot q sv lv vals) F' w w' := by
  obtain ⟨c0, c1, c2, c3, fz⟩ := h.cells
  by_cases h1 : m.frs = []
  · have e1 : m.closes = (6, m) := by unfold AM.closes; rw [if_pos h1]
    rw [e1]
    have h' := h
    obtain ⟨a, c, rfl, _⟩ := h.sz.shape
    have hl : (m.frs.length : Int) = 0 := by rw [h1]; rfl
    rw [h1] at c1
    clear h1 e1 hl
    go_enter Try.func36, Try.ntmps36
    go_wp2_with fail
    go_ret
    exact ⟨rfl, h'.stay 0⟩
  · obtain ⟨init, f, hm⟩ := last_of h1
    obtain ⟨n, frs, hi⟩ := m
    simp only at hm; subst hm
    clear h1
    have e1 : AM.closes ⟨n, init ++ [f], hi⟩ = (0, ⟨n, init, hi⟩) := by simp [AM.closes]
    rw [e1]
    obtain ⟨g, gc, l, lc, v, rfl, hgc, rfl, hlc, d1, d2, d3, d4, d5, d6, hlq, hgq, hgl⟩ := h.lastRow
    have hfew := h.few
    simp only [List.length_append, List.length_singleton] at hfew
    have b0 : ((init.length : Int) + 1 == 0) = false := by simp; omega
    have i0 : (0 : Int) ≤ (init.length : Int) := by omega
    have i1 : (init.length : Int) ≤ (init.length : Int) := by omega
    have i2 : (init.length : Int) ≤ (gc : Int) := by omega
    have i3 : (init.length : Int) ≤ (lc : Int) := by omega
    have e2 : IntKind.i64.wrap ((init.length : Int) + 1 - 1) = (init.length : Int) := (IntWalk.i64_in _ (by omega)).trans (by omega)
    have Hd := hid d6
    have H4 := hid d4
    clear d6 d4 e1 hgl
    go_enter Try.func36, Try.ntmps36
    go_wp2_with fail
    go_ret
    refine ⟨rfl, _, ⟨_, _, _, rclosed h hlq hgq, rfl⟩, ((Keeps.refl _ w).setCell (.inl (.inl rfl)) _).setCell (.inl (.inl rfl)) _, ?_⟩
    rintro b (hb | hb | hb | ⟨v, hv, hb⟩)
    · exact .inl (.inl hb)
    · exact .inl (.inr (.inl hb))
    · exact .inl (.inr (.inr (.inl hb)))
    · exact .inl (.inr (.inr (.inr ⟨v, List.mem_of_mem_take hv, hb⟩)))

theorem rrelaid {w1 : World} {n hi l lc : Nat} {init : List Fr} {f : Fr} {v' : Value} {laid : List Int} (h : RRep w q sv (.slice (some ⟨l, 0, none⟩) (init.length + 1) lc) ⟨n, init ++ [f], hi⟩ vals) (hlq : l ≠ q)
    (hk : Keeps (fun _ => False) w w1) (hlaid : laid.length ≤ f.size) (hv : Vec w1 TI 1 v' laid.length (ints laid)) (hs : ∀ b, v'.ownBlock = some b → sv.ownBlock ≠ some b) (hold : ∀ b, v'.ownBlock = some b → (∃ v ∈ vals, v.ownBlock = some b) ∨ w.heap.size ≤ b) :
    ∃ F', RObj (w1.setCell ⟨l, init.length, none⟩ v') q ⟨n, init ++ [⟨f.size, laid⟩], hi⟩ F' ∧ Moves (rfoot q sv (.slice (some ⟨l, 0, none⟩) (init.length + 1) lc) vals) F' w (w1.setCell ⟨l, init.length, none⟩ v') := by
  have hn : ∀ f : Fr, (init ++ [f]).length = init.length + 1 := by simp
  have hn1 := hn ⟨f.size, laid⟩
  have hok : AM.ok ⟨n, init ++ [⟨f.size, laid⟩], hi⟩ := by simpa using h.ok.relay (f := f) (by simp) (l := laid) hlaid
  have h1 := h.keeps hk fun _ _ => id
  have hkl : Keeps (fun b => b = l) w1 (w1.setCell ⟨l, init.length, none⟩ v') := (Keeps.refl (fun b => b = l) w1).setCell (.inl rfl) _
  have hsl := h.la.neV h.sz (by decide) l rfl
  have hrl : ∀ {u : Value} {k : Nat} {xs : List Value}, Vec w1 TI 1 u k xs → ∀ b, u.ownBlock = some b → ¬ b = l := fun hu b hb e => by
    subst e; exact hu.neV h1.la (by decide) b hb rfl
  refine ⟨_, ⟨sv, .slice (some ⟨l, 0, none⟩) (init.length + 1) lc, vals.set init.length v', ⟨hok, ?_, ?_, ?_, ?_, fun i f' hf => ?_⟩, rfl⟩, ?_, ?_⟩
  · have := h.few; simp only [hn] at this ⊢; omega
  · exact h1.st.far hlq _
  · have := h1.sz.keeps hkl fun b hb e => hsl (by rw [← e]; exact hb)
    have e : szs (init ++ [⟨f.size, laid⟩]) = szs (init ++ [f]) := by simp [szs]
    simp only [hn, e] at this ⊢
    exact this
  · have := h1.la
    simp only [hn] at this ⊢
    exact this.setIn rfl _ _
  · by_cases hi : i = init.length
    · subst hi
      obtain rfl : f' = ⟨f.size, laid⟩ := by simpa using hf.symm
      have := h.lens
      simp only [hn] at this
      exact ⟨v', by rw [List.getElem?_set_self (by omega)], hv.keeps hkl (hrl hv), hs⟩
    · have hlt : i < init.length := by
        have := (List.getElem?_eq_some_iff.1 hf).1
        simp only [hn] at this; omega
      obtain ⟨v, h2, h3, h4⟩ := h1.rows i f' (by simp only [List.getElem?_append_left hlt] at hf ⊢; exact hf)
      exact ⟨v, by rw [List.getElem?_set_ne (by omega)]; exact h2, h3.keeps hkl (hrl h3), h4⟩
  · exact (hk.mono fun _ h => h.elim).setCell (.inl (.inr (.inr (.inl rfl)))) _
  · rintro b (hb | hb | hb | ⟨u, hu, hb⟩)
    · exact .inl (.inl hb)
    · exact .inl (.inr (.inl hb))
    · exact .inl (.inr (.inr (.inl hb)))
    · rcases List.mem_or_eq_of_mem_set hu with hu | rfl
      · exact .inl (.inr (.inr (.inr ⟨u, hu, hb⟩)))
      · rcases hold b hb with h | h
        · exact .inl (.inr (.inr (.inr h)))
        · exact .inr h

theorem rpop_any (h : RRep w q sv lv m vals) :
    Calls Try.prog 38 #[.pointer (some ⟨q, 0, none⟩)] w fun e w' => e = .returned (.tuple #[.int .i64 m.pop.1, .int .i64 m.pop.2.1]) ∧ ∃ F', RObj w' q m.pop.2.2 F' ∧ Moves (rfoot q sv lv vals) F' w w' := by
  obtain ⟨c0, c1, c2, c3, fz⟩ := h.cells
  have h' := hid h
  by_cases h1 : m.frs = []
  · have e1 : m.pop = (0, 6, m) := by unfold AM.pop; rw [h1]; rfl
    rw [e1]
    obtain ⟨a, c, rfl, _⟩ := h.sz.shape
    rw [h1] at c1
    clear h1 e1
    go_enter Try.func38, Try.ntmps38
    go_wp2_with fail
    go_ret2
    exact ⟨rfl, h'.out.stay 0⟩
  · obtain ⟨init, f, hm⟩ := last_of h1
    obtain ⟨n, frs, hi⟩ := m
    simp only at hm; subst hm
    clear h1
    obtain ⟨g, gc, l, lc, v, rfl, hgc, rfl, hlc, d1, d2, d3, d4, d5, d7, hlq, hgq, hgl⟩ := h.lastRow
    have hfew := h.few
    simp only [List.length_append, List.length_singleton] at hfew
    have b0 : ((init.length : Int) + 1 == 0) = false := by simp; omega
    have i0 : (0 : Int) ≤ (init.length : Int) := by omega
    have i1 : (init.length : Int) < (init.length : Int) + 1 := by omega
    have e1 : IntKind.i64.wrap ((init.length : Int) + 1 - 1) = (init.length : Int) := (IntWalk.i64_in _ (by omega)).trans (by omega)
    have Hd := hid d7
    have H4 := hid d4
    clear d7 d4 hgl
    by_cases h2 : f.laid = []
    · have e2 : AM.pop ⟨n, init ++ [f], hi⟩ = (0, 10, ⟨n, init ++ [f], hi⟩) := by simp [AM.pop, h2]
      rw [e2]
      obtain ⟨a, c, rfl, _⟩ := d5.shape
      rw [h2] at d2
      clear h2 e2
      go_enter Try.func38, Try.ntmps38
      go_wp2_with fail
      go_ret2
      exact ⟨rfl, h'.out.stay 0⟩
    · obtain ⟨l0, x, hf⟩ := laid_of h2
      have e2 : AM.pop ⟨n, init ++ [f], hi⟩ = (x, 0, ⟨n, init ++ [⟨f.size, l0⟩], hi⟩) := by rw [hf]; simp [AM.pop]
      rw [e2]
      rw [hf] at d5
      have hx : (l0 ++ [x]).length = l0.length + 1 := by simp
      rw [hx] at d5
      have hl0 : l0.length + 1 ≤ 65536 := by
        have h1 := h.ok.laid_le f (by simp)
        have h2 := h.ok.used_n
        have h3 := h.ok.n_le
        rw [hf] at h1
        simp only [AM.used, sizes_append, sizes_one] at h1 h2 h3
        simp at h1; omega
      obtain ⟨r, rc, rfl, _, hrc⟩ := d5.form (by omega)
      have d6 := d5.cells' (g := r) rfl (j := l0.length) (u := .int .i64 x) (by simp [ints])
      have b1 : ((l0.length : Int) + 1 == 0) = false := by simp; omega
      have e3 : IntKind.i64.wrap ((l0.length : Int) + 1 - 1) = (l0.length : Int) := (IntWalk.i64_in _ (by omega)).trans (by omega)
      have i2 : (0 : Int) ≤ (l0.length : Int) := by omega
      have i3 : (l0.length : Int) < (l0.length : Int) + 1 := by omega
      have i4 : (l0.length : Int) ≤ (rc : Int) := by omega
      have i5 : (l0.length : Int) ≤ (l0.length : Int) := by omega
      have hrl : r ≠ l := by
        have := d5.neV h.la (by decide) r rfl; simpa [Value.ownBlock, eq_comm] using this
      have Hf := hid hf
      have H5 := hid d5
      have e4 : IntKind.i64.wrap (l0.length : Int) = (l0.length : Int) := IntWalk.i64_in _ (by omega)
      have e5 : IntKind.i64.wrap (init.length : Int) = (init.length : Int) := IntWalk.i64_in _ (by omega)
      have e6 : max (l0.length : Int) 0 = (l0.length : Int) := by omega
      clear e2 hf h2 d5 h
      go_enter Try.func38, Try.ntmps38
      go_wp2_with fail
      refine wp_region_mix [true, true, true, true, true, true, true, true, true, true, true, true, true, true, true, false] 0 (fun _ => False) (by kernel_rfl) (by decide +kernel) ?_
      simp only [front, back, List.take_zero, List.drop_zero]
      repeat ((first | refine wpFront_load rfl ?_ | refine wpFront_other rfl ?_); (first | go_big_quiet_step (fail) | quiet_step (fail)); refine wpQuiet_nil ?_)
      refine wpFront_nil ?_
      simp only [wpSegs]
      clear e4 e5 e6
      go_wp2_with fail
      refine NoPanic.normal ?_
      go_wp2_with fail
      go_ret2
      refine ⟨rfl, rrelaid h'.out hlq ((Keeps.refl (fun _ => False) w).drew) (laid := l0) ?_ ?_ ?_ ?_⟩
      · have h1 := h'.out.ok.laid_le f (by simp)
        rw [Hf.out] at h1
        simp at h1
        rw [Hf.out]; simp only []; omega
      · have := (H5.out.cut3 l0.length (by omega)).drew
        simpa [ints] using this
      · exact Hd.out
      · exact fun b hb => .inl ⟨_, List.mem_of_getElem? H4.out, hb⟩

theorem own_ge {n g k c b : Nat} (h : n ≤ g) (hb : (Value.slice (some ⟨g, 0, none⟩) k c).ownBlock = some b) : n ≤ b := by
  cases hb; exact h
theorem Own.empty (w : World) (T : TypeId) : Own (w.alloc (.cells #[] T)) T 1 (.slice (some ⟨w.heap.size, 0, none⟩) 0 0) 0 [] :=
  ⟨rfl, .inr ⟨w.heap.size, 0, #[], rfl, Nat.zero_le _, heap_alloc_new w _, Nat.le_refl _, by simp, by simp, by simp⟩⟩
theorem Keeps.cellAt {w w1 : World} (hk : Keeps (fun _ => False) w w1) {a : Addr} {u : Value} (h : w.cell? a = some u) : w1.cell? a = some u := by
  have hb := hk.block a.block (World.block_lt_of_cell? w _ h) id
  exact (World.cell?_of_block (w := w) hb).trans h
theorem RRep.lastAt {w1 : World} {n hi l lc : Nat} {init : List Fr} {f : Fr} (h : RRep w q sv (.slice (some ⟨l, 0, none⟩) (init.length + 1) lc) ⟨n, init ++ [f], hi⟩ vals) (hk : Keeps (fun _ => False) w w1) :
    (∃ v, w1.cell? ⟨l, init.length, none⟩ = some v) ∧ ∀ o, w1.frozen? ⟨l, o, none⟩ = false := by
  have h1 := h.keeps hk fun _ _ => id
  obtain ⟨v, h3, _⟩ := h1.rows init.length f (by simp)
  exact ⟨⟨v, h1.la.cells' rfl h3⟩, h1.la.fz rfl⟩
theorem pushed {w1 : World} {n hi l lc g2 c2 : Nat} {init : List Fr} {f : Fr} {y : Int} (h : RRep w q sv (.slice (some ⟨l, 0, none⟩) (init.length + 1) lc) ⟨n, init ++ [f], hi⟩ vals) (hlq : l ≠ q) (hlt : f.laid.length < f.size)
    (hk : Keeps (fun _ => False) w w1) (hown : Own w1 TI 1 (.slice (some ⟨g2, 0, none⟩) (f.laid.length + 1) c2) (f.laid.length + 1) (ints f.laid ++ [.int .i64 y])) (hg : w.heap.size ≤ g2) :
    ∃ F', RObj (w1.setCell ⟨l, init.length, none⟩ (.slice (some ⟨g2, 0, none⟩) (f.laid.length + 1) c2)) q ⟨n, init ++ [⟨f.size, f.laid ++ [y]⟩], hi⟩ F' ∧ Moves (rfoot q sv (.slice (some ⟨l, 0, none⟩) (init.length + 1) lc) vals) F' w (w1.setCell ⟨l, init.length, none⟩ (.slice (some ⟨g2, 0, none⟩) (f.laid.length + 1) c2)) := by
  refine rrelaid h hlq hk (laid := f.laid ++ [y]) (by simp; omega) ?_ ?_ ?_
  · have := Vec.of_own hown
    simpa [ints] using this
  · intro b hb e
    simp only [Value.ownBlock, Option.some.injEq] at hb
    have := h.sz.lt b e
    omega
  · intro b hb
    simp only [Value.ownBlock, Option.some.injEq] at hb
    exact .inr (by omega)

set_option maxRecDepth 100000 in
set_option maxHeartbeats 1000000 in
theorem rpush_any (h : RRep w q sv lv m vals) (y : Int) :
    Calls Try.prog 37 #[.pointer (some ⟨q, 0, none⟩), .int .i64 y] w fun e w' => e = .returned (.int .i64 (m.push y).1) ∧ ∃ F', RObj w' q (m.push y).2 F' ∧ Moves (rfoot q sv lv vals) F' w w' := by
  obtain ⟨c0, c1, c2, c3, fz⟩ := h.cells
  have h' := hid h
  by_cases h1 : m.frs = []
  · have e1 : m.push y = (6, m) := by unfold AM.push; rw [h1]; rfl
    rw [e1]
    obtain ⟨a, c, rfl, _⟩ := h.sz.shape
    rw [h1] at c1
    clear h1 e1
    go_enter Try.func37, Try.ntmps37
    go_wp2_with fail
    go_ret
    exact ⟨rfl, h'.out.stay 0⟩
  · obtain ⟨init, f, hm⟩ := last_of h1
    obtain ⟨n, frs, hi⟩ := m
    simp only at hm; subst hm
    clear h1
    obtain ⟨g, gc, l, lc, v, rfl, hgc, rfl, hlc, d1, d2, d3, d4, d5, d7, hlq, hgq, hgl⟩ := h.lastRow
    have hfew := h.few
    simp only [List.length_append, List.length_singleton] at hfew
    have b0 : ((init.length : Int) + 1 == 0) = false := by simp; omega
    have i0 : (0 : Int) ≤ (init.length : Int) := by omega
    have i1 : (init.length : Int) < (init.length : Int) + 1 := by omega
    have e1 : IntKind.i64.wrap ((init.length : Int) + 1 - 1) = (init.length : Int) := (IntWalk.i64_in _ (by omega)).trans (by omega)
    have e2 : IntKind.i64.wrap (init.length : Int) = (init.length : Int) := IntWalk.i64_in _ (by omega)
    have hll := h.ok.laid_le f (by simp)
    have hlm : f.laid.length ≤ 65536 := by
      have h2 := h.ok.used_n
      have h3 := h.ok.n_le
      simp only [AM.used, sizes_append, sizes_one] at h2 h3
      omega
    have Hd := hid d7
    have H4 := hid d4
    have H5 := hid d5
    have hvl : ∀ b, v.ownBlock = some b → b ≠ l := fun b hb e => by subst e; exact d5.neV h.la (by decide) b hb rfl
    obtain ⟨va, vc, hve, hvc⟩ := d5.shape
    clear d7 d4 hgl
    by_cases h2 : f.laid.length = f.size
    · have e3 : AM.push ⟨n, init ++ [f], hi⟩ y = (12, ⟨n, init ++ [f], hi⟩) := by simp [AM.push, h2]
      rw [e3]
      subst hve
      have b1 : f.size ≤ f.laid.length := by omega
      clear h2 e3 d5 h
      go_enter Try.func37, Try.ntmps37
      go_wp2_with fail
      go_quiet (fail)
      go_wp2_with fail
      go_ret
      exact ⟨rfl, h'.out.stay _⟩
    · have e3 : AM.push ⟨n, init ++ [f], hi⟩ y = (0, ⟨n, init ++ [⟨f.size, f.laid ++ [y]⟩], hi⟩) := by simp [AM.push, h2]
      rw [e3]
      have b1 : ¬ f.size ≤ f.laid.length := by omega
      have hcv : ∀ ad, va = some ad → ∀ j u, (ints f.laid)[j]? = some u → w.cell? (ad.add j) = some u := by
        intro ad had j u hu
        subst hve; subst had
        rcases d5.2 with ⟨e, _⟩ | ⟨r, cap, cur, e, _⟩
        · cases e
        · cases e
          rw [add_at, Nat.zero_add]; exact d5.cells' rfl hu
      have hnone : va = none → f.laid.length = 0 ∧ vc = 0 := by
        intro e
        subst hve; subst e
        rcases d5.2 with ⟨e, h0⟩ | ⟨r, cap, cur, e, _⟩
        · simp only [Value.slice.injEq] at e; exact ⟨h0, e.2.2⟩
        · cases e
      have Hlt := hid (show f.laid.length < f.size by omega)
      have Hve := hid hve
      have Hcv := hid hcv
      subst hve
      clear h2 e3 d5 h hcv
      go_enter Try.func37, Try.ntmps37
      go_wp2_with fail
      go_quiet (fail)
      go_wp2_with fail
      refine wp_region_tree [true, true, true, true, true, true, false, true, true, true, true, true, true, true, true, false, true, false, false, false, false] 4 (.two 6 (.two 15 (.one 17 (.one 18 .done)) 17 (.one 15 (.one 18 .done))) 17 (.one 6 (.one 15 (.one 18 .done)))) (fun _ => False) (by kernel_rfl) (by decide +kernel) ?_
      simp only [front, back, List.drop_succ_cons, List.drop_zero]
      repeat ((first | refine wpFront_load rfl ?_ | refine wpFront_other rfl ?_); (first | go_big_quiet_step (fail) | quiet_step (fail)); refine wpQuiet_nil ?_)
      refine wpFront_nil ?_
      simp only [wpTr]
      constructor
      · refine at'_of rfl ?_
        go_wp2_with fail
        have k6 : Keeps (fun _ => False) (w.drewN nq) ((w.drewN nq).drew.alloc (.cells #[] TI)) := (Keeps.refl _ _).drew.alloc _
        refine segQ_normal k6 ?_
        constructor
        · refine at'_of rfl ?_
          refine wpList_app_row _ _ TS TI (.int .i64 0) 8 infoI Try.underlying28 rfl rfl rfl _ rfl (Own.empty _ _) va f.laid.length vc (ints f.laid) rfl (ints_len _) hnone (fun ad had j u hu => Keeps.cellAt (Keeps.of_drewN nq k6) (Hcv.out ad had j u hu)) (by intro u hu; simp only [ints, List.mem_map] at hu; obtain ⟨_, _, rfl⟩ := hu; rfl) (by unfold maxLen; omega) (by omega) ?_
          intro g1 c1 w7 hown7 k7 hat7
          have k7' : Keeps (fun _ => False) (w.drewN nq) w7 := k6.trans' k7 fun b hb => .inr (by rw [hb]; exact Nat.le_refl _)
          have hg1 : w.heap.size ≤ g1 := by rcases hat7 with h | h <;> rw [h] <;> first | exact Nat.le_refl _ | exact Nat.le_succ _ | exact (Keeps.of_drewN nq k6).size
          refine segQ_normal k7' ?_
          refine at'_of rfl ?_
          go_wp2_with fail
          have k8 : Keeps (fun _ => False) (w.drewN nq) (w7.alloc (.cells #[.int .i64 y] TI)) := k7'.alloc _
          refine segQ_normal k8 ?_
          refine at'_of rfl ?_
          refine wpList_app _ _ TS TI (.int .i64 0) 1 8 infoI Try.underlying28 rfl (by decide) rfl rfl _ f.laid.length (ints f.laid) rfl (hown7.alloc _) w7.heap.size 1 1 [.int .i64 y] rfl rfl (Blk.new _ _ _) (by simp [Value.oneCell']) (by omega) (by unfold maxLen; omega) (by omega) ?_
          intro g2 c2 w9 hown9 hgrow hat hlt9
          refine segQ_normal (Keeps.grown k8 hgrow fun b hb => .inr (own_ge hg1 hb)) ?_
          have k9 : Keeps (fun _ => False) w w9 := Keeps.of_drewN nq (Keeps.grown k8 hgrow fun b hb => .inr (own_ge hg1 hb))
          obtain ⟨⟨x0, x1⟩, x2⟩ := h'.out.lastAt k9
          have hg2 : w.heap.size ≤ g2 := by
            rcases hat with hat | hat
            · exact own_ge hg1 hat
            · rw [hat]; exact (Keeps.of_drewN nq k8).size
          go_wp2_with fail
          refine NoPanic.normal ?_
          go_wp2_with fail
          go_ret
          exact ⟨rfl, pushed h'.out hlq Hlt.out k9 hown9 hg2⟩
        · refine at'_of rfl ?_
          go_wp2_with fail
          have k7 : Keeps (fun _ => False) (w.drewN nq) (((w.drewN nq).drew.alloc (.cells #[] TI)).alloc (.cells #[.int .i64 y] TI)) := k6.alloc _
          have hb7 : Blk (((w.drewN nq).drew.alloc (.cells #[] TI)).alloc (.cells #[.int .i64 y] TI)) (w.heap.size + 1) TI [.int .i64 y] := by simpa using Blk.new ((w.drewN nq).drew.alloc (.cells #[] TI)) TI [.int .i64 y]
          have hneq : w.heap.size + 1 ≠ w.heap.size := by simp
          refine segQ_normal k7 ?_
          refine at'_of rfl ?_
          refine wpList_app_row _ _ TS TI (.int .i64 0) 8 infoI Try.underlying28 rfl rfl rfl _ rfl ((Own.empty _ _).alloc _) va f.laid.length vc (ints f.laid) rfl (ints_len _) hnone (fun ad had j u hu => Keeps.cellAt (Keeps.of_drewN nq k7) (Hcv.out ad had j u hu)) (by intro u hu; simp only [ints, List.mem_map] at hu; obtain ⟨_, _, rfl⟩ := hu; rfl) (by unfold maxLen; omega) (by omega) ?_
          intro g1 c1 w8 hown8 k8' hat8
          have k8 : Keeps (fun _ => False) (w.drewN nq) w8 := k7.trans' k8' fun b hb => .inr (by rw [hb]; first | exact Nat.le_refl _ | exact Nat.le_succ _)
          have hg1 : w.heap.size ≤ g1 := by rcases hat8 with h | h <;> rw [h] <;> first | exact Nat.le_refl _ | exact Nat.le_succ _ | exact (Keeps.of_drewN nq k7).size
          refine segQ_normal k8 ?_
          refine at'_of rfl ?_
          refine wpList_app _ _ TS TI (.int .i64 0) 1 8 infoI Try.underlying28 rfl (by decide) rfl rfl _ f.laid.length (ints f.laid) rfl hown8 (w.heap.size + 1) 1 1 [.int .i64 y] rfl rfl (k8'.blk hb7 hneq) (by simp [Value.oneCell']) (by omega) (by unfold maxLen; omega) (by omega) ?_
          intro g2 c2 w9 hown9 hgrow hat hlt9
          refine segQ_normal (Keeps.grown k8 hgrow fun b hb => .inr (own_ge hg1 hb)) ?_
          have k9 : Keeps (fun _ => False) w w9 := Keeps.of_drewN nq (Keeps.grown k8 hgrow fun b hb => .inr (own_ge hg1 hb))
          obtain ⟨⟨x0, x1⟩, x2⟩ := h'.out.lastAt k9
          have hg2 : w.heap.size ≤ g2 := by
            rcases hat with hat | hat
            · exact own_ge hg1 hat
            · rw [hat]; exact (Keeps.of_drewN nq k8).size
          go_wp2_with fail
          refine NoPanic.normal ?_
          go_wp2_with fail
          go_ret
          exact ⟨rfl, pushed h'.out hlq Hlt.out k9 hown9 hg2⟩
      · refine at'_of rfl ?_
        go_wp2_with fail
        refine segQ_normal ((Keeps.refl _ _).drew.alloc _) ?_
        refine at'_of rfl ?_
        go_wp2_with fail
        have k7 : Keeps (fun _ => False) (w.drewN nq) (((w.drewN nq).drew.alloc (.cells #[.int .i64 y] TI)).alloc (.cells #[] TI)) := ((Keeps.refl _ _).drew.alloc _).alloc _
        have hb7 : Blk (((w.drewN nq).drew.alloc (.cells #[.int .i64 y] TI)).alloc (.cells #[] TI)) (w.drewN nq).drew.heap.size TI [.int .i64 y] := (Blk.new _ _ _).alloc _
        have hneq : w.heap.size ≠ w.heap.size + 1 := by simp
        have ho7 : Own (((w.drewN nq).drew.alloc (.cells #[.int .i64 y] TI)).alloc (.cells #[] TI)) TI 1 (.slice (some ⟨w.heap.size + 1, 0, none⟩) 0 0) 0 [] := by simpa using Own.empty ((w.drewN nq).drew.alloc (.cells #[.int .i64 y] TI)) TI
        refine segQ_normal k7 ?_
        refine at'_of rfl ?_
        refine wpList_app_row _ _ TS TI (.int .i64 0) 8 infoI Try.underlying28 rfl rfl rfl _ rfl ho7 va f.laid.length vc (ints f.laid) rfl (ints_len _) hnone (fun ad had j u hu => Keeps.cellAt (Keeps.of_drewN nq k7) (Hcv.out ad had j u hu)) (by intro u hu; simp only [ints, List.mem_map] at hu; obtain ⟨_, _, rfl⟩ := hu; rfl) (by unfold maxLen; omega) (by omega) ?_
        intro g1 c1 w8 hown8 k8' hat8
        have k8 : Keeps (fun _ => False) (w.drewN nq) w8 := k7.trans' k8' fun b hb => .inr (by rw [hb]; first | exact Nat.le_refl _ | exact Nat.le_succ _)
        have hg1 : w.heap.size ≤ g1 := by rcases hat8 with h | h <;> rw [h] <;> first | exact Nat.le_refl _ | exact Nat.le_succ _ | exact (Keeps.of_drewN nq k7).size
        refine segQ_normal k8 ?_
        refine at'_of rfl ?_
        refine wpList_app _ _ TS TI (.int .i64 0) 1 8 infoI Try.underlying28 rfl (by decide) rfl rfl _ f.laid.length (ints f.laid) rfl hown8 w.heap.size 1 1 [.int .i64 y] rfl rfl (k8'.blk hb7 hneq) (by simp [Value.oneCell']) (by omega) (by unfold maxLen; omega) (by omega) ?_
        intro g2 c2 w9 hown9 hgrow hat hlt9
        refine segQ_normal (Keeps.grown k8 hgrow fun b hb => .inr (own_ge hg1 hb)) ?_
        have k9 : Keeps (fun _ => False) w w9 := Keeps.of_drewN nq (Keeps.grown k8 hgrow fun b hb => .inr (own_ge hg1 hb))
        obtain ⟨⟨x0, x1⟩, x2⟩ := h'.out.lastAt k9
        have hg2 : w.heap.size ≤ g2 := by
          rcases hat with hat | hat
          · exact own_ge hg1 hat
          · rw [hat]; exact (Keeps.of_drewN nq k8).size
        go_wp2_with fail
        refine NoPanic.normal ?_
        go_wp2_with fail
        go_ret
        exact ⟨rfl, pushed h'.out hlq Hlt.out k9 hown9 hg2⟩

theorem Blk.newAt {w : World} {n : Nat} (T : TypeId) (xs : List Value) (h : w.heap.size = n) : Blk (w.alloc (.cells xs.toArray T)) n T xs := by
  subst h; exact Blk.new w T xs
theorem ropened {w' : World} {g gc l lc hi s : Nat} (h : RRep w q sv lv m vals) (hfew : m.frs.length < 1000000) (hok : AM.ok ⟨m.n, m.frs ++ [⟨s, []⟩], hi⟩)
    (hk : Keeps (fun b => b = q ∨ sv.ownBlock = some b ∨ lv.ownBlock = some b) w w') (st : Blk w' q TR [.int .i64 m.n, .slice (some ⟨g, 0, none⟩) (m.frs.length + 1) gc, .slice (some ⟨l, 0, none⟩) (m.frs.length + 1) lc, .int .i64 hi])
    (sz : Vec w' TI 1 (.slice (some ⟨g, 0, none⟩) (m.frs.length + 1) gc) (m.frs.length + 1) (ints (szs (m.frs ++ [⟨s, []⟩])))) (la : Vec w' TS 1 (.slice (some ⟨l, 0, none⟩) (m.frs.length + 1) lc) (m.frs.length + 1) (vals ++ [.slice none 0 0]))
    (hg : sv.ownBlock = some g ∨ w.heap.size ≤ g) (hl : lv.ownBlock = some l ∨ w.heap.size ≤ l) :
    ∃ F', RObj w' q ⟨m.n, m.frs ++ [⟨s, []⟩], hi⟩ F' ∧ Moves (rfoot q sv lv vals) F' w w' := by
  have hlen : (m.frs ++ [(⟨s, []⟩ : Fr)]).length = m.frs.length + 1 := by simp
  refine ⟨_, ⟨_, _, _, ⟨hok, by simp only [hlen]; omega, st, by simp only [hlen]; exact sz, by simp only [hlen]; exact la, fun i f hf => ?_⟩, rfl⟩, ?_, ?_⟩
  · by_cases hi : i < m.frs.length
    · simp only [List.getElem?_append_left hi] at hf
      obtain ⟨v, h1, h2, h3⟩ := h.rows i f hf
      refine ⟨v, by rw [List.getElem?_append_left (by rw [h.lens]; exact hi)]; exact h1, h2.keeps hk ?_, ?_⟩
      · rintro b hb (rfl | e | e)
        · exact h2.neT h.st (by decide) hb
        · exact h3 b hb e
        · exact h2.neV h.la (by decide) b hb e
      · intro b hb e
        have hlt := h2.lt b hb
        simp only [Value.ownBlock, Option.some.injEq] at e
        rcases hg with hg | hg
        · rw [e] at hg; exact h3 b hb hg
        · omega
    · have hi' : i = m.frs.length := by
        have := (List.getElem?_eq_some_iff.1 hf).1
        simp only [hlen] at this; omega
      subst hi'
      obtain rfl : f = ⟨s, []⟩ := by simpa using hf.symm
      refine ⟨.slice none 0 0, by rw [List.getElem?_append_right (by rw [h.lens]; exact Nat.le_refl _), h.lens]; simp, ⟨rfl, .inl ⟨rfl, rfl⟩⟩, fun b hb => by cases hb⟩
  · refine hk.mono ?_
    rintro b (hb | hb | hb)
    · exact .inl hb
    · exact .inr (.inl hb)
    · exact .inr (.inr (.inl hb))
  · rintro b (hb | hb | hb | ⟨u, hu, hb⟩)
    · exact .inl (.inl hb)
    · simp only [Value.ownBlock, Option.some.injEq] at hb
      subst hb
      rcases hg with hg | hg
      · exact .inl (.inr (.inl hg))
      · exact .inr hg
    · simp only [Value.ownBlock, Option.some.injEq] at hb
      subst hb
      rcases hl with hl | hl
      · exact .inl (.inr (.inr (.inl hl)))
      · exact .inr hl
    · rcases List.mem_append.1 hu with hu | hu
      · exact .inl (.inr (.inr (.inr ⟨u, hu, hb⟩)))
      · simp only [List.mem_singleton] at hu
        subst hu; cases hb

theorem ropen_neg (h : RRep w q sv lv m vals) (s : Int) (hs : s < 0) :
    Calls Try.prog 35 #[.pointer (some ⟨q, 0, none⟩), .int .i64 s] w fun e w' => e = .returned (.int .i64 1) ∧ ∃ F', RObj w' q m F' ∧ Moves (rfoot q sv lv vals) F' w w' := by
  have h' := hid h
  clear h
  go_enter Try.func35, Try.ntmps35
  go_wp2_with fail
  go_ret
  exact ⟨rfl, h'.out.stay 0⟩
theorem ropen_full (h : RRep w q sv lv m vals) (s : Int) (hs : 0 ≤ s) (hf : (m.n : Int) - m.used < s) :
    Calls Try.prog 35 #[.pointer (some ⟨q, 0, none⟩), .int .i64 s] w fun e w' => e = .returned (.int .i64 11) ∧ ∃ F', RObj w' q m F' ∧ Moves (rfoot q sv lv vals) F' w w' := by
  obtain ⟨c0, c1, c2, c3, fz⟩ := h.cells
  have h1 := h.ok.used_n
  have h2 := h.ok.n_le
  have h' := hid h
  clear h
  go_enter Try.func35, Try.ntmps35
  go_wp2_with fail
  go_quiet (exact (rused_any (h'.out.drewN _)).mono fun e w' h => ⟨h.1, _, h.2.symm⟩)
  go_wp2_with fail
  go_ret
  exact ⟨rfl, h'.out.stay _⟩

set_option maxRecDepth 100000 in
set_option maxHeartbeats 1000000 in
theorem ropen_yes (h : RRep w q sv lv m vals) (s : Nat) (hf : m.used + s ≤ m.n) (hfew : m.frs.length < 1000000) :
    Calls Try.prog 35 #[.pointer (some ⟨q, 0, none⟩), .int .i64 s] w fun e w' => e = .returned (.int .i64 0) ∧ ∃ F', RObj w' q ⟨m.n, m.frs ++ [⟨s, []⟩], max m.high (m.used + s)⟩ F' ∧ Moves (rfoot q sv lv vals) F' w w' := by
  obtain ⟨c0, c1, c2, c3, fz⟩ := h.cells
  have h1 := h.ok.used_n
  have h2 := h.ok.n_le
  have h3 := h.ok.high_le
  have h' := hid h
  have b1 : decide ((s : Int) < 0) = false := by simp
  have b2 : decide ((m.n : Int) - m.used < s) = false := by simp; omega
  have nsq : sv.ownBlock ≠ some q := h.sz.neT h.st (by decide)
  have lq : lv.ownBlock ≠ some q := h.la.neT h.st (by decide)
  have sl := h.la.neV h.sz (by decide)
  clear h
  generalize hmx : max m.high (m.used + s) = mx
  have Hmx := hid hmx
  clear hmx
  go_enter Try.func35, Try.ntmps35
  go_wp2_with fail
  go_quiet (exact (rused_any (h'.out.drewN _)).mono fun e w' h => ⟨h.1, _, h.2.symm⟩)
  go_wp2_with (at_builtin; first
    | (refine wpList_vec _ _ TSS TS (.slice none 0 0) 1 24 infoS Try.underlying45 rfl (by omega) rfl rfl lv m.frs.length vals rfl (((((h'.out.la.drewN _).alloc _).keeps hk1 sl).far (by exact lq) _).alloc _) w1.heap.size 1 1 [.slice none 0 0] rfl rfl (Blk.newAt _ _ (by simp)) (by simp [Value.oneCell']) (by omega) (by unfold maxLen; omega) (by omega) ?_
       intro l lc w2 hown2 hk2 hat2 hlt2
       obtain ⟨y0, y1, y2, y3, yz⟩ := cells4 (hk2.blk (((hk1.blk ((h'.out.st.drewN _).alloc _) nsq).set 1 _).alloc _) lq))
    | (refine wpList_vec _ _ TS TI (.int .i64 0) 1 8 infoI Try.underlying28 rfl (by omega) rfl rfl sv m.frs.length (ints (szs m.frs)) rfl ((h'.out.sz.drewN _).alloc _) w.heap.size 1 1 [.int .i64 s] rfl rfl (Blk.new _ _ _) (by simp [Value.oneCell']) (by omega) (by unfold maxLen; omega) (by omega) ?_
       intro g gc w1 hown1 hk1 hat1 hlt1
       obtain ⟨d0, d1, d2, d3, dz⟩ := cells4 (hk1.blk ((h'.out.st.drewN _).alloc _) nsq)
       have hg1 : g ≠ q := by
         rcases hat1 with h | h
         · intro e; subst e; exact nsq h
         · have := h'.out.st.lt; intro e; subst e; simp at h; omega))
  have hH := h'.out
  have hw : (w.drewN nq).heap.size = w.heap.size := rfl
  have B2 := hk2.blk (((hk1.blk ((hH.st.drewN _).alloc _) nsq).set 1 (.slice (some ⟨g, 0, none⟩) (m.frs.length + 1) gc)).alloc _) lq
  have B3 := B2.set 2 (.slice (some ⟨l, 0, none⟩) (m.frs.length + 1) lc)
  simp only [List.set_cons_succ, List.set_cons_zero] at B3
  have hg2 : sv.ownBlock = some g ∨ w.heap.size ≤ g := by
    rcases hat1 with h | h
    · exact .inl h
    · right; rw [h]; simp
  have hl2 : lv.ownBlock = some l ∨ w.heap.size ≤ l := by
    rcases hat2 with h | h
    · exact .inl h
    · right; rw [h]; have := hk1.size; simp at this ⊢; omega
  have hlq : l ≠ q := by
    rcases hl2 with h | h
    · intro e; subst e; exact lq h
    · have := hH.st.lt; omega
  have hgl : ∀ b, (Value.slice (some ⟨g, 0, none⟩) (m.frs.length + 1) gc).ownBlock = some b → ¬ lv.ownBlock = some b := by
    intro b hb e
    simp only [Value.ownBlock, Option.some.injEq] at hb
    subst hb
    rcases hg2 with h | h
    · exact sl g e h
    · have := hH.la.lt g e; omega
  have V3 := (((((Vec.of_own hown1).far (a := ⟨q, 1, none⟩) (by simpa [Value.ownBlock] using hg1) (.slice (some ⟨g, 0, none⟩) (m.frs.length + 1) gc)).alloc _).keeps hk2 hgl).far (a := ⟨q, 2, none⟩) (by simpa [Value.ownBlock] using hg1) (.slice (some ⟨l, 0, none⟩) (m.frs.length + 1) lc))
  have L3 := (Vec.of_own hown2).far (a := ⟨q, 2, none⟩) (by simpa [Value.ownBlock] using hlq) (.slice (some ⟨l, 0, none⟩) (m.frs.length + 1) lc)
  have hsum : sizes (m.frs ++ [⟨s, []⟩]) = m.used + s := by simp [AM.used, sizes_append, sizes_one]
  have hxs : ints (szs m.frs) ++ [.int .i64 (s : Int)] = ints (szs (m.frs ++ [⟨s, []⟩])) := by simp [ints, szs]
  have hlen : (m.frs ++ [(⟨s, []⟩ : Fr)]).length = m.frs.length + 1 := by simp
  have K3 : Keeps (fun b => b = q ∨ sv.ownBlock = some b ∨ lv.ownBlock = some b) w (w2.setCell ⟨q, 2, none⟩ (.slice (some ⟨l, 0, none⟩) (m.frs.length + 1) lc)) := by
    have k1 : Keeps (fun b => b = q ∨ sv.ownBlock = some b ∨ lv.ownBlock = some b) w w1 := (((Keeps.refl _ w).drewN nq).alloc _).trans (hk1.mono fun b hb => .inr (.inl hb))
    have k2 := ((k1.setCell (a := ⟨q, 1, none⟩) (.inl (.inl rfl)) (.slice (some ⟨g, 0, none⟩) (m.frs.length + 1) gc)).alloc (.cells #[.slice none 0 0] TS)).trans (hk2.mono fun b hb => .inr (.inr hb))
    exact k2.setCell (.inl (.inl rfl)) _
  rw [hxs] at V3
  have hUsed : ∀ k, Calls Try.prog 41 #[.pointer (some ⟨q, 0, none⟩)] ((w2.setCell ⟨q, 2, none⟩ (.slice (some ⟨l, 0, none⟩) (m.frs.length + 1) lc)).drewN k) fun e w' => e = .returned (.int .i64 ((m.used : Int) + (s : Int))) ∧ (w2.setCell ⟨q, 2, none⟩ (.slice (some ⟨l, 0, none⟩) (m.frs.length + 1) lc)).drewN k = w' := by
    intro k
    have := rused_raw (l := m.frs ++ [⟨s, []⟩]) ((B3.drewN k).cell 1) (by rw [hlen]; exact V3.drewN k) (by rw [hsum]; omega) (by rw [hlen]; omega)
    rw [hsum, Int.natCast_add] at this
    exact this
  have hmx := Hmx.out
  have hok : AM.ok ⟨m.n, m.frs ++ [⟨s, []⟩], mx⟩ := by
    have := hH.ok.opens s
    rwa [open_few hf, hmx] at this
  obtain ⟨q0, q1, q2, q3, qz⟩ := cells4 B3
  have HU := hid hUsed
  have HK := hid K3
  have HL := hid L3
  have HV := hid V3
  have HB := hid B3
  have HG := hid hg2
  have HM := hid hl2
  clear y0 y1 y2 y3 yz B2 hgl hUsed K3 L3 V3 B3 hg2 hl2 hk1 hk2 hown1 hown2 hat1 hat2 d0 d1 d2 d3 dz c0 c1 c2 c3 fz hlt1 hlt2 hxs hlen hsum
  generalize (w2.setCell ⟨q, 2, none⟩ (.slice (some ⟨l, 0, none⟩) (m.frs.length + 1) lc)) = w3 at *
  by_cases hgt : m.high < m.used + s
  · have b3 : decide ((m.high : Int) < (m.used : Int) + (s : Int)) = true := by simp; omega
    obtain rfl : mx = m.used + s := by omega
    clear hmx Hmx hgt
    go_quiet (exact (HU.out _).mono fun e w' h => ⟨h.1, _, h.2.symm⟩)
    go_wp2_with fail
    refine (HU.out _).mono ?_; rintro e w5 ⟨rfl, rfl⟩
    go_wp2_with fail
    go_ret
    refine ⟨rfl, ropened hH hfew hok ((HK.out.drewN _).setCell (.inl (.inl rfl)) _) (by have := (HB.out.drewN ‹Nat›).set 3 (.int .i64 ((m.used : Int) + s)); simpa using this) ((HV.out.drewN _).far (by simpa [Value.ownBlock] using hg1) _) ((HL.out.drewN _).far (by simpa [Value.ownBlock] using hlq) _) HG.out HM.out⟩
  · have b3 : decide ((m.high : Int) < (m.used : Int) + (s : Int)) = false := by simp; omega
    obtain rfl : mx = m.high := by omega
    clear hmx Hmx hgt
    go_quiet (exact (HU.out _).mono fun e w' h => ⟨h.1, _, h.2.symm⟩)
    go_wp2_with fail
    go_ret
    exact ⟨rfl, ropened hH hfew hok (HK.out.drewN _) (HB.out.drewN _) (HV.out.drewN _) (HL.out.drewN _) HG.out HM.out⟩
end
end Go.Proofs.Ytjmbgfkigfbioaa
