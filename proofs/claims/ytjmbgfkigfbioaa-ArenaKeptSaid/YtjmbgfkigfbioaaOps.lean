/-
  Lists of calls: how they read, and the law's own functions few, act, made, walked.
-/
import Derived.Test.YtjmbgfkigfbioaaArc
import Derived.Test.YtjmbgfkigfbioaaBook
import Derived.Deep.SlicePairs
import Derived.SizedLaws
import Derived.OpenShut
import Derived.ChangeOld
namespace Go.Proofs.Ytjmbgfkigfbioaa
open Go.RowKit Go.Kw Go.Kreg Go.Arm

abbrev TOps : Nat := 37
abbrev TOp : Nat := 42

/-- A slice value that reads as a list of calls, each a kind and a number. -/
def SlOp (w : World) (v : Value) (l : List (Int × Int)) : Prop :=
  ∃ ao c, v = .slice ao l.length c ∧ l.length ≤ 140737488351232 ∧ l.length ≤ c ∧ c ≤ maxLen ∧
    (∀ j x, l[j]? = some x → ∃ b o, ao = some ⟨b, o, none⟩ ∧ w.cell? ⟨b, o + j * 2, none⟩ = some (.int .i64 x.1) ∧ w.cell? ⟨b, o + j * 2 + 1, none⟩ = some (.int .i64 x.2)) ∧
    ∀ x ∈ l, (-9223372036854775808 ≤ x.1 ∧ x.1 ≤ 9223372036854775807) ∧ (-9223372036854775808 ≤ x.2 ∧ x.2 ≤ 9223372036854775807)

theorem SlOp.keeps {w w' : World} {v : Value} {l : List (Int × Int)} {F : Nat → Prop} (h : SlOp w v l) (hk : Keeps F w w') (hF : ∀ b, b < w.heap.size → (∃ o n c, v = .slice (some ⟨b, o, none⟩) n c) → ¬ F b) : SlOp w' v l := by
  obtain ⟨ao, c, rfl, hl, hlc, hcm, hc, hx⟩ := h
  refine ⟨ao, c, rfl, hl, hlc, hcm, fun j x hj => ?_, hx⟩
  obtain ⟨b, o, rfl, h1, h2⟩ := hc j x hj
  have hb := hk.block b (World.block_lt_of_cell? w _ h1) (hF b (World.block_lt_of_cell? w _ h1) ⟨o, _, c, rfl⟩)
  exact ⟨b, o, rfl, (World.cell?_of_block (w := w) hb).trans h1, (World.cell?_of_block (w := w) hb).trans h2⟩
theorem SlOp.new {w w' : World} {v : Value} {l : List (Int × Int)} (h : SlOp w v l) (hk : Keeps (fun _ => False) w w') : SlOp w' v l := h.keeps hk fun _ _ _ => id
theorem SlOp.nil (w : World) : SlOp w (.slice none 0 0) [] := ⟨none, 0, rfl, by simp, by simp, by simp [maxLen], by simp, by simp⟩
/-- What was there when w began is of no block that is newer. -/
theorem SlOp.moves {w0 w w' : World} {v : Value} {l : List (Int × Int)} {F F' : Nat → Prop} (h : SlOp w v l) (h0 : SlOp w0 v l) (hm : Moves F F' w w') (hF : ∀ b, F b → w0.heap.size ≤ b) : SlOp w' v l := by
  by_cases hl : l = []
  · subst hl
    obtain ⟨ao, c, rfl, h1, h2, h3, h4, h5⟩ := h
    exact ⟨ao, c, rfl, h1, h2, h3, by simp, by simp⟩
  · refine h.keeps hm.1 fun b _ ⟨o, n, c, e⟩ hf => ?_
    obtain ⟨ao, c', e', _, _, _, hc, _⟩ := h0
    obtain ⟨b', o', rfl, h1, _⟩ := hc 0 (l.head hl) (by cases l; exact absurd rfl hl; rfl)
    rw [e] at e'
    simp only [Value.slice.injEq, Option.some.injEq, Addr.mk.injEq] at e'
    have := World.block_lt_of_cell? w0 _ h1
    have := hF b hf
    simp only at *
    omega

theorem addr_of_cell {w : World} {a : Addr} {v : Value} (h : w.cell? (a.add 0) = some v) : a = ⟨a.block, a.off, none⟩ := by
  have hs := World.cell?_spot h
  obtain ⟨b, o, s⟩ := a
  have : (⟨b, o, s⟩ : Addr).add 0 = ⟨b, o, s⟩ := rfl
  rw [this] at hs
  simp only at hs; subst hs; rfl

theorem SlI.ofTrod {H : Type} {enc : TypeId × Value → H} {W : World} {a : Option Addr} {len cap : Nat} {d : DataW H} {ps : List MemPlace} {ts : List TypeId} {ds : List (DataW H)} {j : Nat}
    (hsz : (DataW.weightsEach Try.prog ts ds).all (· ≤ reachBytes) = true) (ht : ts[j]? = some TS) (hd : ds[j]? = some d)
    (h : DataW.Trod enc Try.prog W 0 (fun _ => true) true TS (.slice a len cap) d ps) : ∃ l, SlI W (.slice a len cap) l ∧ ∀ x ∈ l, -9223372036854775808 ≤ x ∧ x ≤ 9223372036854775807 := by
  obtain ⟨fuel, hf⟩ := h
  rcases ChangeShapes.open_ints Try.underlying28 Try.underlying3 (by kernel_rfl) hf with ⟨hcs, _⟩ | ⟨x, l, c, zs, hcs, _, hl, hm, hz, hx, hcell, hwz⟩
  · simp [Value.cells] at hcs
    obtain ⟨rfl, rfl, rfl⟩ := hcs
    exact ⟨[], SlI.nil W, by simp⟩
  · simp [Value.cells] at hcs
    obtain ⟨rfl, rfl, rfl⟩ := hcs
    obtain ⟨hx, _⟩ := Prod.mk.inj hx
    subst hx
    have z := sized_slice hsz ht hd Try.underlying28
    rw [show Try.prog.bytesOf TI = 8 by kernel_rfl] at z
    have hz' : zs.length = cap := by simpa using hz
    have hlen : (zs.take len).length = len := by simp; omega
    have hl2 : (ChangeShapes.lits (H := H) .i64 (zs.take len)).length + (ChangeShapes.lits (H := H) .i64 (zs.drop len)).length = cap := by simp [ChangeShapes.lits]; omega
    rw [hl2] at z
    unfold reachBytes at z
    refine ⟨zs.take len, ⟨_, cap, by rw [hlen], by omega, by omega, fun j y hj => ?_⟩, fun y hy => int_bd (hwz y (List.mem_of_mem_take hy))⟩
    rw [List.getElem?_take] at hj
    split at hj
    · have hjl : j < zs.length := (List.getElem?_eq_some_iff.1 hj).1
      have h1 := hcell j hjl
      have e := addr_of_cell (hcell 0 (by omega))
      refine ⟨x.block, x.off, by rw [← e], ?_⟩
      rw [e, add_at, List.getD_eq_getElem?_getD, hj] at h1
      exact h1
    · cases hj

theorem SlOp.ofTrod {H : Type} {enc : TypeId × Value → H} {W : World} {a : Option Addr} {len cap : Nat} {d : DataW H} {ps : List MemPlace} {ts : List TypeId} {ds : List (DataW H)} {j : Nat}
    (hsz : (DataW.weightsEach Try.prog ts ds).all (· ≤ reachBytes) = true) (ht : ts[j]? = some TOps) (hd : ds[j]? = some d)
    (h : DataW.Trod enc Try.prog W 0 (fun _ => true) true TOps (.slice a len cap) d ps) : ∃ l, SlOp W (.slice a len cap) l := by
  obtain ⟨fuel, hf⟩ := h
  rcases Deep.open_slice_pairs Try.underlying37 Try.underlying42 (by kernel_rfl) rfl rfl (by kernel_rfl) (by kernel_rfl) hf with ⟨hcs, _⟩ | ⟨x, l, c, m, n, V0, V1, D0, D1, P0, P1, hcs, _, hl, hm, hmm, hx, hcell⟩
  · simp [Value.cells] at hcs
    obtain ⟨rfl, rfl, rfl⟩ := hcs
    exact ⟨[], SlOp.nil W⟩
  · simp [Value.cells] at hcs
    obtain ⟨rfl, rfl, rfl⟩ := hcs
    obtain ⟨hx, _⟩ := Prod.mk.inj hx
    subst hx
    have z := sized_slice hsz ht hd Try.underlying37
    rw [show Try.prog.bytesOf TOp = 16 by kernel_rfl] at z
    simp only [List.length_map, List.length_range] at z
    unfold reachBytes at z
    simp only [if_true] at hmm
    subst hmm
    have key : ∀ i, i < len → ∃ q : Int × Int, V0 i = .int .i64 q.1 ∧ V1 i = .int .i64 q.2 ∧ (Lit.int .i64 q.1).wf = true ∧ (Lit.int .i64 q.2).wf = true := by
      intro i hi
      obtain ⟨_, _, t0, t1⟩ := hcell i (by omega)
      obtain ⟨k0, e0, _, w0⟩ := DataW.trod_int Try.underlying3 t0
      obtain ⟨k1, e1, _, w1⟩ := DataW.trod_int Try.underlying3 t1
      exact ⟨(k0, k1), by simpa using e0, by simpa using e1, w0, w1⟩
    obtain ⟨f, hf⟩ := Deep.choose_lt key
    refine ⟨(List.range len).map f, some x, m, by simp, by simp; omega, by simpa using hl, hm, fun j y hj => ?_, fun y hy => ?_⟩
    · rw [List.getElem?_map] at hj
      cases hr : (List.range len)[j]? with
      | none => rw [hr] at hj; cases hj
      | some i =>
        rw [hr] at hj
        have hi := List.getElem?_eq_some_iff.1 hr
        obtain ⟨hjl, hji⟩ := hi
        simp only [List.getElem_range] at hji
        simp only [List.length_range] at hjl
        subst hji
        simp only [Option.map_some, Option.some.injEq] at hj
        subst hj
        obtain ⟨c0, c1, _, _⟩ := hcell j (by omega)
        obtain ⟨e0, e1, _, _⟩ := hf j hjl
        have e := addr_of_cell (by have := (hcell 0 (by omega)).1; rwa [Nat.zero_mul] at this)
        refine ⟨x.block, x.off, by rw [← e], ?_, ?_⟩
        · rw [e, add_at, e0] at c0; exact c0
        · rw [e, add_at, e1] at c1; rw [Nat.add_assoc]; exact c1
    · simp only [List.mem_map, List.mem_range] at hy
      obtain ⟨i, hi, rfl⟩ := hy
      obtain ⟨_, _, w0, w1⟩ := hf i hi
      exact ⟨int_bd w0, int_bd w1⟩

theorem few_any {w : World} {v : Value} {l : List (Int × Int)} (h : SlOp w v l) (n : Nat) (hn : n ≤ 1000) :
    Calls Try.prog 24 #[v, .int .i64 n] w fun e w' => (∃ v', e = .returned v' ∧ ∀ w0, SlOp w0 v l → SlOp w0 v' (l.take n)) ∧ w = w' := by
  obtain ⟨ao, c, rfl, hl, hlc, hcm, hc, hx⟩ := h
  by_cases hlt : n < l.length
  · have b1 : decide ((n : Int) < (l.length : Int)) = true := by simp; omega
    have i0 : (0 : Int) ≤ (n : Int) := by omega
    have i1 : (n : Int) ≤ (c : Int) := by omega
    have hlen : (l.take n).length = n := by simp; omega
    have hpost : ∀ w0, SlOp w0 (.slice ao l.length c) l → SlOp w0 (.slice ao n c) (l.take n) := by
      intro w0 ⟨ao', c', e, hl, hlc, hcm, hc, hx⟩
      cases e
      refine ⟨ao, c, by rw [hlen], by omega, by omega, hcm, fun j x hj => ?_, fun x hx' => hx x (List.mem_of_mem_take hx')⟩
      rw [List.getElem?_take] at hj
      split at hj
      · exact hc j x hj
      · cases hj
    have Hp := hid hpost
    clear hpost hc hx hlen
    go_enter Try.func24, Try.ntmps24
    go_wp2
    all_goals
      go_ret
      exact ⟨⟨_, rfl, by first | exact Hp.out | simpa using Hp.out⟩, rfl⟩
  · have b1 : decide ((n : Int) < (l.length : Int)) = false := by simp; omega
    have hpost : ∀ w0, SlOp w0 (.slice ao l.length c) l → SlOp w0 (.slice ao l.length c) (l.take n) := by intro w0 h; rw [List.take_of_length_le (by omega)]; exact h
    have Hp := hid hpost
    clear hpost hc hx
    go_enter Try.func24, Try.ntmps24
    go_wp2
    go_ret
    exact ⟨⟨_, rfl, Hp.out⟩, rfl⟩

def AM.act (m : AM) (x : Int × Int) : AM :=
  if x.1 = 0 then (m.opens x.2).2 else if x.1 = 1 then m.closes.2 else if x.1 = 2 then (m.push x.2).2 else if x.1 = 3 then m.pop.2.2 else m

theorem act_m {w : World} {p : Nat} {m : AM} {F : Nat → Prop} (h : AObj w p m F) (hfew : m.frs.length < 1000000) (k n : Int) :
    Calls Try.prog 31 #[.pointer (some ⟨p, 0, none⟩), .agg #[.int .i64 k, .int .i64 n]] w fun e w' => e = .returned (.tuple #[]) ∧ ∃ F', AObj w' p (AM.act m (k, n)) F' ∧ Moves F F' w w' := by
  have h' := h.new ((Keeps.refl (fun _ => False) w).alloc (.cells #[.int .i64 k, .int .i64 n] TOp))
  have k0 := (Moves.refl F w).new ((Keeps.refl (fun _ => False) w).alloc (.cells #[.int .i64 k, .int .i64 n] TOp))
  by_cases e0 : k = 0
  · subst e0
    have he : AM.act m (0, n) = (m.opens n).2 := by simp [AM.act]
    rw [he]
    go_enter Try.func31, Try.ntmps31
    go_wp2_with fail
    refine (open_m h' hfew n).mono ?_; rintro e w1 ⟨rfl, F1, h1, k1⟩
    go_wp2_with fail
    go_end0
    exact ⟨rfl, F1, h1, k0.trans k1⟩
  · by_cases e1 : k = 1
    · subst e1
      have he : AM.act m (1, n) = m.closes.2 := by simp [AM.act]
      rw [he]
      clear e0
      go_enter Try.func31, Try.ntmps31
      go_wp2_with fail
      refine (close_m h').mono ?_; rintro e w1 ⟨rfl, F1, h1, k1⟩
      go_wp2_with fail
      go_end0
      exact ⟨rfl, F1, h1, k0.trans k1⟩
    · by_cases e2 : k = 2
      · subst e2
        have he : AM.act m (2, n) = (m.push n).2 := by simp [AM.act]
        rw [he]
        clear e0 e1
        go_enter Try.func31, Try.ntmps31
        go_wp2_with fail
        refine (push_m h' n).mono ?_; rintro e w1 ⟨rfl, F1, h1, k1⟩
        go_wp2_with fail
        go_end0
        exact ⟨rfl, F1, h1, k0.trans k1⟩
      · by_cases e3 : k = 3
        · subst e3
          have he : AM.act m (3, n) = m.pop.2.2 := by simp [AM.act]
          rw [he]
          clear e0 e1 e2
          go_enter Try.func31, Try.ntmps31
          go_wp2_with fail
          refine (pop_m h').mono ?_; rintro e w1 ⟨rfl, F1, h1, k1⟩
          go_wp2_with fail
          go_end0
          exact ⟨rfl, F1, h1, k0.trans k1⟩
        · have he : AM.act m (k, n) = m := by simp [AM.act, e0, e1, e2, e3]
          rw [he]
          have b0 : (k == 0) = false := by simpa using e0
          have b1 : (k == 1) = false := by simpa using e1
          have b2 : (k == 2) = false := by simpa using e2
          have b3 : (k == 3) = false := by simpa using e3
          clear e0 e1 e2 e3
          go_enter Try.func31, Try.ntmps31
          go_wp2_with fail
          go_end0
          exact ⟨rfl, F, h', k0⟩

def AM.acts (m : AM) (l : List (Int × Int)) : AM := l.foldl AM.act m
theorem act_n (m : AM) (x : Int × Int) : (AM.act m x).n = m.n ∧ (AM.act m x).frs.length ≤ m.frs.length + 1 := by
  unfold AM.act
  split
  · unfold AM.opens; split; (exact ⟨rfl, by simp⟩); split; (exact ⟨rfl, by simp⟩); exact ⟨rfl, by simp⟩
  · split
    · unfold AM.closes; split; (exact ⟨rfl, by simp⟩); exact ⟨rfl, by simp; omega⟩
    · split
      · unfold AM.push
        split
        · exact ⟨rfl, by simp⟩
        · rename_i f hf
          split
          · exact ⟨rfl, by simp⟩
          · exact ⟨rfl, by have := congrArg List.length (last_split hf); simp at this ⊢⟩
      · split
        · unfold AM.pop
          split
          · exact ⟨rfl, by simp⟩
          · rename_i f hf
            split
            · exact ⟨rfl, by simp⟩
            · exact ⟨rfl, by have := congrArg List.length (last_split hf); simp at this ⊢⟩
        · exact ⟨rfl, by simp⟩
theorem acts_n : ∀ (l : List (Int × Int)) (m : AM), (AM.acts m l).n = m.n ∧ (AM.acts m l).frs.length ≤ m.frs.length + l.length
  | [], m => ⟨rfl, by simp [AM.acts]⟩
  | x :: l, m => by
    have h1 := act_n m x
    have h2 := acts_n l (AM.act m x)
    have e : AM.acts m (x :: l) = AM.acts (AM.act m x) l := rfl
    rw [e, List.length_cons]
    exact ⟨h2.1.trans h1.1, by omega⟩
theorem acts_take (m : AM) (l : List (Int × Int)) (k : Nat) {x : Int × Int} (hx : l[k]? = some x) : AM.acts m (l.take (k + 1)) = AM.act (AM.acts m (l.take k)) x := by
  unfold AM.acts
  rw [List.take_add_one, hx]
  simp

set_option maxRecDepth 100000 in
set_option maxHeartbeats 1000000 in
theorem made_any {w : World} {v : Value} {l : List (Int × Int)} (h : SlOp w v l) (hl : l.length ≤ 1000) (n : Nat) (hn : n ≤ 65536) :
    Calls Try.prog 23 #[.int .i64 n, v] w fun e w' => ∃ p F, e = .returned (.pointer (some ⟨p, 0, none⟩)) ∧ AObj w' p (AM.acts (AM.new n) l) F ∧ Moves (fun _ => False) F w w' := by
  have hS := h
  obtain ⟨ao, c, rfl, _, hlc, hcm, _, _⟩ := h
  have HS := hid hS
  clear hS
  go_enter Try.func23, Try.ntmps23
  go_wp2_with fail
  refine (new_m w n hn).mono ?_; rintro e w1 ⟨p, F1, rfl, h1, k1⟩
  go_wp2_with fail
  go_loopw [7] (fun i wr => ∃ (k : Nat) (F : Nat → Prop), k ≤ l.length ∧ i = .int .i64 k ∧ AObj wr p (AM.acts (AM.new n) (l.take k)) F ∧ Moves (fun _ => False) F w wr) (fun i _ => l.length - (intOf i).toNat)
  case atStart => exact ⟨0, F1, Nat.zero_le _, rfl, h1, k1⟩
  case round =>
    obtain ⟨k, F, hk, rfl, hA, hM⟩ := hrel
    by_cases hlt : k < l.length
    · have hSr := HS.out.new hM.1
      obtain ⟨_, _, e, _, _, _, hc, _⟩ := hSr
      cases e
      have Hx := hid (List.getElem?_eq_getElem hlt)
      obtain ⟨b, o, rfl, c1, c2⟩ := hc k l[k] (List.getElem?_eq_getElem hlt)
      generalize l[k] = x at *
      clear hc
      have i0 : (0 : Int) ≤ (k : Int) := by omega
      have i1 : (k : Int) < (l.length : Int) := by omega
      have b1 : decide ((k : Int) < (l.length : Int)) = true := by simp; omega
      have hfew := (acts_n (l.take k) (AM.new n)).2
      simp only [AM.new, List.length_nil, List.length_take] at hfew
      go_wp2_with fail
      refine (act_m hA (by simp only [AM.new]; omega) x.1 x.2).mono ?_; rintro e w2 ⟨rfl, F2, h2, k2⟩
      go_wp2_with fail
      go_roundw
      case rel => exact ⟨k + 1, F2, by omega, by go_num, by rw [acts_take _ _ _ Hx.out]; exact h2, hM.trans k2⟩
      case measure => simp [intOf]; omega
    · have b1 : decide ((k : Int) < (l.length : Int)) = false := by simp; omega
      have e : l.take k = l := List.take_of_length_le (by omega)
      rw [e] at hA
      clear e
      go_wp2_with fail
      go_ret
      exact ⟨p, F, rfl, hA, hM⟩
end Go.Proofs.Ytjmbgfkigfbioaa
