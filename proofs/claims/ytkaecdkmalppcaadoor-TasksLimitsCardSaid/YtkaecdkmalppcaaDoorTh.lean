/-
  keelbook.Within and few, walked; lists of tasks as they come in.
-/
import Derived.Test.YtkaecdkmalppcaaDoorTf
import Derived.SizedLaws
import Derived.OpenShut
import Derived.ChangeOld
import Derived.RowKit3
import Derived.Deep.SlicePairs
import Derived.Deep.Slices
namespace Go.Proofs.YtkaecdkmalppcaaDoor
open Go.RowKit Go.Kw Go.Kreg Go.Tm

def within (n lo hi : Int) : Int := lo + (if n.tmod (hi - lo + 1) < 0 then n.tmod (hi - lo + 1) + hi - lo + 1 else n.tmod (hi - lo + 1))
theorem within_bd (n lo hi : Int) (h : lo ≤ hi) : lo ≤ within n lo hi ∧ within n lo hi ≤ hi := by
  unfold within
  have h1 := Int.tmod_lt_of_pos n (b := hi - lo + 1) (by omega)
  have h2 : -(hi - lo + 1) < n.tmod (hi - lo + 1) := by
    have := Int.lt_tmod_of_pos n (show 0 < hi - lo + 1 by omega)
    exact this
  split <;> omega
theorem within_any (w : World) (n lo hi : Int) (h0 : -1000000 ≤ lo) (h1 : lo ≤ hi) (h2 : hi ≤ 1000000) (_hn : -9223372036854775808 ≤ n) (_hn' : n ≤ 9223372036854775807) :
    Calls Tryd.prog 14 #[.int .i64 n, .int .i64 lo, .int .i64 hi] w fun e w' => e = .returned (.int .i64 (within n lo hi)) ∧ w = w' := by
  have hb := within_bd n lo hi h1
  have hw : within n lo hi = lo + (if n.tmod (hi - lo + 1) < 0 then n.tmod (hi - lo + 1) + hi - lo + 1 else n.tmod (hi - lo + 1)) := rfl
  have Hw := hid hw
  have Hb := hid hb
  clear hw hb
  have m1 := Int.tmod_lt_of_pos n (b := hi - lo + 1) (by omega)
  have m2 := Int.lt_tmod_of_pos n (show 0 < hi - lo + 1 by omega)
  have hne : ((hi - lo + 1 : Int) == 0) = false := by simp; omega
  have hp : 0 < hi - lo + 1 := by omega
  go_enter Tryd.func14, Tryd.ntmps14
  go_wp2
  · go_ret
    rename_i hneg
    exact ⟨ret_int (by rw [Hw.out, if_pos hneg]), rfl⟩
  · go_ret
    rename_i hneg
    exact ⟨ret_int (by rw [Hw.out, if_neg (by omega)]), rfl⟩

theorem few_any {w : World} {v : Value} {l : List Task} (h : SlTk w v l) (n : Nat) (hn : n ≤ 1000) :
    Calls Tryd.prog 15 #[v, .int .i64 n] w fun e w' => (∃ v', e = .returned v' ∧ SlTk w v' (l.take n)) ∧ w = w' := by
  obtain ⟨ao, c, rfl, hl, hlc, hcm, hx⟩ := h
  by_cases hlt : n < l.length
  · have b1 : decide ((n : Int) < (l.length : Int)) = true := by simp; omega
    have i0 : (0 : Int) ≤ (n : Int) := by omega
    have i1 : (n : Int) ≤ (c : Int) := by omega
    have hlen : (l.take n).length = n := by simp; omega
    have hpost : SlTk w (.slice ao n c) (l.take n) := by
      refine ⟨ao, c, by rw [hlen], by omega, by omega, hcm, fun j x hj => ?_⟩
      rw [List.getElem?_take] at hj
      split at hj
      · exact hx j x hj
      · cases hj
    have Hp := hid hpost
    clear hpost hx hlen
    go_enter Tryd.func15, Tryd.ntmps15
    go_wp2
    all_goals
      go_ret
      exact ⟨⟨_, rfl, by first | exact Hp.out | simpa using Hp.out⟩, rfl⟩
  · have b1 : decide ((n : Int) < (l.length : Int)) = false := by simp; omega
    have hpost : SlTk w (.slice ao l.length c) (l.take n) := by rw [List.take_of_length_le (by omega)]; exact ⟨ao, c, rfl, hl, hlc, hcm, hx⟩
    have Hp := hid hpost
    clear hpost hx
    go_enter Tryd.func15, Tryd.ntmps15
    go_wp2
    go_ret
    exact ⟨⟨_, rfl, Hp.out⟩, rfl⟩

theorem addr_of_cell {w : World} {a : Addr} {v : Value} (h : w.cell? (a.add 0) = some v) : a = ⟨a.block, a.off, none⟩ := by
  have hs := World.cell?_spot h
  obtain ⟨b, o, s⟩ := a
  have : (⟨b, o, s⟩ : Addr).add 0 = ⟨b, o, s⟩ := rfl
  rw [this] at hs
  simp only at hs; subst hs; rfl
theorem int_bd {k : Int} (h : (Lit.int .i64 k).wf = true) : -9223372036854775808 ≤ k ∧ k ≤ 9223372036854775807 := by
  simp only [Lit.wf, Bool.and_eq_true, decide_eq_true_eq] at h
  exact h
theorem big_of {k : Int} (h : (Lit.int .i64 k).wf = true) : big k := int_bd h

theorem SlNd.ofTrod {H : Type} {enc : TypeId × Value → H} {W : World} {base fuel : Nat} {sp : Nat → Bool} {held : Bool} {cs : List Value} {x : DataW H × List MemPlace}
    (h : DataW.trod enc Tryd.prog W base sp held fuel TNds cs = some x) : ∃ v l, cs = [v] ∧ SlNd W v l := by
  rcases Deep.open_slice_pairs Tryd.underlying28 Tryd.underlying32 (by kernel_rfl) rfl rfl (by kernel_rfl) (by kernel_rfl) h with ⟨hcs, _⟩ | ⟨a, len, cap, m, n, V0, V1, D0, D1, P0, P1, hcs, _, hl, hm, hmm, hx, hcell⟩
  · exact ⟨_, [], hcs, SlNd.nil W⟩
  · have hlm : len ≤ m := by rw [hmm]; split <;> omega
    have key : ∀ i, i < len → ∃ q : Need, V0 i = .int .i64 q.res ∧ V1 i = .int .i64 q.units ∧ big q.res ∧ big q.units := by
      intro i hi
      obtain ⟨_, _, t0, t1⟩ := hcell i (by omega)
      obtain ⟨k0, e0, _, w0⟩ := DataW.trod_int Tryd.underlying3 t0
      obtain ⟨k1, e1, _, w1⟩ := DataW.trod_int Tryd.underlying3 t1
      exact ⟨⟨k0, k1⟩, by simpa using e0, by simpa using e1, big_of w0, big_of w1⟩
    obtain ⟨f, hf⟩ := Deep.choose_lt key
    refine ⟨_, (List.range len).map f, hcs, some a, cap, by simp, by simp; unfold maxLen at hm; omega, by simpa using hl, hm, fun j y hj => ?_, (fun e => by cases e), fun y hy => ?_⟩
    · rw [List.getElem?_map] at hj
      cases hr : (List.range len)[j]? with
      | none => rw [hr] at hj; cases hj
      | some i =>
        rw [hr] at hj
        obtain ⟨hjl, hji⟩ := List.getElem?_eq_some_iff.1 hr
        simp only [List.getElem_range] at hji
        simp only [List.length_range] at hjl
        subst hji
        simp only [Option.map_some, Option.some.injEq] at hj
        subst hj
        obtain ⟨c0, c1, _, _⟩ := hcell j (by omega)
        obtain ⟨e0, e1, _, _⟩ := hf j hjl
        have e := addr_of_cell (by have := (hcell 0 (by omega)).1; rwa [Nat.zero_mul] at this)
        refine ⟨a.block, a.off, by rw [← e], ?_, ?_⟩
        · rw [e, add_at, e0] at c0; exact c0
        · rw [e, add_at, e1] at c1; rw [Nat.add_assoc]; exact c1
    · simp only [List.mem_map, List.mem_range] at hy
      obtain ⟨i, hi, rfl⟩ := hy
      obtain ⟨_, _, w0, w1⟩ := hf i hi
      exact ⟨w0, w1⟩

set_option maxRecDepth 100000 in
theorem SlTk.ofTrod {H : Type} {enc : TypeId × Value → H} {W : World} {a : Option Addr} {len cap : Nat} {d : DataW H} {ps : List MemPlace}
    (h : DataW.Trod enc Tryd.prog W 0 (fun _ => true) true TTks (.slice a len cap) d ps) : ∃ l, SlTk W (.slice a len cap) l := by
  obtain ⟨fuel, hf⟩ := h
  rcases Deep.open_slice Tryd.underlying35 hf with ⟨hcs, _⟩ | ⟨x, l, c, m, n, D, Pl, hcs, _, hl, hm, hmm, hx, hcell⟩
  · simp [Value.cells] at hcs
    obtain ⟨rfl, rfl, rfl⟩ := hcs
    exact ⟨[], none, 0, rfl, by simp, by simp, by simp [maxLen], fun j x hj => by simp at hj⟩
  · simp [Value.cells] at hcs
    obtain ⟨rfl, rfl, rfl⟩ := hcs
    have hlm : len ≤ m := by rw [hmm]; split <;> omega
    have c8 : Tryd.prog.cellsOf TTk = 8 := by kernel_rfl
    have key : ∀ i, i < len → ∃ q : Task × Value, (∀ j u, [.string q.1.name, .int .i64 q.1.level, .int .i64 q.1.frame, q.2, .string q.1.code, .int .i64 q.1.period, .int .i64 q.1.first, .int .i64 q.1.gap][j]? = some u → W.cell? (x.add (i * 8 + j)) = some u) ∧ SlNd W q.2 q.1.needs ∧ big q.1.level ∧ big q.1.frame ∧ big q.1.period ∧ big q.1.first ∧ big q.1.gap := by
      intro i hi
      obtain ⟨cs', h1, h2⟩ := hcell i (by omega)
      rw [c8] at h1
      obtain ⟨_, hlen, hcl⟩ := World.cells?_some h1
      obtain ⟨xs, k, hk, hxy, _, hxl, hfl⟩ := DataW.trod_struct Tryd.underlying30 h2
      match xs, hxl, cs', hlen with
      | [y0, y1, y2, y3, y4, y5, y6, y7], _, [v0, v1, v2, v3, v4, v5, v6, v7], _ =>
        have g0 := hfl 0 _ rfl
        have g1 := hfl 1 _ rfl
        have g2 := hfl 2 _ rfl
        have g3 := hfl 3 _ rfl
        have g4 := hfl 4 _ rfl
        have g5 := hfl 5 _ rfl
        have g6 := hfl 6 _ rfl
        have g7 := hfl 7 _ rfl
        have cS : Tryd.prog.cellsOf 9 = 1 := by kernel_rfl
        have cI : Tryd.prog.cellsOf 3 = 1 := by kernel_rfl
        have cN : Tryd.prog.cellsOf 28 = 1 := by kernel_rfl
        simp [cS] at g0 g4
        simp [cI] at g1 g2 g5 g6 g7
        simp [cN] at g3
        obtain ⟨s0, e0, _, _⟩ := DataW.trod_string Tryd.underlying9 g0
        obtain ⟨s4, e4, _, _⟩ := DataW.trod_string Tryd.underlying9 g4
        obtain ⟨k1, e1, _, w1⟩ := DataW.trod_int Tryd.underlying3 g1
        obtain ⟨k2, e2, _, w2⟩ := DataW.trod_int Tryd.underlying3 g2
        obtain ⟨k5, e5, _, w5⟩ := DataW.trod_int Tryd.underlying3 g5
        obtain ⟨k6, e6, _, w6⟩ := DataW.trod_int Tryd.underlying3 g6
        obtain ⟨k7, e7, _, w7⟩ := DataW.trod_int Tryd.underlying3 g7
        obtain ⟨v3', nl, e3, s3⟩ := SlNd.ofTrod g3
        simp only [List.cons.injEq, and_true] at e0 e1 e2 e3 e4 e5 e6 e7
        subst e0 e1 e2 e3 e4 e5 e6 e7
        refine ⟨(⟨s0, k1, k2, nl, s4, k5, k6, k7⟩, v3), fun j u hu => ?_, s3, big_of w1, big_of w2, big_of w5, big_of w6, big_of w7⟩
        have hj : j < 8 := (List.getElem?_eq_some_iff.1 hu).1
        have hc := hcl j hj
        rw [Deep.add_add] at hc
        rw [hc]; exact hu
    obtain ⟨f, hf⟩ := Deep.choose_lt key
    refine ⟨(List.range len).map fun i => (f i).1, some x, cap, by simp, by simp; unfold maxLen at hm; omega, by simpa using hl, hm, fun j y hj => ?_⟩
    rw [List.getElem?_map] at hj
    cases hr : (List.range len)[j]? with
    | none => rw [hr] at hj; cases hj
    | some i =>
      rw [hr] at hj
      obtain ⟨hjl, hji⟩ := List.getElem?_eq_some_iff.1 hr
      simp only [List.getElem_range] at hji
      simp only [List.length_range] at hjl
      subst hji
      simp only [Option.map_some, Option.some.injEq] at hj
      subst hj
      obtain ⟨hc, hs, hb⟩ := hf j hjl
      obtain ⟨h0, _⟩ := hf 0 (by omega)
      have e := addr_of_cell (by have := h0 0 _ rfl; rwa [Nat.zero_mul, Nat.zero_add] at this)
      refine ⟨x.block, x.off, (f j).2, by rw [← e], ?_, hs, hb⟩
      have key : ∀ (i : Nat) u, [.string (f j).1.name, .int .i64 (f j).1.level, .int .i64 (f j).1.frame, (f j).2, .string (f j).1.code, .int .i64 (f j).1.period, .int .i64 (f j).1.first, .int .i64 (f j).1.gap][i]? = some u → W.cell? ⟨x.block, x.off + j * 8 + i, none⟩ = some u := fun i u hu => by
        have := hc i u hu
        rw [e, add_at] at this
        rw [Nat.add_assoc]; exact this
      exact ⟨key 0 _ rfl, key 1 _ rfl, key 2 _ rfl, key 3 _ rfl, key 4 _ rfl, key 5 _ rfl, key 6 _ rfl, key 7 _ rfl⟩
end Go.Proofs.YtkaecdkmalppcaaDoor
