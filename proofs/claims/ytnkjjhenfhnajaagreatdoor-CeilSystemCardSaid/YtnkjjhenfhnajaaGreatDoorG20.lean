/-
  Texts Th Ta Tja Sm Wi in one.
-/
import Derived.Test.YtnkjjhenfhnajaaGreatDoorG13
import Derived.SizedLaws
import Derived.OpenShut
import Derived.ChangeOld
import Derived.RowKit3
import Derived.Deep.SlicePairs
import Derived.Deep.Slices
import Derived.Laws.StructEq
/-
  few, walked; lists of tasks as they come in.
-/
namespace Go.Proofs.YtnkjjhenfhnajaaGreatDoor
open Go.RowKit Go.Kw Go.Kreg Go.Tm

def within (n lo hi : Int) : Int := lo + (if n.tmod (hi - lo + 1) < 0 then n.tmod (hi - lo + 1) + hi - lo + 1 else n.tmod (hi - lo + 1))
theorem within_bd (n lo hi : Int) (h : lo ≤ hi) : lo ≤ within n lo hi ∧ within n lo hi ≤ hi := by
  unfold within
  have h1 := Int.tmod_lt_of_pos n (b := hi - lo + 1) (by omega)
  have h2 : -(hi - lo + 1) < n.tmod (hi - lo + 1) := by
    have := Int.lt_tmod_of_pos n (show 0 < hi - lo + 1 by omega)
    exact this
  split <;> omega
theorem few_any {w : World} {v : Value} {l : List Task} (h : SlTk w v l) (n : Nat) (hn : n ≤ 1000) :
    Calls Tryz.prog 10 #[v, .int .i64 n] w fun e w' => (∃ v', e = .returned v' ∧ SlTk w v' (l.take n)) ∧ w = w' := by
  obtain ⟨ao, c, rfl, hl, hlc, hcm, hx⟩ := h
  by_cases hlt : n < l.length
  · have b1 : decide ((n : Int) < (l.length : Int)) = true := by simp; omega
    have i0 : (0 : Int) ≤ (n : Int) := by omega
    have i1 : (n : Int) ≤ (c : Int) := by omega
    have hlen : (l.take n).length = n := by simp; omega
    have hpost : SlTk w (.slice ao n c) (l.take n) := by
      refine ⟨ao, c, by rw [hlen], by omega, by omega, hcm, fun j x hj => ?_⟩
      rw [List.getElem?_take] at hj
      split at hj
      · exact hx j x hj
      · cases hj
    have Hp := hid hpost
    clear hpost hx hlen
    go_enter Tryz.func10, Tryz.ntmps10
    go_wp2
    all_goals
      go_ret
      exact ⟨⟨_, rfl, by first | exact Hp.out | simpa using Hp.out⟩, rfl⟩
  · have b1 : decide ((n : Int) < (l.length : Int)) = false := by simp; omega
    have hpost : SlTk w (.slice ao l.length c) (l.take n) := by rw [List.take_of_length_le (by omega)]; exact ⟨ao, c, rfl, hl, hlc, hcm, hx⟩
    have Hp := hid hpost
    clear hpost hx
    go_enter Tryz.func10, Tryz.ntmps10
    go_wp2
    go_ret
    exact ⟨⟨_, rfl, Hp.out⟩, rfl⟩

theorem addr_of_cell {w : World} {a : Addr} {v : Value} (h : w.cell? (a.add 0) = some v) : a = ⟨a.block, a.off, none⟩ := by
  have hs := World.cell?_spot h
  obtain ⟨b, o, s⟩ := a
  have : (⟨b, o, s⟩ : Addr).add 0 = ⟨b, o, s⟩ := rfl
  rw [this] at hs
  simp only at hs; subst hs; rfl
theorem int_bd {k : Int} (h : (Lit.int .i64 k).wf = true) : -9223372036854775808 ≤ k ∧ k ≤ 9223372036854775807 := by
  simp only [Lit.wf, Bool.and_eq_true, decide_eq_true_eq] at h
  exact h
theorem big_of {k : Int} (h : (Lit.int .i64 k).wf = true) : big k := int_bd h

theorem SlNd.ofTrod {H : Type} {enc : TypeId × Value → H} {W : World} {base fuel : Nat} {sp : Nat → Bool} {held : Bool} {cs : List Value} {x : DataW H × List MemPlace}
    (h : DataW.trod enc Tryz.prog W base sp held fuel TNds cs = some x) : ∃ v l, cs = [v] ∧ SlNd W v l := by
  rcases Deep.open_slice_pairs Tryz.underlying36 Tryz.underlying41 (by kernel_rfl) rfl rfl (by kernel_rfl) (by kernel_rfl) h with ⟨hcs, _⟩ | ⟨a, len, cap, m, n, V0, V1, D0, D1, P0, P1, hcs, _, hl, hm, hmm, hx, hcell⟩
  · exact ⟨_, [], hcs, SlNd.nil W⟩
  · have hlm : len ≤ m := by rw [hmm]; split <;> omega
    have key : ∀ i, i < len → ∃ q : Need, V0 i = .int .i64 q.res ∧ V1 i = .int .i64 q.units ∧ big q.res ∧ big q.units := by
      intro i hi
      obtain ⟨_, _, t0, t1⟩ := hcell i (by omega)
      obtain ⟨k0, e0, _, w0⟩ := DataW.trod_int Tryz.underlying3 t0
      obtain ⟨k1, e1, _, w1⟩ := DataW.trod_int Tryz.underlying3 t1
      exact ⟨⟨k0, k1⟩, by simpa using e0, by simpa using e1, big_of w0, big_of w1⟩
    obtain ⟨f, hf⟩ := Deep.choose_lt key
    refine ⟨_, (List.range len).map f, hcs, some a, cap, by simp, by simp; unfold maxLen at hm; omega, by simpa using hl, hm, fun j y hj => ?_, (fun e => by cases e), fun y hy => ?_⟩
    · rw [List.getElem?_map] at hj
      cases hr : (List.range len)[j]? with
      | none => rw [hr] at hj; cases hj
      | some i =>
        rw [hr] at hj
        obtain ⟨hjl, hji⟩ := List.getElem?_eq_some_iff.1 hr
        simp only [List.getElem_range] at hji
        simp only [List.length_range] at hjl
        subst hji
        simp only [Option.map_some, Option.some.injEq] at hj
        subst hj
        obtain ⟨c0, c1, _, _⟩ := hcell j (by omega)
        obtain ⟨e0, e1, _, _⟩ := hf j hjl
        have e := addr_of_cell (by have := (hcell 0 (by omega)).1; rwa [Nat.zero_mul] at this)
        refine ⟨a.block, a.off, by rw [← e], ?_, ?_⟩
        · rw [e, add_at, e0] at c0; exact c0
        · rw [e, add_at, e1] at c1; rw [Nat.add_assoc]; exact c1
    · simp only [List.mem_map, List.mem_range] at hy
      obtain ⟨i, hi, rfl⟩ := hy
      obtain ⟨_, _, w0, w1⟩ := hf i hi
      exact ⟨w0, w1⟩

set_option maxRecDepth 100000 in
theorem SlTk.ofTrodN {H : Type} {enc : TypeId × Value → H} {W : World} {a : Option Addr} {len cap : Nat} {d : DataW H} {ps : List MemPlace}
    (h : DataW.Trod enc Tryz.prog W 0 (fun _ => true) true TTks (.slice a len cap) d ps) : ∃ l, SlTk W (.slice a len cap) l ∧ ∀ x ∈ l, x.name.size ≤ 9223372036854775807 := by
  obtain ⟨fuel, hf⟩ := h
  rcases Deep.open_slice Tryz.underlying23 hf with ⟨hcs, _⟩ | ⟨x, l, c, m, n, D, Pl, hcs, _, hl, hm, hmm, hx, hcell⟩
  · simp [Value.cells] at hcs
    obtain ⟨rfl, rfl, rfl⟩ := hcs
    exact ⟨[], ⟨none, 0, rfl, by simp, by simp, by simp [maxLen], fun j x hj => by simp at hj⟩, by simp⟩
  · simp [Value.cells] at hcs
    obtain ⟨rfl, rfl, rfl⟩ := hcs
    have hlm : len ≤ m := by rw [hmm]; split <;> omega
    have c8 : Tryz.prog.cellsOf TTk = 8 := by kernel_rfl
    have key : ∀ i, i < len → ∃ q : Task × Value, (∀ j u, [.string q.1.name, .int .i64 q.1.level, .int .i64 q.1.frame, q.2, .string q.1.code, .int .i64 q.1.period, .int .i64 q.1.first, .int .i64 q.1.gap][j]? = some u → W.cell? (x.add (i * 8 + j)) = some u) ∧ SlNd W q.2 q.1.needs ∧ (big q.1.level ∧ big q.1.frame ∧ big q.1.period ∧ big q.1.first ∧ big q.1.gap) ∧ q.1.name.size ≤ maxLen := by
      intro i hi
      obtain ⟨cs', h1, h2⟩ := hcell i (by omega)
      rw [c8] at h1
      obtain ⟨_, hlen, hcl⟩ := World.cells?_some h1
      obtain ⟨xs, k, hk, hxy, _, hxl, hfl⟩ := DataW.trod_struct Tryz.underlying38 h2
      match xs, hxl, cs', hlen with
      | [y0, y1, y2, y3, y4, y5, y6, y7], _, [v0, v1, v2, v3, v4, v5, v6, v7], _ =>
        have g0 := hfl 0 _ rfl
        have g1 := hfl 1 _ rfl
        have g2 := hfl 2 _ rfl
        have g3 := hfl 3 _ rfl
        have g4 := hfl 4 _ rfl
        have g5 := hfl 5 _ rfl
        have g6 := hfl 6 _ rfl
        have g7 := hfl 7 _ rfl
        have cS : Tryz.prog.cellsOf 9 = 1 := by kernel_rfl
        have cI : Tryz.prog.cellsOf 3 = 1 := by kernel_rfl
        have cN : Tryz.prog.cellsOf 36 = 1 := by kernel_rfl
        simp [cS] at g0 g4
        simp [cI] at g1 g2 g5 g6 g7
        simp [cN] at g3
        obtain ⟨s0, e0, _, hsz0⟩ := DataW.trod_string Tryz.underlying9 g0
        obtain ⟨s4, e4, _, _⟩ := DataW.trod_string Tryz.underlying9 g4
        obtain ⟨k1, e1, _, w1⟩ := DataW.trod_int Tryz.underlying3 g1
        obtain ⟨k2, e2, _, w2⟩ := DataW.trod_int Tryz.underlying3 g2
        obtain ⟨k5, e5, _, w5⟩ := DataW.trod_int Tryz.underlying3 g5
        obtain ⟨k6, e6, _, w6⟩ := DataW.trod_int Tryz.underlying3 g6
        obtain ⟨k7, e7, _, w7⟩ := DataW.trod_int Tryz.underlying3 g7
        obtain ⟨v3', nl, e3, s3⟩ := SlNd.ofTrod g3
        simp only [List.cons.injEq, and_true] at e0 e1 e2 e3 e4 e5 e6 e7
        subst e0 e1 e2 e3 e4 e5 e6 e7
        refine ⟨(⟨s0, k1, k2, nl, s4, k5, k6, k7⟩, v3), fun j u hu => ?_, s3, ⟨big_of w1, big_of w2, big_of w5, big_of w6, big_of w7⟩, hsz0⟩
        have hj : j < 8 := (List.getElem?_eq_some_iff.1 hu).1
        have hc := hcl j hj
        rw [Deep.add_add] at hc
        rw [hc]; exact hu
    obtain ⟨f, hf⟩ := Deep.choose_lt key
    refine ⟨(List.range len).map fun i => (f i).1, ⟨some x, cap, by simp, by simp; unfold maxLen at hm; omega, by simpa using hl, hm, fun j y hj => ?_⟩, fun y hy => ?_⟩
    case refine_2 =>
      obtain ⟨i, hi, rfl⟩ := List.mem_map.1 hy
      have := (hf i (List.mem_range.1 hi)).2.2.2
      unfold maxLen at this; omega
    rw [List.getElem?_map] at hj
    cases hr : (List.range len)[j]? with
    | none => rw [hr] at hj; cases hj
    | some i =>
      rw [hr] at hj
      obtain ⟨hjl, hji⟩ := List.getElem?_eq_some_iff.1 hr
      simp only [List.getElem_range] at hji
      simp only [List.length_range] at hjl
      subst hji
      simp only [Option.map_some, Option.some.injEq] at hj
      subst hj
      obtain ⟨hc, hs, hb, -⟩ := hf j hjl
      obtain ⟨h0, _⟩ := hf 0 (by omega)
      have e := addr_of_cell (by have := h0 0 _ rfl; rwa [Nat.zero_mul, Nat.zero_add] at this)
      refine ⟨x.block, x.off, (f j).2, by rw [← e], ?_, hs, hb⟩
      have key : ∀ (i : Nat) u, [.string (f j).1.name, .int .i64 (f j).1.level, .int .i64 (f j).1.frame, (f j).2, .string (f j).1.code, .int .i64 (f j).1.period, .int .i64 (f j).1.first, .int .i64 (f j).1.gap][i]? = some u → W.cell? ⟨x.block, x.off + j * 8 + i, none⟩ = some u := fun i u hu => by
        have := hc i u hu
        rw [e, add_at] at this
        rw [Nat.add_assoc]; exact this
      exact ⟨key 0 _ rfl, key 1 _ rfl, key 2 _ rfl, key 3 _ rfl, key 4 _ rfl, key 5 _ rfl, key 6 _ rfl, key 7 _ rfl⟩
theorem SlTk.ofTrod {H : Type} {enc : TypeId × Value → H} {W : World} {a : Option Addr} {len cap : Nat} {d : DataW H} {ps : List MemPlace}
    (h : DataW.Trod enc Tryz.prog W 0 (fun _ => true) true TTks (.slice a len cap) d ps) : ∃ l, SlTk W (.slice a len cap) l := by
  obtain ⟨l, h, _⟩ := SlTk.ofTrodN h
  exact ⟨l, h⟩
end Go.Proofs.YtnkjjhenfhnajaaGreatDoor

/-
  TasksRuns, walked.
-/
namespace Go.Proofs.YtnkjjhenfhnajaaGreatDoor
open Go.RowKit Go.Kw Go.Kreg Go.Tm

namespace Runs
def n1 (c : UInt8) : ByteArray := ⟨#[c]⟩
def e0 : ByteArray := ⟨#[]⟩
def A : Task := ⟨n1 97, 1, 4, [], e0, 0, 0, 0⟩
def B : Task := ⟨n1 98, 1, 6, [⟨0, 2⟩, ⟨1, 1⟩], e0, 0, 0, 0⟩
def C : Task := ⟨n1 99, 2, 5, [], e0, 0, 0, 0⟩
def D : Task := ⟨n1 99, 2, 4, [], e0, 0, 0, 0⟩
def lockB : ByteArray := ⟨#[108, 111, 99, 107]⟩
def loopB : ByteArray := ⟨#[114, 101, 112, 101, 97, 116, 32, 52, 48, 57, 54, 32, 123, 32, 114, 101, 112, 101, 97, 116, 32, 50, 32, 123, 32, 112, 111, 112, 32, 125, 32, 125]⟩
def wrong : List Task := [⟨n1 97, 1, 0, [], e0, 0, 0, 0⟩, ⟨n1 65, 1, 0, [], e0, 0, 0, 0⟩, ⟨n1 100, 0, 0, [], e0, 0, 0, 0⟩, ⟨n1 100, 33, 0, [], e0, 0, 0, 0⟩, ⟨n1 100, 1, 0, [⟨0, 3⟩], e0, 0, 0, 0⟩, ⟨n1 100, 1, 0, [⟨1, 1⟩, ⟨0, 1⟩], e0, 0, 0, 0⟩, ⟨n1 100, 1, 0, [⟨2, 1⟩], e0, 0, 0, 0⟩,
  ⟨n1 100, 1, 0, [], lockB, 0, 0, 0⟩, ⟨n1 100, 1, 0, [], loopB, 0, 0, 0⟩, ⟨n1 100, 1, 0, [], e0, 5, 0, 0⟩, ⟨n1 100, 1, 0, [], e0, 5, 1, 5⟩, ⟨n1 100, 1, 0, [], e0, 0, 1, 0⟩]
def want : List Int := [3, 2, 1, 1, 1, 21, 1, 31, 5, 1, 1, 1]
def M (ts : List Task) : TM := ⟨10, [2, 1], ts⟩
set_option maxRecDepth 100000
theorem okA : (M []).check A = 0 := by decide +kernel
theorem okB : (M [A]).check B = 0 := by decide +kernel
theorem okC : (M [A, B]).check C = 25 := by decide +kernel
theorem okD : (M [A, B]).check D = 0 := by decide +kernel
theorem bad0 : wrong.map (fun x => (M [A, B, D]).check x) = want := by decide +kernel
theorem bd : bound [A, B, D] = 10 := by decide +kernel
theorem nd1 : Tm.need [A, B, D] 1 0 = 2 := by decide +kernel
theorem nd2 : Tm.need [A, B, D] 0 0 = 0 := by decide +kernel
theorem nd3 : Tm.need [A, B, D] 9 0 = 0 := by decide +kernel
theorem w1 : withOne [A, B, D] 2 6 = 12 := by decide +kernel
theorem w2 : withOne [A, B, D] 1 6 = 10 := by decide +kernel
theorem b1 : begins 10 [2, 1] = 0 := by decide +kernel
theorem b2 : begins (-1) [] = 1 := by decide +kernel
theorem b3 : begins 5 [0] = 1 := by decide +kernel
theorem b4 : begins 5 [256] = 1 := by decide +kernel
theorem b5 : begins 5 [1, 1, 1, 1, 1, 1, 1, 1, 1, 1, 1, 1, 1, 1, 1, 1, 1] = 4 := by decide +kernel
end Runs
theorem add_yes {m : TM} {x : Task} (h : m.check x = 0) : m.add x = ((m.ts.length : Int), 0, ⟨m.words, m.units, m.ts ++ [x]⟩) := by
  unfold TM.add; rw [if_neg (by simp [h])]
theorem add_no {m : TM} {x : Task} {e : Int} (h : m.check x = e) (he : e ≠ 0) : m.add x = (-1, e, m) := by
  unfold TM.add; rw [h, if_pos he]
theorem add_st {W w w0 : World} {F0 : Nat → Prop} {cs : List Ch} {p : Nat} {m m' : TM} {n e : Int} (hG : Glob W) (hS : St F0 w0 (glC W :: tabC p m :: cs) w) (x : Task) {nd : Value} (hv : SlNd w nd x.needs) (hb : big x.frame) (ha : m.add x = (n, e, m')) :
    Calls Tryz.prog 19 #[.pointer (some ⟨p, 0, none⟩), taskV x nd] w fun r w' => r = .returned (.tuple #[.int .i64 n, .int .i64 e]) ∧ St F0 w0 (glC W :: tabC p m' :: cs) w' := by
  obtain ⟨F1, g1, _, _, bk⟩ := hS.sel [0, 1]
  have g2 : Sts [glC W, tabC p m] F1 w := g1
  refine (add_any hG g2 x hv hb).mono fun r w' ⟨h1, h2⟩ => ⟨?_, ?_⟩
  · rw [h1, ha]
  · rw [ha] at h2; exact bk h2
namespace Runs
def nds (a b c : Nat) : List Value := [.slice none 0 0, .slice none 0 0, .slice none 0 0, .slice none 0 0, .slice (some ⟨a, 0, none⟩) 1 1, .slice (some ⟨b, 0, none⟩) 2 2, .slice (some ⟨c, 0, none⟩) 1 1, .slice none 0 0, .slice none 0 0, .slice none 0 0, .slice none 0 0, .slice none 0 0]
theorem addA : (M []).add A = (0, 0, M [A]) := add_yes okA
theorem addB : (M [A]).add B = (1, 0, M [A, B]) := add_yes okB
theorem addC : (M [A, B]).add C = (-1, 25, M [A, B]) := add_no okC (by decide)
theorem addD : (M [A, B]).add D = (2, 0, M [A, B, D]) := add_yes okD
end Runs
theorem Runs.wrong_at {F0 : Nat → Prop} {W w0 w : World} {p : Nat} (q : Nat) {k : Nat} (hk : k < 12) (hS : St F0 w0 [glC W, tabC p (Runs.M [Runs.A, Runs.B, Runs.D]), .pt q TNd (needsC [⟨0, 3⟩]), .pt (q + 1) TNd (needsC [⟨1, 1⟩, ⟨0, 1⟩]), .pt (q + 1 + 1) TNd (needsC [⟨2, 1⟩]), .pt (q + 1 + 1 + 1) TTk (tasksV Runs.wrong (Runs.nds q (q + 1) (q + 1 + 1))), .pt (q + 1 + 1 + 1 + 1) TI' (intsC Runs.want)] w) :
    ∃ x e nd, Runs.wrong[k]? = some x ∧ (Runs.M [Runs.A, Runs.B, Runs.D]).check x = e ∧ (Runs.nds q (q + 1) (q + 1 + 1))[k]? = some nd ∧ Runs.want[k]? = some e ∧ e ≠ 0 ∧ big x.frame ∧ SlNd w nd x.needs := by
  have h1 : Runs.wrong[k]? = some Runs.wrong[k] := List.getElem?_eq_getElem hk
  have h2 : Runs.want[k]? = some ((Runs.M [Runs.A, Runs.B, Runs.D]).check Runs.wrong[k]) := by rw [← Runs.bad0, List.getElem?_map, h1]; rfl
  have hn : ∀ e ∈ Runs.want, e ≠ 0 := by decide
  have hf : ∀ x ∈ Runs.wrong, big x.frame := by decide
  have s4 : SlNd w (.slice (some ⟨q, 0, none⟩) 1 1) [⟨0, 3⟩] := SlNd.blk (l := [⟨0, 3⟩]) (hS.blk 2) (by simp) (by decide)
  have s5 : SlNd w (.slice (some ⟨q + 1, 0, none⟩) 2 2) [⟨1, 1⟩, ⟨0, 1⟩] := SlNd.blk (l := [⟨1, 1⟩, ⟨0, 1⟩]) (hS.blk 3) (by simp) (by decide)
  have s6 : SlNd w (.slice (some ⟨q + 1 + 1, 0, none⟩) 1 1) [⟨2, 1⟩] := SlNd.blk (l := [⟨2, 1⟩]) (hS.blk 4) (by simp) (by decide)
  have hnd : ∃ nd, (Runs.nds q (q + 1) (q + 1 + 1))[k]? = some nd ∧ SlNd w nd (Runs.wrong[k]).needs := by
    obtain rfl | rfl | rfl | rfl | rfl | rfl | rfl | rfl | rfl | rfl | rfl | rfl : k = 0 ∨ k = 1 ∨ k = 2 ∨ k = 3 ∨ k = 4 ∨ k = 5 ∨ k = 6 ∨ k = 7 ∨ k = 8 ∨ k = 9 ∨ k = 10 ∨ k = 11 := by omega
    all_goals first | exact ⟨_, rfl, SlNd.nil w⟩ | exact ⟨_, rfl, s4⟩ | exact ⟨_, rfl, s5⟩ | exact ⟨_, rfl, s6⟩
  obtain ⟨nd, h3, h4⟩ := hnd
  exact ⟨_, _, nd, h1, rfl, h3, h2, hn _ (List.mem_of_getElem? h2), hf _ (List.mem_of_getElem? h1), h4⟩
section
variable {W w : World} {F : Nat → Prop}
open Runs
set_option maxRecDepth 100000 in
set_option maxHeartbeats 8000000 in
theorem runs_any (hG : Glob W) (hg : (glC W).holds F w) : Calls Tryz.prog 15 #[] w fun e w' => e = .returned (.bool true) ∧ Keeps (fun _ => False) w w' := by
  have HSg := hid (St.of (Sts.one hg))
  have Hg := hid hg
  have hn1 := new_any (SlIn.blk (b := w.heap.size) (l := [2, 1]) (Blk.new w TI' [.int .i64 2, .int .i64 1]) (by simp)) 10
  rw [b1] at hn1
  have HN1 := hid hn1
  clear hg hn1
  go_enter Tryz.func15, Tryz.ntmps15
  go_wp2_with fail
  refine HN1.out.mono ?_; rintro e w1 (⟨hbad, -, -⟩ | ⟨-, p, rfl, hS⟩)
  · exact absurd rfl hbad
  have HS1 := hid (show St F w [glC W, tabC p (M [])] w1 from (HSg.out.step ((Keeps.refl (fun _ => False) w).alloc (.cells #[.int .i64 2, .int .i64 1] TI'))).adds hS)
  clear hS HN1 HSg
  go_wp2_with fail
  refine (add_st hG HS1.out A (SlNd.nil _) (by unfold big A; decide) addA).mono ?_; rintro e w2 ⟨rfl, hS⟩
  have HS2 := hid ((hS.new TNd (needsC B.needs)))
  clear hS HS1
  go_wp2_with fail
  refine (add_st hG HS2.out B (SlNd.blk (HS2.out.blk 2) (by decide) (by decide)) (by unfold big B; decide) addB).mono ?_; rintro e w3 ⟨rfl, hS⟩
  have HS3 := hid hS
  clear hS HS2
  go_wp2_with fail
  refine (add_st hG HS3.out C (SlNd.nil _) (by unfold big C; decide) addC).mono ?_; rintro e w4 ⟨rfl, hS⟩
  have HS4 := hid hS
  clear hS HS3
  go_wp2_with fail
  refine (add_st hG HS4.out D (SlNd.nil _) (by unfold big D; decide) addD).mono ?_; rintro e w5 ⟨rfl, hS⟩
  have HS5 := hid (show St F w [glC W, tabC p (M [A, B, D])] w5 from hS.sub [0, 1])
  clear hS HS4
  obtain ⟨y, hy⟩ := tab_at 1 HS5.out
  have Hy := hid hy
  have K0 := hid (Keeps.refl (fun _ => False) w5)
  clear hy
  go_wp2_with fail
  have hc := bound_any (Hy.out.keeps K0.out)
  rw [show bound (M [A, B, D]).ts = 10 from bd] at hc
  refine hc.mono ?_; rintro e w6 ⟨rfl, k⟩
  have K6 := hid (K0.out.trans k)
  clear hc k K0
  go_wp2_with fail
  have hc := need_any (Hy.out.keeps K6.out) 1 0
  rw [show Tm.need (M [A, B, D]).ts 1 0 = 2 from nd1] at hc
  refine hc.mono ?_; rintro e w7 ⟨rfl, k⟩
  have K7 := hid (K6.out.trans k)
  clear hc k K6
  go_wp2_with fail
  have hc := need_any (Hy.out.keeps K7.out) 0 0
  rw [show Tm.need (M [A, B, D]).ts 0 0 = 0 from nd2] at hc
  refine hc.mono ?_; rintro e w8 ⟨rfl, k⟩
  have K8 := hid (K7.out.trans k)
  clear hc k K7
  go_wp2_with fail
  have hc := need_any (Hy.out.keeps K8.out) 9 0
  rw [show Tm.need (M [A, B, D]).ts 9 0 = 0 from nd3] at hc
  refine hc.mono ?_; rintro e w9 ⟨rfl, k⟩
  have K9 := hid (K8.out.trans k)
  clear hc k K8
  go_wp2_with fail
  have hc := with_any (Hy.out.keeps K9.out) 2 6 (by decide)
  rw [show withOne (M [A, B, D]).ts 2 6 = 12 from Runs.w1] at hc
  refine hc.mono ?_; rintro e w10 ⟨rfl, k⟩
  have K10 := hid (K9.out.trans k)
  clear hc k K9
  go_wp2_with fail
  have hc := with_any (Hy.out.keeps K10.out) 1 6 (by decide)
  rw [show withOne (M [A, B, D]).ts 1 6 = 10 from Runs.w2] at hc
  refine hc.mono ?_; rintro e w11 ⟨rfl, k⟩
  have K11 := hid (K10.out.trans k)
  clear hc k K10
  go_wp2_with fail
  have hS := ((((HS5.out.step K11.out).new TNd (needsC [⟨0, 3⟩])).new TNd (needsC [⟨1, 1⟩, ⟨0, 1⟩])).new TNd (needsC [⟨2, 1⟩])).new TTk (tasksV wrong (nds w11.heap.size (w11.heap.size + 1) (w11.heap.size + 2)))
  have hS := hS.new TI' (intsC want)
  simp only [World.size_alloc] at hS
  simp only [Kw.red] at hS
  have HS := hid hS
  clear hS
  go_wp2_with fail
  generalize w11.heap.size = q at *
  go_loopw [12] (fun x wr => ∃ k : Nat, k ≤ 12 ∧ x = .int .i64 k ∧ St F w [glC W, tabC p (M [A, B, D]), .pt q TNd (needsC [⟨0, 3⟩]), .pt (q + 1) TNd (needsC [⟨1, 1⟩, ⟨0, 1⟩]), .pt (q + 1 + 1) TNd (needsC [⟨2, 1⟩]), .pt (q + 1 + 1 + 1) TTk (tasksV wrong (nds q (q + 1) (q + 1 + 1))), .pt (q + 1 + 1 + 1 + 1) TI' (intsC want)] wr) (fun x _ => 12 - (intOf x).toNat)
  case atStart => exact ⟨0, by omega, rfl, HS.out⟩
  case round =>
    obtain ⟨k, hk, rfl, hS⟩ := hrel
    by_cases hlt : k < 12
    · obtain ⟨x, e, nd, hx, hbad, hnd, hwant, he0, hbf, hsn⟩ := wrong_at q hlt hS
      have ha := tasksV_at hx hnd
      have hB := hS.blk 5
      have d0 : wr.cell? ⟨q + 1 + 1 + 1, k * 8, none⟩ = some (.string x.name) := hB.at (ha 0 (by omega))
      have d1 : wr.cell? ⟨q + 1 + 1 + 1, k * 8 + 1, none⟩ = some (.int .i64 x.level) := hB.at (ha 1 (by omega))
      have d2 : wr.cell? ⟨q + 1 + 1 + 1, k * 8 + 2, none⟩ = some (.int .i64 x.frame) := hB.at (ha 2 (by omega))
      have d3 : wr.cell? ⟨q + 1 + 1 + 1, k * 8 + 3, none⟩ = some (nd) := hB.at (ha 3 (by omega))
      have d4 : wr.cell? ⟨q + 1 + 1 + 1, k * 8 + 4, none⟩ = some (.string x.code) := hB.at (ha 4 (by omega))
      have d5 : wr.cell? ⟨q + 1 + 1 + 1, k * 8 + 5, none⟩ = some (.int .i64 x.period) := hB.at (ha 5 (by omega))
      have d6 : wr.cell? ⟨q + 1 + 1 + 1, k * 8 + 6, none⟩ = some (.int .i64 x.first) := hB.at (ha 6 (by omega))
      have d7 : wr.cell? ⟨q + 1 + 1 + 1, k * 8 + 7, none⟩ = some (.int .i64 x.gap) := hB.at (ha 7 (by omega))
      have d8 := (hS.blk 6).at (intsC_at hwant)
      have i0 : (0 : Int) ≤ (k : Int) := by omega
      have i1 : (k : Int) < 12 := by omega
      have b1 : decide ((k : Int) < 12) = true := by simp; omega
      obtain ⟨na, nc, rfl, -⟩ := id hsn
      have hadd := add_st hG hS x hsn hbf (add_no hbad he0)
      have HA := hid hadd
      have Hw := hid hwant
      unfold taskV at HA
      generalize x.needs.length = nl at *
      clear hadd hsn hnd hx ha hB hwant hbad hS HS
      go_wp2_with fail
      refine HA.out.mono ?_; rintro r w12 ⟨rfl, hS2⟩
      have d8 := (hS2.blk 6).at (intsC_at Hw.out)
      obtain ⟨y2, hy2⟩ := tab_at 1 hS2
      have hlen := tlen_any hy2
      rw [show ((M [A, B, D]).ts.length : Int) = 3 from rfl] at hlen
      have HS2 := hid hS2
      clear hS2 hy2 HA Hw
      go_wp2_with fail
      refine hlen.mono ?_; rintro r w13 ⟨rfl, rfl⟩
      clear hlen
      go_wp2_with fail
      go_roundw
      case rel => exact ⟨k + 1, by omega, by go_num, HS2.out⟩
      case measure => simp [intOf]; omega
    · have b1 : decide ((k : Int) < 12) = false := by simp; omega
      have HS2 := hid (hS.sub [0, 1])
      clear hS
      go_wp2_with fail
      have hnw := new_any (w := wr) (v := .slice none 0 0) (us := []) ⟨none, 0, rfl, by simp, by simp, by simp [maxLen], fun j x hj => by simp at hj, fun _ => rfl⟩ (-1)
      rw [Runs.b2] at hnw
      refine hnw.mono ?_; rintro r w12 (⟨-, rfl, k12⟩ | ⟨h0, -⟩)
      case inr => exact absurd h0 (by decide)
      have HS3 := hid (HS2.out.step k12)
      clear hnw k12 HS2
      go_wp2_with fail
      have hnw := new_any (SlIn.blk (b := w12.heap.size) (l := [0]) (Blk.new w12 TI' [.int .i64 0]) (by simp)) 5
      rw [Runs.b3] at hnw
      refine hnw.mono ?_; rintro r w13 (⟨-, rfl, k12⟩ | ⟨h0, -⟩)
      case inr => exact absurd h0 (by decide)
      have HS4 := hid (HS3.out.step (((Keeps.refl _ _).alloc _).trans k12))
      clear hnw k12 HS3
      go_wp2_with fail
      have hnw := new_any (SlIn.blk (b := w13.heap.size) (l := [256]) (Blk.new w13 TI' [.int .i64 256]) (by simp)) 5
      rw [Runs.b4] at hnw
      refine hnw.mono ?_; rintro r w14 (⟨-, rfl, k12⟩ | ⟨h0, -⟩)
      case inr => exact absurd h0 (by decide)
      have HS5 := hid (HS4.out.step (((Keeps.refl _ _).alloc _).trans k12))
      clear hnw k12 HS4
      go_wp2_with fail
      have hnw := new_any (SlIn.blk (b := w14.heap.size) (l := [1, 1, 1, 1, 1, 1, 1, 1, 1, 1, 1, 1, 1, 1, 1, 1, 1]) (Blk.new w14 TI' (intsC [1, 1, 1, 1, 1, 1, 1, 1, 1, 1, 1, 1, 1, 1, 1, 1, 1])) (by simp)) 5
      rw [Runs.b5] at hnw
      refine hnw.mono ?_; rintro r w15 (⟨-, rfl, k12⟩ | ⟨h0, -⟩)
      case inr => exact absurd h0 (by decide)
      have HS6 := hid (HS5.out.step (((Keeps.refl _ _).alloc _).trans k12))
      clear hnw k12 HS5
      go_wp2_with fail
      go_ret
      exact ⟨rfl, (glob_keeps Hg.out HS6.out).1⟩
end
end Go.Proofs.YtnkjjhenfhnajaaGreatDoor

/-
  New's table, and one task of a list: words for the laws.
-/
namespace Go.Proofs.YtnkjjhenfhnajaaGreatDoor
open Go.RowKit Go.Kw Go.Kreg Go.Tm

theorem new_ok {w w1 : World} {F0 : Nat → Prop} {w0 : World} {words : Int} {us : List Int} (h : begins words us = 0) {cs : List Ch} (hS : St F0 w0 cs w) {e : Ending}
    (hn : (begins words us ≠ 0 ∧ e = .returned (.tuple #[.pointer none, .int .i64 (begins words us)]) ∧ Keeps (fun _ => False) w w1) ∨ (begins words us = 0 ∧ ∃ p, e = .returned (.tuple #[.pointer (some ⟨p, 0, none⟩), .int .i64 0]) ∧ St (fun _ => False) w [tabC p ⟨words, us, []⟩] w1)) :
    ∃ p, e = .returned (.tuple #[.pointer (some ⟨p, 0, none⟩), .int .i64 0]) ∧ St F0 w0 (cs ++ [tabC p ⟨words, us, []⟩]) w1 := by
  rcases hn with ⟨h0, _⟩ | ⟨_, p, he, hS1⟩
  · exact absurd h h0
  · exact ⟨p, he, hS.adds hS1⟩
theorem SlTk.one {w : World} {ao : Option Addr} {c : Nat} {l : List Task} (h : SlTk w (.slice ao l.length c) l) {k : Nat} {x : Task} (hx : l[k]? = some x) : ∃ b o na nc, ao = some ⟨b, o, none⟩ ∧ TkAt w b (o + k * 8) (.slice na x.needs.length nc) x ∧ SlNd w (.slice na x.needs.length nc) x.needs ∧ big x.level ∧ big x.frame ∧ big x.period ∧ big x.first ∧ big x.gap := by
  obtain ⟨ao', c', e, _, _, _, hh⟩ := h
  cases e
  obtain ⟨b, o, nd, e2, h1, h2, h3⟩ := hh k x hx
  obtain ⟨na, nc, rfl, _⟩ := id h2
  exact ⟨b, o, na, nc, e2, h1, h2, h3⟩
end Go.Proofs.YtnkjjhenfhnajaaGreatDoor

/-
  keelbook.Same of operations, needs, numbers; keellaw4.same.
-/
namespace Go.Proofs.YtnkjjhenfhnajaaGreatDoor
open Go.RowKit Go.Kw Go.Kreg Go.Tm

/-- A slice value that reads as these cells, n elements. -/
def Rd (w : World) (v : Value) (n sz : Nat) (cs : List Value) : Prop :=
  ∃ ao c, v = .slice ao n c ∧ n ≤ 9223372036854775807 ∧ cs.length = n * sz ∧ ∀ (j : Nat) u, cs[j]? = some u → ∃ b o, ao = some ⟨b, o, none⟩ ∧ w.cell? ⟨b, o + j, none⟩ = some u
theorem Rd.new {w w' : World} {v : Value} {n sz : Nat} {cs : List Value} (h : Rd w v n sz cs) (hk : Keeps (fun _ => False) w w') : Rd w' v n sz cs := by
  obtain ⟨ao, c, h1, h2, h3, h4⟩ := h
  refine ⟨ao, c, h1, h2, h3, fun j u hj => ?_⟩
  obtain ⟨b, o, e, hc⟩ := h4 j u hj
  exact ⟨b, o, e, cellIn hk hc⟩
theorem Rd.blk {w : World} {b n sz : Nat} {T : TypeId} {cs : List Value} (h : Blk w b T cs) (hn : n ≤ 9223372036854775807) (hl : cs.length = n * sz) : Rd w (.slice (some ⟨b, 0, none⟩) n n) n sz cs :=
  ⟨_, _, rfl, hn, hl, fun j u hj => ⟨b, 0, rfl, by rw [Nat.zero_add]; exact h.at hj⟩⟩
theorem Rd.own {w : World} {T : TypeId} {v : Value} {n sz : Nat} {cs : List Value} (h : Own w T sz v n cs) (hn : n ≤ 9223372036854775807) : Rd w v n sz cs := by
  obtain ⟨ao, c, rfl, _⟩ := h.shape
  refine ⟨ao, c, rfl, hn, h.1, fun j u hj => ?_⟩
  have hpos : 0 < n := by
    rcases Nat.eq_zero_or_pos n with h0 | h0
    · have := (List.getElem?_eq_some_iff.1 hj).1
      rw [h.1, h0, Nat.zero_mul] at this; omega
    · exact h0
  obtain ⟨g, cap, e, _⟩ := h.form hpos
  cases e
  exact ⟨g, 0, rfl, by rw [Nat.zero_add]; exact h.cells' (g := g) rfl hj⟩
theorem Rd.nd {w : World} {v : Value} {l : List Need} (h : SlNd w v l) : Rd w v l.length 2 (needsC l) := by
  obtain ⟨ao, c, rfl, hl, _, _, hc, _⟩ := h
  refine ⟨ao, c, rfl, hl, needsC_len l, fun j u hj => ?_⟩
  have hlt : j / 2 < l.length := by
    have := (List.getElem?_eq_some_iff.1 hj).1
    rw [needsC_len] at this; omega
  obtain ⟨b, o, rfl, g0, g1⟩ := hc _ _ (List.getElem?_eq_getElem hlt)
  exact ⟨b, o, rfl, by have := slnd_src hc _ rfl j u hj; rwa [add_at] at this⟩

theorem eqOp (w : World) (x y : Cm.Op) : (Op.equalIn 10000 TOp (.agg #[.int .i64 x.kind, .int .i64 x.res, .int .i64 x.n, .int .i64 x.v]) (.agg #[.int .i64 y.kind, .int .i64 y.res, .int .i64 y.n, .int .i64 y.v])).run Tryz.prog w = .ok (decide (x = y)) w := by
  have hS : Tryz.prog.underlying TOp = some (.struct (Tryz.prog.fieldsOf TOp)) := by kernel_rfl
  have hp : Tryz.prog.stoodInHeld TOp = false := by kernel_rfl
  rw [show (10000 : Nat) = 9999 + 1 from rfl, run_equalIn_struct w 9999 TOp _ _ hS hp]
  simp only [Program.fieldsOf, Tryz.underlying153]
  obtain ⟨a, b, c, d⟩ := x
  obtain ⟨a', b', c', d'⟩ := y
  go_simp
  by_cases h1 : a = a' <;> by_cases h2 : b = b' <;> by_cases h3 : c = c' <;> by_cases h4 : d = d' <;> simp [h1, h2, h3, h4]
theorem eqNd (w : World) (x y : Need) : (Op.equalIn 10000 TNd (.agg #[.int .i64 x.res, .int .i64 x.units]) (.agg #[.int .i64 y.res, .int .i64 y.units])).run Tryz.prog w = .ok (decide (x = y)) w := by
  have hS : Tryz.prog.underlying TNd = some (.struct (Tryz.prog.fieldsOf TNd)) := by kernel_rfl
  have hp : Tryz.prog.stoodInHeld TNd = false := by kernel_rfl
  rw [show (10000 : Nat) = 9999 + 1 from rfl, run_equalIn_struct w 9999 TNd _ _ hS hp]
  simp only [Program.fieldsOf, Tryz.underlying41]
  obtain ⟨a, b⟩ := x
  obtain ⟨a', b'⟩ := y
  go_simp
  by_cases h1 : a = a' <;> by_cases h2 : b = b' <;> simp [h1, h2]
section
variable {w : World} {va vb : Value} {xs ys : List Cm.Op}
set_option maxRecDepth 100000 in
set_option maxHeartbeats 2000000 in
theorem sameOp_any (ha : Rd w va xs.length 4 (opsC xs)) (hb : Rd w vb ys.length 4 (opsC ys)) : Calls Tryz.prog 87 #[va, vb] w fun e w' => e = .returned (.bool (decide (xs = ys))) ∧ ∃ n, w' = w.drewN n := by
  obtain ⟨aa, ac, rfl, ha1, -, ha2⟩ := ha
  obtain ⟨ba, bc, rfl, hb1, -, hb2⟩ := hb
  by_cases hl : xs.length ≠ ys.length
  · have b0 : ((xs.length : Int) != (ys.length : Int)) = true := by simp; omega
    have hR : decide (xs = ys) = false := by simp; intro e; exact hl (by rw [e])
    rw [hR]
    clear ha2 hb2 hl hR
    go_enter Tryz.func87, Tryz.ntmps87
    go_wp2_with fail
    go_ret
    exact ⟨rfl, 0, rfl⟩
  · have hl : xs.length = ys.length := by simpa using hl
    have b0 : ((xs.length : Int) != (ys.length : Int)) = false := by simp; omega
    obtain ⟨R, hR⟩ : ∃ R, decide (xs = ys) = R := ⟨_, rfl⟩
    rw [hR]
    have HR := hid hR
    have Ha := hid ha2
    have Hb := hid hb2
    have Hl := hid hl
    clear ha2 hb2 hl hR
    go_enter Tryz.func87, Tryz.ntmps87
    go_wp2_with fail
    go_loopw [5] (fun x wr => ∃ (k : Nat), k ≤ xs.length ∧ x = .int .i64 k ∧ Hid (xs.take k = ys.take k) ∧ ∃ n, wr = w.drewN n) (fun x _ => xs.length - (intOf x).toNat)
    case atStart => exact ⟨0, Nat.zero_le _, rfl, hid rfl, 0, rfl⟩
    case round =>
      obtain ⟨k, hk, rfl, Hq, n, rfl⟩ := hrel
      by_cases hlt : k < xs.length
      · have b1 : decide (k < xs.length) = true := by simpa using hlt
        have hlt2 : k < ys.length := by rw [← Hl.out]; exact hlt
        have hx := List.getElem?_eq_getElem hlt
        have hy := List.getElem?_eq_getElem hlt2
        obtain ⟨x0, x1, x2, x3⟩ := opsC_at hx
        obtain ⟨y0, y1, y2, y3⟩ := opsC_at hy
        obtain ⟨b, o, rfl, c0⟩ := Ha.out _ _ x0
        obtain ⟨_, _, e1, c1⟩ := Ha.out _ _ x1
        cases e1
        obtain ⟨_, _, e1, c2⟩ := Ha.out _ _ x2
        cases e1
        obtain ⟨_, _, e1, c3⟩ := Ha.out _ _ x3
        cases e1
        obtain ⟨b', o', rfl, d0⟩ := Hb.out _ _ y0
        obtain ⟨_, _, e1, d1⟩ := Hb.out _ _ y1
        cases e1
        obtain ⟨_, _, e1, d2⟩ := Hb.out _ _ y2
        cases e1
        obtain ⟨_, _, e1, d3⟩ := Hb.out _ _ y3
        cases e1
        simp only [← Nat.add_assoc] at c1 c2 c3 d1 d2 d3
        have Hx := hid hx
        have Hy := hid hy
        generalize xs[k] = x at *
        generalize ys[k] = y at *
        have i0 : (0 : Int) ≤ (k : Int) := by omega
        have i1 : (k : Int) < (xs.length : Int) := by omega
        have i2 : (k : Int) < (ys.length : Int) := by omega
        clear x0 x1 x2 x3 y0 y1 y2 y3 hx hy
        have heq := fun w => eqOp w x y
        by_cases hxy : x = y
        · rw [show decide (x = y) = true by simpa using hxy] at heq
          have Hxy := hid hxy
          clear hxy
          go_wp2_with fail
          go_quiet (fail)
          go_wp2_with fail
          go_roundw
          case rel => exact ⟨k + 1, by omega, by go_num, hid (by rw [List.take_add_one, List.take_add_one, Hx.out, Hy.out, Hq.out, Hxy.out]), _, by first | rfl | exact (World.drewN_drewN ..).symm⟩
          case measure => simp [intOf]; omega
        · rw [show decide (x = y) = false by simpa using hxy] at heq
          have e : R = false := by
            rw [← HR.out, decide_eq_false_iff_not]
            intro e
            have h1 := Hx.out
            rw [e, Hy.out] at h1
            exact hxy (Option.some.inj h1).symm
          subst e
          clear hxy
          go_wp2_with fail
          go_quiet (fail)
          go_wp2_with fail
          go_ret
          exact ⟨rfl, _, World.drewN_drewN ..⟩
      · have b1 : decide (k < xs.length) = false := by simpa using hlt
        have e : R = true := by
          rw [← HR.out, decide_eq_true_eq]
          have := Hq.out
          rw [List.take_of_length_le (by omega), List.take_of_length_le (by rw [← Hl.out]; omega)] at this
          exact this
        subst e
        go_wp2_with fail
        go_ret
        exact ⟨rfl, n, rfl⟩
end
section
variable {w : World} {va vb : Value} {xs ys : List Need}
set_option maxRecDepth 100000 in
set_option maxHeartbeats 2000000 in
theorem sameNd_any (ha : Rd w va xs.length 2 (needsC xs)) (hb : Rd w vb ys.length 2 (needsC ys)) : Calls Tryz.prog 84 #[va, vb] w fun e w' => e = .returned (.bool (decide (xs = ys))) ∧ ∃ n, w' = w.drewN n := by
  obtain ⟨aa, ac, rfl, ha1, -, ha2⟩ := ha
  obtain ⟨ba, bc, rfl, hb1, -, hb2⟩ := hb
  by_cases hl : xs.length ≠ ys.length
  · have b0 : ((xs.length : Int) != (ys.length : Int)) = true := by simp; omega
    have hR : decide (xs = ys) = false := by simp; intro e; exact hl (by rw [e])
    rw [hR]
    clear ha2 hb2 hl hR
    go_enter Tryz.func84, Tryz.ntmps84
    go_wp2_with fail
    go_ret
    exact ⟨rfl, 0, rfl⟩
  · have hl : xs.length = ys.length := by simpa using hl
    have b0 : ((xs.length : Int) != (ys.length : Int)) = false := by simp; omega
    obtain ⟨R, hR⟩ : ∃ R, decide (xs = ys) = R := ⟨_, rfl⟩
    rw [hR]
    have HR := hid hR
    have Ha := hid ha2
    have Hb := hid hb2
    have Hl := hid hl
    clear ha2 hb2 hl hR
    go_enter Tryz.func84, Tryz.ntmps84
    go_wp2_with fail
    go_loopw [5] (fun x wr => ∃ (k : Nat), k ≤ xs.length ∧ x = .int .i64 k ∧ Hid (xs.take k = ys.take k) ∧ ∃ n, wr = w.drewN n) (fun x _ => xs.length - (intOf x).toNat)
    case atStart => exact ⟨0, Nat.zero_le _, rfl, hid rfl, 0, rfl⟩
    case round =>
      obtain ⟨k, hk, rfl, Hq, n, rfl⟩ := hrel
      by_cases hlt : k < xs.length
      · have b1 : decide (k < xs.length) = true := by simpa using hlt
        have hlt2 : k < ys.length := by rw [← Hl.out]; exact hlt
        have hx := List.getElem?_eq_getElem hlt
        have hy := List.getElem?_eq_getElem hlt2
        obtain ⟨x0, x1⟩ := needsC_at hx
        obtain ⟨y0, y1⟩ := needsC_at hy
        obtain ⟨b, o, rfl, c0⟩ := Ha.out _ _ x0
        obtain ⟨_, _, e1, c1⟩ := Ha.out _ _ x1
        cases e1
        obtain ⟨b', o', rfl, d0⟩ := Hb.out _ _ y0
        obtain ⟨_, _, e1, d1⟩ := Hb.out _ _ y1
        cases e1
        simp only [← Nat.add_assoc] at c1 d1
        have Hx := hid hx
        have Hy := hid hy
        generalize xs[k] = x at *
        generalize ys[k] = y at *
        have i0 : (0 : Int) ≤ (k : Int) := by omega
        have i1 : (k : Int) < (xs.length : Int) := by omega
        have i2 : (k : Int) < (ys.length : Int) := by omega
        clear x0 x1 y0 y1 hx hy
        have heq := fun w => eqNd w x y
        by_cases hxy : x = y
        · rw [show decide (x = y) = true by simpa using hxy] at heq
          have Hxy := hid hxy
          clear hxy
          go_wp2_with fail
          go_quiet (fail)
          go_wp2_with fail
          go_roundw
          case rel => exact ⟨k + 1, by omega, by go_num, hid (by rw [List.take_add_one, List.take_add_one, Hx.out, Hy.out, Hq.out, Hxy.out]), _, by first | rfl | exact (World.drewN_drewN ..).symm⟩
          case measure => simp [intOf]; omega
        · rw [show decide (x = y) = false by simpa using hxy] at heq
          have e : R = false := by
            rw [← HR.out, decide_eq_false_iff_not]
            intro e
            have h1 := Hx.out
            rw [e, Hy.out] at h1
            exact hxy (Option.some.inj h1).symm
          subst e
          clear hxy
          go_wp2_with fail
          go_quiet (fail)
          go_wp2_with fail
          go_ret
          exact ⟨rfl, _, World.drewN_drewN ..⟩
      · have b1 : decide (k < xs.length) = false := by simpa using hlt
        have e : R = true := by
          rw [← HR.out, decide_eq_true_eq]
          have := Hq.out
          rw [List.take_of_length_le (by omega), List.take_of_length_le (by rw [← Hl.out]; omega)] at this
          exact this
        subst e
        go_wp2_with fail
        go_ret
        exact ⟨rfl, n, rfl⟩
end
section
variable {w : World} {va vb : Value} {xs ys : List Int}
set_option maxRecDepth 100000 in
set_option maxHeartbeats 2000000 in
theorem sameI_any (ha : Rd w va xs.length 1 (intsC xs)) (hb : Rd w vb ys.length 1 (intsC ys)) : Calls Tryz.prog 69 #[va, vb] w fun e w' => e = .returned (.bool (decide (xs = ys))) ∧ ∃ n, w' = w.drewN n := by
  obtain ⟨aa, ac, rfl, ha1, -, ha2⟩ := ha
  obtain ⟨ba, bc, rfl, hb1, -, hb2⟩ := hb
  by_cases hl : xs.length ≠ ys.length
  · have b0 : ((xs.length : Int) != (ys.length : Int)) = true := by simp; omega
    have hR : decide (xs = ys) = false := by simp; intro e; exact hl (by rw [e])
    rw [hR]
    clear ha2 hb2 hl hR
    go_enter Tryz.func69, Tryz.ntmps69
    go_wp2_with fail
    go_ret
    exact ⟨rfl, 0, rfl⟩
  · have hl : xs.length = ys.length := by simpa using hl
    have b0 : ((xs.length : Int) != (ys.length : Int)) = false := by simp; omega
    obtain ⟨R, hR⟩ : ∃ R, decide (xs = ys) = R := ⟨_, rfl⟩
    rw [hR]
    have HR := hid hR
    have Ha := hid ha2
    have Hb := hid hb2
    have Hl := hid hl
    clear ha2 hb2 hl hR
    go_enter Tryz.func69, Tryz.ntmps69
    go_wp2_with fail
    go_loopw [5] (fun x wr => ∃ (k : Nat), k ≤ xs.length ∧ x = .int .i64 k ∧ Hid (xs.take k = ys.take k) ∧ ∃ n, wr = w.drewN n) (fun x _ => xs.length - (intOf x).toNat)
    case atStart => exact ⟨0, Nat.zero_le _, rfl, hid rfl, 0, rfl⟩
    case round =>
      obtain ⟨k, hk, rfl, Hq, n, rfl⟩ := hrel
      by_cases hlt : k < xs.length
      · have b1 : decide (k < xs.length) = true := by simpa using hlt
        have hlt2 : k < ys.length := by rw [← Hl.out]; exact hlt
        have hx := List.getElem?_eq_getElem hlt
        have hy := List.getElem?_eq_getElem hlt2
        have x0 := intsC_at hx
        have y0 := intsC_at hy
        obtain ⟨b, o, rfl, c0⟩ := Ha.out _ _ x0
        obtain ⟨b', o', rfl, d0⟩ := Hb.out _ _ y0
        have Hx := hid hx
        have Hy := hid hy
        generalize xs[k] = x at *
        generalize ys[k] = y at *
        have i0 : (0 : Int) ≤ (k : Int) := by omega
        have i1 : (k : Int) < (xs.length : Int) := by omega
        have i2 : (k : Int) < (ys.length : Int) := by omega
        clear x0 y0 hx hy
        by_cases hxy : x = y
        · have heq : (x != y) = false := by simpa using hxy
          have Hxy := hid hxy
          clear hxy
          go_wp2_with fail
          go_quiet (fail)
          go_wp2_with fail
          go_roundw
          case rel => exact ⟨k + 1, by omega, by go_num, hid (by rw [List.take_add_one, List.take_add_one, Hx.out, Hy.out, Hq.out, Hxy.out]), _, by first | rfl | exact (World.drewN_drewN ..).symm⟩
          case measure => simp [intOf]; omega
        · have heq : (x != y) = true := by simpa using hxy
          have e : R = false := by
            rw [← HR.out, decide_eq_false_iff_not]
            intro e
            have h1 := Hx.out
            rw [e, Hy.out] at h1
            exact hxy (Option.some.inj h1).symm
          subst e
          clear hxy
          go_wp2_with fail
          go_quiet (fail)
          go_wp2_with fail
          go_ret
          exact ⟨rfl, _, World.drewN_drewN ..⟩
      · have b1 : decide (k < xs.length) = false := by simpa using hlt
        have e : R = true := by
          rw [← HR.out, decide_eq_true_eq]
          have := Hq.out
          rw [List.take_of_length_le (by omega), List.take_of_length_le (by rw [← Hl.out]; omega)] at this
          exact this
        subst e
        go_wp2_with fail
        go_ret
        exact ⟨rfl, n, rfl⟩
end
end Go.Proofs.YtnkjjhenfhnajaaGreatDoor

/-
  keelbook.Within, walked.
-/
namespace Go.Proofs.YtnkjjhenfhnajaaGreatDoor
open Go.RowKit Go.Kw Go.Kreg Go.Tm
theorem within_any (w : World) (n lo hi : Int) (h0 : -1000000 ≤ lo) (h1 : lo ≤ hi) (h2 : hi ≤ 1000000) (_hn : -9223372036854775808 ≤ n) (_hn' : n ≤ 9223372036854775807) :
    Calls Tryz.prog 26 #[.int .i64 n, .int .i64 lo, .int .i64 hi] w fun e w' => e = .returned (.int .i64 (within n lo hi)) ∧ w = w' := by
  have hb := within_bd n lo hi h1
  have hw : within n lo hi = lo + (if n.tmod (hi - lo + 1) < 0 then n.tmod (hi - lo + 1) + hi - lo + 1 else n.tmod (hi - lo + 1)) := rfl
  have Hw := hid hw
  have Hb := hid hb
  clear hw hb
  have m1 := Int.tmod_lt_of_pos n (b := hi - lo + 1) (by omega)
  have m2 := Int.lt_tmod_of_pos n (show 0 < hi - lo + 1 by omega)
  have hne : ((hi - lo + 1 : Int) == 0) = false := by simp; omega
  have hp : 0 < hi - lo + 1 := by omega
  go_enter Tryz.func26, Tryz.ntmps26
  go_wp2
  · go_ret
    rename_i hneg
    exact ⟨ret_int (by rw [Hw.out, if_pos hneg]), rfl⟩
  · go_ret
    rename_i hneg
    exact ⟨ret_int (by rw [Hw.out, if_neg (by omega)]), rfl⟩

end Go.Proofs.YtnkjjhenfhnajaaGreatDoor
