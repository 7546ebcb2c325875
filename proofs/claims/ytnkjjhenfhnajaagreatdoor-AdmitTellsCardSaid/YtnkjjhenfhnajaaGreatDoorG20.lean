/-
  Texts Th Ta Tja Sm Wi in one.
-/
import Derived.Test.YtnkjjhenfhnajaaGreatDoorG13
import Derived.SizedLaws
import Derived.OpenShut
import Derived.ChangeOld
import Derived.RowKit3
import Derived.Deep.SlicePairs
import Derived.Deep.Slices
import Derived.Laws.StructEq
/-
  few, walked; lists of tasks as they come in.
-/
namespace Go.Proofs.YtnkjjhenfhnajaaGreatDoor
open Go.RowKit Go.Kw Go.Kreg Go.Tm

def within (n lo hi : Int) : Int := lo + (if n.tmod (hi - lo + 1) < 0 then n.tmod (hi - lo + 1) + hi - lo + 1 else n.tmod (hi - lo + 1))
theorem within_bd (n lo hi : Int) (h : lo ≤ hi) : lo ≤ within n lo hi ∧ within n lo hi ≤ hi := by
  unfold within
  have h1 := Int.tmod_lt_of_pos n (b := hi - lo + 1) (by omega)
  have h2 : -(hi - lo + 1) < n.tmod (hi - lo + 1) := by
    have := Int.lt_tmod_of_pos n (show 0 < hi - lo + 1 by omega)
    exact this
  split <;> omega
theorem addr_of_cell {w : World} {a : Addr} {v : Value} (h : w.cell? (a.add 0) = some v) : a = ⟨a.block, a.off, none⟩ := by
  have hs := World.cell?_spot h
  obtain ⟨b, o, s⟩ := a
  have : (⟨b, o, s⟩ : Addr).add 0 = ⟨b, o, s⟩ := rfl
  rw [this] at hs
  simp only at hs; subst hs; rfl
theorem int_bd {k : Int} (h : (Lit.int .i64 k).wf = true) : -9223372036854775808 ≤ k ∧ k ≤ 9223372036854775807 := by
  simp only [Lit.wf, Bool.and_eq_true, decide_eq_true_eq] at h
  exact h
theorem big_of {k : Int} (h : (Lit.int .i64 k).wf = true) : big k := int_bd h

theorem SlNd.ofTrod {H : Type} {enc : TypeId × Value → H} {W : World} {base fuel : Nat} {sp : Nat → Bool} {held : Bool} {cs : List Value} {x : DataW H × List MemPlace}
    (h : DataW.trod enc Tryz.prog W base sp held fuel TNds cs = some x) : ∃ v l, cs = [v] ∧ SlNd W v l := by
  rcases Deep.open_slice_pairs Tryz.underlying36 Tryz.underlying41 (by kernel_rfl) rfl rfl (by kernel_rfl) (by kernel_rfl) h with ⟨hcs, _⟩ | ⟨a, len, cap, m, n, V0, V1, D0, D1, P0, P1, hcs, _, hl, hm, hmm, hx, hcell⟩
  · exact ⟨_, [], hcs, SlNd.nil W⟩
  · have hlm : len ≤ m := by rw [hmm]; split <;> omega
    have key : ∀ i, i < len → ∃ q : Need, V0 i = .int .i64 q.res ∧ V1 i = .int .i64 q.units ∧ big q.res ∧ big q.units := by
      intro i hi
      obtain ⟨_, _, t0, t1⟩ := hcell i (by omega)
      obtain ⟨k0, e0, _, w0⟩ := DataW.trod_int Tryz.underlying3 t0
      obtain ⟨k1, e1, _, w1⟩ := DataW.trod_int Tryz.underlying3 t1
      exact ⟨⟨k0, k1⟩, by simpa using e0, by simpa using e1, big_of w0, big_of w1⟩
    obtain ⟨f, hf⟩ := Deep.choose_lt key
    refine ⟨_, (List.range len).map f, hcs, some a, cap, by simp, by simp; unfold maxLen at hm; omega, by simpa using hl, hm, fun j y hj => ?_, (fun e => by cases e), fun y hy => ?_⟩
    · rw [List.getElem?_map] at hj
      cases hr : (List.range len)[j]? with
      | none => rw [hr] at hj; cases hj
      | some i =>
        rw [hr] at hj
        obtain ⟨hjl, hji⟩ := List.getElem?_eq_some_iff.1 hr
        simp only [List.getElem_range] at hji
        simp only [List.length_range] at hjl
        subst hji
        simp only [Option.map_some, Option.some.injEq] at hj
        subst hj
        obtain ⟨c0, c1, _, _⟩ := hcell j (by omega)
        obtain ⟨e0, e1, _, _⟩ := hf j hjl
        have e := addr_of_cell (by have := (hcell 0 (by omega)).1; rwa [Nat.zero_mul] at this)
        refine ⟨a.block, a.off, by rw [← e], ?_, ?_⟩
        · rw [e, add_at, e0] at c0; exact c0
        · rw [e, add_at, e1] at c1; rw [Nat.add_assoc]; exact c1
    · simp only [List.mem_map, List.mem_range] at hy
      obtain ⟨i, hi, rfl⟩ := hy
      obtain ⟨_, _, w0, w1⟩ := hf i hi
      exact ⟨w0, w1⟩

set_option maxRecDepth 100000 in
theorem SlTk.ofTrodN {H : Type} {enc : TypeId × Value → H} {W : World} {a : Option Addr} {len cap : Nat} {d : DataW H} {ps : List MemPlace}
    (h : DataW.Trod enc Tryz.prog W 0 (fun _ => true) true TTks (.slice a len cap) d ps) : ∃ l, SlTk W (.slice a len cap) l ∧ ∀ x ∈ l, x.name.size ≤ 9223372036854775807 := by
  obtain ⟨fuel, hf⟩ := h
  rcases Deep.open_slice Tryz.underlying23 hf with ⟨hcs, _⟩ | ⟨x, l, c, m, n, D, Pl, hcs, _, hl, hm, hmm, hx, hcell⟩
  · simp [Value.cells] at hcs
    obtain ⟨rfl, rfl, rfl⟩ := hcs
    exact ⟨[], ⟨none, 0, rfl, by simp, by simp, by simp [maxLen], fun j x hj => by simp at hj⟩, by simp⟩
  · simp [Value.cells] at hcs
    obtain ⟨rfl, rfl, rfl⟩ := hcs
    have hlm : len ≤ m := by rw [hmm]; split <;> omega
    have c8 : Tryz.prog.cellsOf TTk = 8 := by kernel_rfl
    have key : ∀ i, i < len → ∃ q : Task × Value, (∀ j u, [.string q.1.name, .int .i64 q.1.level, .int .i64 q.1.frame, q.2, .string q.1.code, .int .i64 q.1.period, .int .i64 q.1.first, .int .i64 q.1.gap][j]? = some u → W.cell? (x.add (i * 8 + j)) = some u) ∧ SlNd W q.2 q.1.needs ∧ (big q.1.level ∧ big q.1.frame ∧ big q.1.period ∧ big q.1.first ∧ big q.1.gap) ∧ q.1.name.size ≤ maxLen := by
      intro i hi
      obtain ⟨cs', h1, h2⟩ := hcell i (by omega)
      rw [c8] at h1
      obtain ⟨_, hlen, hcl⟩ := World.cells?_some h1
      obtain ⟨xs, k, hk, hxy, _, hxl, hfl⟩ := DataW.trod_struct Tryz.underlying38 h2
      match xs, hxl, cs', hlen with
      | [y0, y1, y2, y3, y4, y5, y6, y7], _, [v0, v1, v2, v3, v4, v5, v6, v7], _ =>
        have g0 := hfl 0 _ rfl
        have g1 := hfl 1 _ rfl
        have g2 := hfl 2 _ rfl
        have g3 := hfl 3 _ rfl
        have g4 := hfl 4 _ rfl
        have g5 := hfl 5 _ rfl
        have g6 := hfl 6 _ rfl
        have g7 := hfl 7 _ rfl
        have cS : Tryz.prog.cellsOf 9 = 1 := by kernel_rfl
        have cI : Tryz.prog.cellsOf 3 = 1 := by kernel_rfl
        have cN : Tryz.prog.cellsOf 36 = 1 := by kernel_rfl
        simp [cS] at g0 g4
        simp [cI] at g1 g2 g5 g6 g7
        simp [cN] at g3
        obtain ⟨s0, e0, _, hsz0⟩ := DataW.trod_string Tryz.underlying9 g0
        obtain ⟨s4, e4, _, _⟩ := DataW.trod_string Tryz.underlying9 g4
        obtain ⟨k1, e1, _, w1⟩ := DataW.trod_int Tryz.underlying3 g1
        obtain ⟨k2, e2, _, w2⟩ := DataW.trod_int Tryz.underlying3 g2
        obtain ⟨k5, e5, _, w5⟩ := DataW.trod_int Tryz.underlying3 g5
        obtain ⟨k6, e6, _, w6⟩ := DataW.trod_int Tryz.underlying3 g6
        obtain ⟨k7, e7, _, w7⟩ := DataW.trod_int Tryz.underlying3 g7
        obtain ⟨v3', nl, e3, s3⟩ := SlNd.ofTrod g3
        simp only [List.cons.injEq, and_true] at e0 e1 e2 e3 e4 e5 e6 e7
        subst e0 e1 e2 e3 e4 e5 e6 e7
        refine ⟨(⟨s0, k1, k2, nl, s4, k5, k6, k7⟩, v3), fun j u hu => ?_, s3, ⟨big_of w1, big_of w2, big_of w5, big_of w6, big_of w7⟩, hsz0⟩
        have hj : j < 8 := (List.getElem?_eq_some_iff.1 hu).1
        have hc := hcl j hj
        rw [Deep.add_add] at hc
        rw [hc]; exact hu
    obtain ⟨f, hf⟩ := Deep.choose_lt key
    refine ⟨(List.range len).map fun i => (f i).1, ⟨some x, cap, by simp, by simp; unfold maxLen at hm; omega, by simpa using hl, hm, fun j y hj => ?_⟩, fun y hy => ?_⟩
    case refine_2 =>
      obtain ⟨i, hi, rfl⟩ := List.mem_map.1 hy
      have := (hf i (List.mem_range.1 hi)).2.2.2
      unfold maxLen at this; omega
    rw [List.getElem?_map] at hj
    cases hr : (List.range len)[j]? with
    | none => rw [hr] at hj; cases hj
    | some i =>
      rw [hr] at hj
      obtain ⟨hjl, hji⟩ := List.getElem?_eq_some_iff.1 hr
      simp only [List.getElem_range] at hji
      simp only [List.length_range] at hjl
      subst hji
      simp only [Option.map_some, Option.some.injEq] at hj
      subst hj
      obtain ⟨hc, hs, hb, -⟩ := hf j hjl
      obtain ⟨h0, _⟩ := hf 0 (by omega)
      have e := addr_of_cell (by have := h0 0 _ rfl; rwa [Nat.zero_mul, Nat.zero_add] at this)
      refine ⟨x.block, x.off, (f j).2, by rw [← e], ?_, hs, hb⟩
      have key : ∀ (i : Nat) u, [.string (f j).1.name, .int .i64 (f j).1.level, .int .i64 (f j).1.frame, (f j).2, .string (f j).1.code, .int .i64 (f j).1.period, .int .i64 (f j).1.first, .int .i64 (f j).1.gap][i]? = some u → W.cell? ⟨x.block, x.off + j * 8 + i, none⟩ = some u := fun i u hu => by
        have := hc i u hu
        rw [e, add_at] at this
        rw [Nat.add_assoc]; exact this
      exact ⟨key 0 _ rfl, key 1 _ rfl, key 2 _ rfl, key 3 _ rfl, key 4 _ rfl, key 5 _ rfl, key 6 _ rfl, key 7 _ rfl⟩
theorem SlTk.ofTrod {H : Type} {enc : TypeId × Value → H} {W : World} {a : Option Addr} {len cap : Nat} {d : DataW H} {ps : List MemPlace}
    (h : DataW.Trod enc Tryz.prog W 0 (fun _ => true) true TTks (.slice a len cap) d ps) : ∃ l, SlTk W (.slice a len cap) l := by
  obtain ⟨l, h, _⟩ := SlTk.ofTrodN h
  exact ⟨l, h⟩
end Go.Proofs.YtnkjjhenfhnajaaGreatDoor

/-
  TasksRuns, walked.
-/
namespace Go.Proofs.YtnkjjhenfhnajaaGreatDoor
open Go.RowKit Go.Kw Go.Kreg Go.Tm

namespace Runs
def n1 (c : UInt8) : ByteArray := ⟨#[c]⟩
def e0 : ByteArray := ⟨#[]⟩
def A : Task := ⟨n1 97, 1, 4, [], e0, 0, 0, 0⟩
def B : Task := ⟨n1 98, 1, 6, [⟨0, 2⟩, ⟨1, 1⟩], e0, 0, 0, 0⟩
def C : Task := ⟨n1 99, 2, 5, [], e0, 0, 0, 0⟩
def D : Task := ⟨n1 99, 2, 4, [], e0, 0, 0, 0⟩
def lockB : ByteArray := ⟨#[108, 111, 99, 107]⟩
def loopB : ByteArray := ⟨#[114, 101, 112, 101, 97, 116, 32, 52, 48, 57, 54, 32, 123, 32, 114, 101, 112, 101, 97, 116, 32, 50, 32, 123, 32, 112, 111, 112, 32, 125, 32, 125]⟩
def wrong : List Task := [⟨n1 97, 1, 0, [], e0, 0, 0, 0⟩, ⟨n1 65, 1, 0, [], e0, 0, 0, 0⟩, ⟨n1 100, 0, 0, [], e0, 0, 0, 0⟩, ⟨n1 100, 33, 0, [], e0, 0, 0, 0⟩, ⟨n1 100, 1, 0, [⟨0, 3⟩], e0, 0, 0, 0⟩, ⟨n1 100, 1, 0, [⟨1, 1⟩, ⟨0, 1⟩], e0, 0, 0, 0⟩, ⟨n1 100, 1, 0, [⟨2, 1⟩], e0, 0, 0, 0⟩,
  ⟨n1 100, 1, 0, [], lockB, 0, 0, 0⟩, ⟨n1 100, 1, 0, [], loopB, 0, 0, 0⟩, ⟨n1 100, 1, 0, [], e0, 5, 0, 0⟩, ⟨n1 100, 1, 0, [], e0, 5, 1, 5⟩, ⟨n1 100, 1, 0, [], e0, 0, 1, 0⟩]
def want : List Int := [3, 2, 1, 1, 1, 21, 1, 31, 5, 1, 1, 1]
def M (ts : List Task) : TM := ⟨10, [2, 1], ts⟩
set_option maxRecDepth 100000
theorem okB : (M [A]).check B = 0 := by decide +kernel
theorem w1 : withOne [A, B, D] 2 6 = 12 := by decide +kernel
theorem w2 : withOne [A, B, D] 1 6 = 10 := by decide +kernel
theorem b1 : begins 10 [2, 1] = 0 := by decide +kernel
theorem b2 : begins (-1) [] = 1 := by decide +kernel
theorem b3 : begins 5 [0] = 1 := by decide +kernel
theorem b4 : begins 5 [256] = 1 := by decide +kernel
theorem b5 : begins 5 [1, 1, 1, 1, 1, 1, 1, 1, 1, 1, 1, 1, 1, 1, 1, 1, 1] = 4 := by decide +kernel
end Runs
theorem add_st {W w w0 : World} {F0 : Nat → Prop} {cs : List Ch} {p : Nat} {m m' : TM} {n e : Int} (hG : Glob W) (hS : St F0 w0 (glC W :: tabC p m :: cs) w) (x : Task) {nd : Value} (hv : SlNd w nd x.needs) (hb : big x.frame) (ha : m.add x = (n, e, m')) :
    Calls Tryz.prog 19 #[.pointer (some ⟨p, 0, none⟩), taskV x nd] w fun r w' => r = .returned (.tuple #[.int .i64 n, .int .i64 e]) ∧ St F0 w0 (glC W :: tabC p m' :: cs) w' := by
  obtain ⟨F1, g1, _, _, bk⟩ := hS.sel [0, 1]
  have g2 : Sts [glC W, tabC p m] F1 w := g1
  refine (add_any hG g2 x hv hb).mono fun r w' ⟨h1, h2⟩ => ⟨?_, ?_⟩
  · rw [h1, ha]
  · rw [ha] at h2; exact bk h2
namespace Runs
def nds (a b c : Nat) : List Value := [.slice none 0 0, .slice none 0 0, .slice none 0 0, .slice none 0 0, .slice (some ⟨a, 0, none⟩) 1 1, .slice (some ⟨b, 0, none⟩) 2 2, .slice (some ⟨c, 0, none⟩) 1 1, .slice none 0 0, .slice none 0 0, .slice none 0 0, .slice none 0 0, .slice none 0 0]
end Runs
section
variable {W w : World} {F : Nat → Prop}
open Runs
end
end Go.Proofs.YtnkjjhenfhnajaaGreatDoor

/-
  New's table, and one task of a list: words for the laws.
-/
namespace Go.Proofs.YtnkjjhenfhnajaaGreatDoor
open Go.RowKit Go.Kw Go.Kreg Go.Tm

theorem new_ok {w w1 : World} {F0 : Nat → Prop} {w0 : World} {words : Int} {us : List Int} (h : begins words us = 0) {cs : List Ch} (hS : St F0 w0 cs w) {e : Ending}
    (hn : (begins words us ≠ 0 ∧ e = .returned (.tuple #[.pointer none, .int .i64 (begins words us)]) ∧ Keeps (fun _ => False) w w1) ∨ (begins words us = 0 ∧ ∃ p, e = .returned (.tuple #[.pointer (some ⟨p, 0, none⟩), .int .i64 0]) ∧ St (fun _ => False) w [tabC p ⟨words, us, []⟩] w1)) :
    ∃ p, e = .returned (.tuple #[.pointer (some ⟨p, 0, none⟩), .int .i64 0]) ∧ St F0 w0 (cs ++ [tabC p ⟨words, us, []⟩]) w1 := by
  rcases hn with ⟨h0, _⟩ | ⟨_, p, he, hS1⟩
  · exact absurd h h0
  · exact ⟨p, he, hS.adds hS1⟩
theorem SlTk.one {w : World} {ao : Option Addr} {c : Nat} {l : List Task} (h : SlTk w (.slice ao l.length c) l) {k : Nat} {x : Task} (hx : l[k]? = some x) : ∃ b o na nc, ao = some ⟨b, o, none⟩ ∧ TkAt w b (o + k * 8) (.slice na x.needs.length nc) x ∧ SlNd w (.slice na x.needs.length nc) x.needs ∧ big x.level ∧ big x.frame ∧ big x.period ∧ big x.first ∧ big x.gap := by
  obtain ⟨ao', c', e, _, _, _, hh⟩ := h
  cases e
  obtain ⟨b, o, nd, e2, h1, h2, h3⟩ := hh k x hx
  obtain ⟨na, nc, rfl, _⟩ := id h2
  exact ⟨b, o, na, nc, e2, h1, h2, h3⟩
end Go.Proofs.YtnkjjhenfhnajaaGreatDoor

/-
  keelbook.Same of operations, needs, numbers; keellaw4.same.
-/
namespace Go.Proofs.YtnkjjhenfhnajaaGreatDoor
open Go.RowKit Go.Kw Go.Kreg Go.Tm

/-- A slice value that reads as these cells, n elements. -/
def Rd (w : World) (v : Value) (n sz : Nat) (cs : List Value) : Prop :=
  ∃ ao c, v = .slice ao n c ∧ n ≤ 9223372036854775807 ∧ cs.length = n * sz ∧ ∀ (j : Nat) u, cs[j]? = some u → ∃ b o, ao = some ⟨b, o, none⟩ ∧ w.cell? ⟨b, o + j, none⟩ = some u
theorem Rd.new {w w' : World} {v : Value} {n sz : Nat} {cs : List Value} (h : Rd w v n sz cs) (hk : Keeps (fun _ => False) w w') : Rd w' v n sz cs := by
  obtain ⟨ao, c, h1, h2, h3, h4⟩ := h
  refine ⟨ao, c, h1, h2, h3, fun j u hj => ?_⟩
  obtain ⟨b, o, e, hc⟩ := h4 j u hj
  exact ⟨b, o, e, cellIn hk hc⟩
theorem Rd.blk {w : World} {b n sz : Nat} {T : TypeId} {cs : List Value} (h : Blk w b T cs) (hn : n ≤ 9223372036854775807) (hl : cs.length = n * sz) : Rd w (.slice (some ⟨b, 0, none⟩) n n) n sz cs :=
  ⟨_, _, rfl, hn, hl, fun j u hj => ⟨b, 0, rfl, by rw [Nat.zero_add]; exact h.at hj⟩⟩
theorem Rd.own {w : World} {T : TypeId} {v : Value} {n sz : Nat} {cs : List Value} (h : Own w T sz v n cs) (hn : n ≤ 9223372036854775807) : Rd w v n sz cs := by
  obtain ⟨ao, c, rfl, _⟩ := h.shape
  refine ⟨ao, c, rfl, hn, h.1, fun j u hj => ?_⟩
  have hpos : 0 < n := by
    rcases Nat.eq_zero_or_pos n with h0 | h0
    · have := (List.getElem?_eq_some_iff.1 hj).1
      rw [h.1, h0, Nat.zero_mul] at this; omega
    · exact h0
  obtain ⟨g, cap, e, _⟩ := h.form hpos
  cases e
  exact ⟨g, 0, rfl, by rw [Nat.zero_add]; exact h.cells' (g := g) rfl hj⟩
theorem Rd.nd {w : World} {v : Value} {l : List Need} (h : SlNd w v l) : Rd w v l.length 2 (needsC l) := by
  obtain ⟨ao, c, rfl, hl, _, _, hc, _⟩ := h
  refine ⟨ao, c, rfl, hl, needsC_len l, fun j u hj => ?_⟩
  have hlt : j / 2 < l.length := by
    have := (List.getElem?_eq_some_iff.1 hj).1
    rw [needsC_len] at this; omega
  obtain ⟨b, o, rfl, g0, g1⟩ := hc _ _ (List.getElem?_eq_getElem hlt)
  exact ⟨b, o, rfl, by have := slnd_src hc _ rfl j u hj; rwa [add_at] at this⟩

theorem eqOp (w : World) (x y : Cm.Op) : (Op.equalIn 10000 TOp (.agg #[.int .i64 x.kind, .int .i64 x.res, .int .i64 x.n, .int .i64 x.v]) (.agg #[.int .i64 y.kind, .int .i64 y.res, .int .i64 y.n, .int .i64 y.v])).run Tryz.prog w = .ok (decide (x = y)) w := by
  have hS : Tryz.prog.underlying TOp = some (.struct (Tryz.prog.fieldsOf TOp)) := by kernel_rfl
  have hp : Tryz.prog.stoodInHeld TOp = false := by kernel_rfl
  rw [show (10000 : Nat) = 9999 + 1 from rfl, run_equalIn_struct w 9999 TOp _ _ hS hp]
  simp only [Program.fieldsOf, Tryz.underlying153]
  obtain ⟨a, b, c, d⟩ := x
  obtain ⟨a', b', c', d'⟩ := y
  go_simp
  by_cases h1 : a = a' <;> by_cases h2 : b = b' <;> by_cases h3 : c = c' <;> by_cases h4 : d = d' <;> simp [h1, h2, h3, h4]
section
variable {w : World} {va vb : Value} {xs ys : List Cm.Op}
end
section
variable {w : World} {va vb : Value} {xs ys : List Need}
end
section
variable {w : World} {va vb : Value} {xs ys : List Int}
end
end Go.Proofs.YtnkjjhenfhnajaaGreatDoor

/-
  keelbook.Within, walked.
-/
namespace Go.Proofs.YtnkjjhenfhnajaaGreatDoor
open Go.RowKit Go.Kw Go.Kreg Go.Tm
theorem within_any (w : World) (n lo hi : Int) (h0 : -1000000 ≤ lo) (h1 : lo ≤ hi) (h2 : hi ≤ 1000000) (_hn : -9223372036854775808 ≤ n) (_hn' : n ≤ 9223372036854775807) :
    Calls Tryz.prog 26 #[.int .i64 n, .int .i64 lo, .int .i64 hi] w fun e w' => e = .returned (.int .i64 (within n lo hi)) ∧ w = w' := by
  have hb := within_bd n lo hi h1
  have hw : within n lo hi = lo + (if n.tmod (hi - lo + 1) < 0 then n.tmod (hi - lo + 1) + hi - lo + 1 else n.tmod (hi - lo + 1)) := rfl
  have Hw := hid hw
  have Hb := hid hb
  clear hw hb
  have m1 := Int.tmod_lt_of_pos n (b := hi - lo + 1) (by omega)
  have m2 := Int.lt_tmod_of_pos n (show 0 < hi - lo + 1 by omega)
  have hne : ((hi - lo + 1 : Int) == 0) = false := by simp; omega
  have hp : 0 < hi - lo + 1 := by omega
  go_enter Tryz.func26, Tryz.ntmps26
  go_wp2
  · go_ret
    rename_i hneg
    exact ⟨ret_int (by rw [Hw.out, if_pos hneg]), rfl⟩
  · go_ret
    rename_i hneg
    exact ⟨ret_int (by rw [Hw.out, if_neg (by omega)]), rfl⟩

end Go.Proofs.YtnkjjhenfhnajaaGreatDoor
