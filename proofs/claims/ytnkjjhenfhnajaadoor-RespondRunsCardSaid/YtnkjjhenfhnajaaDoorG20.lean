/-
  Texts Th Ta Tja Sm Wi in one.
-/
import Derived.Test.YtnkjjhenfhnajaaDoorG13
import Derived.SizedLaws
import Derived.OpenShut
import Derived.ChangeOld
import Derived.RowKit3
import Derived.Deep.SlicePairs
import Derived.Deep.Slices
import Derived.Laws.StructEq
/-
  few, walked; lists of tasks as they come in.
-/
namespace Go.Proofs.YtnkjjhenfhnajaaDoor
open Go.RowKit Go.Kw Go.Kreg Go.Tm

def within (n lo hi : Int) : Int := lo + (if n.tmod (hi - lo + 1) < 0 then n.tmod (hi - lo + 1) + hi - lo + 1 else n.tmod (hi - lo + 1))
theorem within_bd (n lo hi : Int) (h : lo ≤ hi) : lo ≤ within n lo hi ∧ within n lo hi ≤ hi := by
  unfold within
  have h1 := Int.tmod_lt_of_pos n (b := hi - lo + 1) (by omega)
  have h2 : -(hi - lo + 1) < n.tmod (hi - lo + 1) := by
    have := Int.lt_tmod_of_pos n (show 0 < hi - lo + 1 by omega)
    exact this
  split <;> omega
theorem addr_of_cell {w : World} {a : Addr} {v : Value} (h : w.cell? (a.add 0) = some v) : a = ⟨a.block, a.off, none⟩ := by
  have hs := World.cell?_spot h
  obtain ⟨b, o, s⟩ := a
  have : (⟨b, o, s⟩ : Addr).add 0 = ⟨b, o, s⟩ := rfl
  rw [this] at hs
  simp only at hs; subst hs; rfl
theorem int_bd {k : Int} (h : (Lit.int .i64 k).wf = true) : -9223372036854775808 ≤ k ∧ k ≤ 9223372036854775807 := by
  simp only [Lit.wf, Bool.and_eq_true, decide_eq_true_eq] at h
  exact h
theorem big_of {k : Int} (h : (Lit.int .i64 k).wf = true) : big k := int_bd h

theorem SlNd.ofTrod {H : Type} {enc : TypeId × Value → H} {W : World} {base fuel : Nat} {sp : Nat → Bool} {held : Bool} {cs : List Value} {x : DataW H × List MemPlace}
    (h : DataW.trod enc Tryd.prog W base sp held fuel TNds cs = some x) : ∃ v l, cs = [v] ∧ SlNd W v l := by
  rcases Deep.open_slice_pairs Tryd.underlying22 Tryd.underlying29 (by kernel_rfl) rfl rfl (by kernel_rfl) (by kernel_rfl) h with ⟨hcs, _⟩ | ⟨a, len, cap, m, n, V0, V1, D0, D1, P0, P1, hcs, _, hl, hm, hmm, hx, hcell⟩
  · exact ⟨_, [], hcs, SlNd.nil W⟩
  · have hlm : len ≤ m := by rw [hmm]; split <;> omega
    have key : ∀ i, i < len → ∃ q : Need, V0 i = .int .i64 q.res ∧ V1 i = .int .i64 q.units ∧ big q.res ∧ big q.units := by
      intro i hi
      obtain ⟨_, _, t0, t1⟩ := hcell i (by omega)
      obtain ⟨k0, e0, _, w0⟩ := DataW.trod_int Tryd.underlying3 t0
      obtain ⟨k1, e1, _, w1⟩ := DataW.trod_int Tryd.underlying3 t1
      exact ⟨⟨k0, k1⟩, by simpa using e0, by simpa using e1, big_of w0, big_of w1⟩
    obtain ⟨f, hf⟩ := Deep.choose_lt key
    refine ⟨_, (List.range len).map f, hcs, some a, cap, by simp, by simp; unfold maxLen at hm; omega, by simpa using hl, hm, fun j y hj => ?_, (fun e => by cases e), fun y hy => ?_⟩
    · rw [List.getElem?_map] at hj
      cases hr : (List.range len)[j]? with
      | none => rw [hr] at hj; cases hj
      | some i =>
        rw [hr] at hj
        obtain ⟨hjl, hji⟩ := List.getElem?_eq_some_iff.1 hr
        simp only [List.getElem_range] at hji
        simp only [List.length_range] at hjl
        subst hji
        simp only [Option.map_some, Option.some.injEq] at hj
        subst hj
        obtain ⟨c0, c1, _, _⟩ := hcell j (by omega)
        obtain ⟨e0, e1, _, _⟩ := hf j hjl
        have e := addr_of_cell (by have := (hcell 0 (by omega)).1; rwa [Nat.zero_mul] at this)
        refine ⟨a.block, a.off, by rw [← e], ?_, ?_⟩
        · rw [e, add_at, e0] at c0; exact c0
        · rw [e, add_at, e1] at c1; rw [Nat.add_assoc]; exact c1
    · simp only [List.mem_map, List.mem_range] at hy
      obtain ⟨i, hi, rfl⟩ := hy
      obtain ⟨_, _, w0, w1⟩ := hf i hi
      exact ⟨w0, w1⟩

end Go.Proofs.YtnkjjhenfhnajaaDoor

/-
  TasksRuns, walked.
-/
namespace Go.Proofs.YtnkjjhenfhnajaaDoor
open Go.RowKit Go.Kw Go.Kreg Go.Tm

namespace Runs
def n1 (c : UInt8) : ByteArray := ⟨#[c]⟩
def e0 : ByteArray := ⟨#[]⟩
def A : Task := ⟨n1 97, 1, 4, [], e0, 0, 0, 0⟩
def B : Task := ⟨n1 98, 1, 6, [⟨0, 2⟩, ⟨1, 1⟩], e0, 0, 0, 0⟩
def C : Task := ⟨n1 99, 2, 5, [], e0, 0, 0, 0⟩
def D : Task := ⟨n1 99, 2, 4, [], e0, 0, 0, 0⟩
def lockB : ByteArray := ⟨#[108, 111, 99, 107]⟩
def loopB : ByteArray := ⟨#[114, 101, 112, 101, 97, 116, 32, 52, 48, 57, 54, 32, 123, 32, 114, 101, 112, 101, 97, 116, 32, 50, 32, 123, 32, 112, 111, 112, 32, 125, 32, 125]⟩
def wrong : List Task := [⟨n1 97, 1, 0, [], e0, 0, 0, 0⟩, ⟨n1 65, 1, 0, [], e0, 0, 0, 0⟩, ⟨n1 100, 0, 0, [], e0, 0, 0, 0⟩, ⟨n1 100, 33, 0, [], e0, 0, 0, 0⟩, ⟨n1 100, 1, 0, [⟨0, 3⟩], e0, 0, 0, 0⟩, ⟨n1 100, 1, 0, [⟨1, 1⟩, ⟨0, 1⟩], e0, 0, 0, 0⟩, ⟨n1 100, 1, 0, [⟨2, 1⟩], e0, 0, 0, 0⟩,
  ⟨n1 100, 1, 0, [], lockB, 0, 0, 0⟩, ⟨n1 100, 1, 0, [], loopB, 0, 0, 0⟩, ⟨n1 100, 1, 0, [], e0, 5, 0, 0⟩, ⟨n1 100, 1, 0, [], e0, 5, 1, 5⟩, ⟨n1 100, 1, 0, [], e0, 0, 1, 0⟩]
def want : List Int := [3, 2, 1, 1, 1, 21, 1, 31, 5, 1, 1, 1]
def M (ts : List Task) : TM := ⟨10, [2, 1], ts⟩
set_option maxRecDepth 100000
theorem okA : (M []).check A = 0 := by decide +kernel
theorem okB : (M [A]).check B = 0 := by decide +kernel
theorem okC : (M [A, B]).check C = 25 := by decide +kernel
theorem okD : (M [A, B]).check D = 0 := by decide +kernel
theorem bad0 : wrong.map (fun x => (M [A, B, D]).check x) = want := by decide +kernel
theorem bd : bound [A, B, D] = 10 := by decide +kernel
theorem nd1 : Tm.need [A, B, D] 1 0 = 2 := by decide +kernel
theorem nd2 : Tm.need [A, B, D] 0 0 = 0 := by decide +kernel
theorem nd3 : Tm.need [A, B, D] 9 0 = 0 := by decide +kernel
theorem w1 : withOne [A, B, D] 2 6 = 12 := by decide +kernel
theorem w2 : withOne [A, B, D] 1 6 = 10 := by decide +kernel
theorem b1 : begins 10 [2, 1] = 0 := by decide +kernel
theorem b2 : begins (-1) [] = 1 := by decide +kernel
theorem b3 : begins 5 [0] = 1 := by decide +kernel
theorem b4 : begins 5 [256] = 1 := by decide +kernel
theorem b5 : begins 5 [1, 1, 1, 1, 1, 1, 1, 1, 1, 1, 1, 1, 1, 1, 1, 1, 1] = 4 := by decide +kernel
end Runs
theorem add_yes {m : TM} {x : Task} (h : m.check x = 0) : m.add x = ((m.ts.length : Int), 0, ⟨m.words, m.units, m.ts ++ [x]⟩) := by
  unfold TM.add; rw [if_neg (by simp [h])]
theorem add_no {m : TM} {x : Task} {e : Int} (h : m.check x = e) (he : e ≠ 0) : m.add x = (-1, e, m) := by
  unfold TM.add; rw [h, if_pos he]
theorem add_st {W w w0 : World} {F0 : Nat → Prop} {cs : List Ch} {p : Nat} {m m' : TM} {n e : Int} (hG : Glob W) (hS : St F0 w0 (glC W :: tabC p m :: cs) w) (x : Task) {nd : Value} (hv : SlNd w nd x.needs) (hb : big x.frame) (ha : m.add x = (n, e, m')) :
    Calls Tryd.prog 12 #[.pointer (some ⟨p, 0, none⟩), taskV x nd] w fun r w' => r = .returned (.tuple #[.int .i64 n, .int .i64 e]) ∧ St F0 w0 (glC W :: tabC p m' :: cs) w' := by
  obtain ⟨F1, g1, _, _, bk⟩ := hS.sel [0, 1]
  have g2 : Sts [glC W, tabC p m] F1 w := g1
  refine (add_any hG g2 x hv hb).mono fun r w' ⟨h1, h2⟩ => ⟨?_, ?_⟩
  · rw [h1, ha]
  · rw [ha] at h2; exact bk h2
namespace Runs
def nds (a b c : Nat) : List Value := [.slice none 0 0, .slice none 0 0, .slice none 0 0, .slice none 0 0, .slice (some ⟨a, 0, none⟩) 1 1, .slice (some ⟨b, 0, none⟩) 2 2, .slice (some ⟨c, 0, none⟩) 1 1, .slice none 0 0, .slice none 0 0, .slice none 0 0, .slice none 0 0, .slice none 0 0]
theorem addA : (M []).add A = (0, 0, M [A]) := add_yes okA
theorem addB : (M [A]).add B = (1, 0, M [A, B]) := add_yes okB
theorem addC : (M [A, B]).add C = (-1, 25, M [A, B]) := add_no okC (by decide)
theorem addD : (M [A, B]).add D = (2, 0, M [A, B, D]) := add_yes okD
end Runs
theorem Runs.wrong_at {F0 : Nat → Prop} {W w0 w : World} {p : Nat} (q : Nat) {k : Nat} (hk : k < 12) (hS : St F0 w0 [glC W, tabC p (Runs.M [Runs.A, Runs.B, Runs.D]), .pt q TNd (needsC [⟨0, 3⟩]), .pt (q + 1) TNd (needsC [⟨1, 1⟩, ⟨0, 1⟩]), .pt (q + 1 + 1) TNd (needsC [⟨2, 1⟩]), .pt (q + 1 + 1 + 1) TTk (tasksV Runs.wrong (Runs.nds q (q + 1) (q + 1 + 1))), .pt (q + 1 + 1 + 1 + 1) TI' (intsC Runs.want)] w) :
    ∃ x e nd, Runs.wrong[k]? = some x ∧ (Runs.M [Runs.A, Runs.B, Runs.D]).check x = e ∧ (Runs.nds q (q + 1) (q + 1 + 1))[k]? = some nd ∧ Runs.want[k]? = some e ∧ e ≠ 0 ∧ big x.frame ∧ SlNd w nd x.needs := by
  have h1 : Runs.wrong[k]? = some Runs.wrong[k] := List.getElem?_eq_getElem hk
  have h2 : Runs.want[k]? = some ((Runs.M [Runs.A, Runs.B, Runs.D]).check Runs.wrong[k]) := by rw [← Runs.bad0, List.getElem?_map, h1]; rfl
  have hn : ∀ e ∈ Runs.want, e ≠ 0 := by decide
  have hf : ∀ x ∈ Runs.wrong, big x.frame := by decide
  have s4 : SlNd w (.slice (some ⟨q, 0, none⟩) 1 1) [⟨0, 3⟩] := SlNd.blk (l := [⟨0, 3⟩]) (hS.blk 2) (by simp) (by decide)
  have s5 : SlNd w (.slice (some ⟨q + 1, 0, none⟩) 2 2) [⟨1, 1⟩, ⟨0, 1⟩] := SlNd.blk (l := [⟨1, 1⟩, ⟨0, 1⟩]) (hS.blk 3) (by simp) (by decide)
  have s6 : SlNd w (.slice (some ⟨q + 1 + 1, 0, none⟩) 1 1) [⟨2, 1⟩] := SlNd.blk (l := [⟨2, 1⟩]) (hS.blk 4) (by simp) (by decide)
  have hnd : ∃ nd, (Runs.nds q (q + 1) (q + 1 + 1))[k]? = some nd ∧ SlNd w nd (Runs.wrong[k]).needs := by
    obtain rfl | rfl | rfl | rfl | rfl | rfl | rfl | rfl | rfl | rfl | rfl | rfl : k = 0 ∨ k = 1 ∨ k = 2 ∨ k = 3 ∨ k = 4 ∨ k = 5 ∨ k = 6 ∨ k = 7 ∨ k = 8 ∨ k = 9 ∨ k = 10 ∨ k = 11 := by omega
    all_goals first | exact ⟨_, rfl, SlNd.nil w⟩ | exact ⟨_, rfl, s4⟩ | exact ⟨_, rfl, s5⟩ | exact ⟨_, rfl, s6⟩
  obtain ⟨nd, h3, h4⟩ := hnd
  exact ⟨_, _, nd, h1, rfl, h3, h2, hn _ (List.mem_of_getElem? h2), hf _ (List.mem_of_getElem? h1), h4⟩
section
variable {W w : World} {F : Nat → Prop}
open Runs
end
end Go.Proofs.YtnkjjhenfhnajaaDoor

/-
  New's table, and one task of a list: words for the laws.
-/
namespace Go.Proofs.YtnkjjhenfhnajaaDoor
open Go.RowKit Go.Kw Go.Kreg Go.Tm

theorem new_ok {w w1 : World} {F0 : Nat → Prop} {w0 : World} {words : Int} {us : List Int} (h : begins words us = 0) {cs : List Ch} (hS : St F0 w0 cs w) {e : Ending}
    (hn : (begins words us ≠ 0 ∧ e = .returned (.tuple #[.pointer none, .int .i64 (begins words us)]) ∧ Keeps (fun _ => False) w w1) ∨ (begins words us = 0 ∧ ∃ p, e = .returned (.tuple #[.pointer (some ⟨p, 0, none⟩), .int .i64 0]) ∧ St (fun _ => False) w [tabC p ⟨words, us, []⟩] w1)) :
    ∃ p, e = .returned (.tuple #[.pointer (some ⟨p, 0, none⟩), .int .i64 0]) ∧ St F0 w0 (cs ++ [tabC p ⟨words, us, []⟩]) w1 := by
  rcases hn with ⟨h0, _⟩ | ⟨_, p, he, hS1⟩
  · exact absurd h h0
  · exact ⟨p, he, hS.adds hS1⟩
theorem SlTk.one {w : World} {ao : Option Addr} {c : Nat} {l : List Task} (h : SlTk w (.slice ao l.length c) l) {k : Nat} {x : Task} (hx : l[k]? = some x) : ∃ b o na nc, ao = some ⟨b, o, none⟩ ∧ TkAt w b (o + k * 8) (.slice na x.needs.length nc) x ∧ SlNd w (.slice na x.needs.length nc) x.needs ∧ big x.level ∧ big x.frame ∧ big x.period ∧ big x.first ∧ big x.gap := by
  obtain ⟨ao', c', e, _, _, _, hh⟩ := h
  cases e
  obtain ⟨b, o, nd, e2, h1, h2, h3⟩ := hh k x hx
  obtain ⟨na, nc, rfl, _⟩ := id h2
  exact ⟨b, o, na, nc, e2, h1, h2, h3⟩
end Go.Proofs.YtnkjjhenfhnajaaDoor

/-
  keelbook.Same of operations, needs, numbers; keellaw4.same.
-/
namespace Go.Proofs.YtnkjjhenfhnajaaDoor
open Go.RowKit Go.Kw Go.Kreg Go.Tm

/-- A slice value that reads as these cells, n elements. -/
def Rd (w : World) (v : Value) (n sz : Nat) (cs : List Value) : Prop :=
  ∃ ao c, v = .slice ao n c ∧ n ≤ 9223372036854775807 ∧ cs.length = n * sz ∧ ∀ (j : Nat) u, cs[j]? = some u → ∃ b o, ao = some ⟨b, o, none⟩ ∧ w.cell? ⟨b, o + j, none⟩ = some u
theorem Rd.new {w w' : World} {v : Value} {n sz : Nat} {cs : List Value} (h : Rd w v n sz cs) (hk : Keeps (fun _ => False) w w') : Rd w' v n sz cs := by
  obtain ⟨ao, c, h1, h2, h3, h4⟩ := h
  refine ⟨ao, c, h1, h2, h3, fun j u hj => ?_⟩
  obtain ⟨b, o, e, hc⟩ := h4 j u hj
  exact ⟨b, o, e, cellIn hk hc⟩
theorem Rd.blk {w : World} {b n sz : Nat} {T : TypeId} {cs : List Value} (h : Blk w b T cs) (hn : n ≤ 9223372036854775807) (hl : cs.length = n * sz) : Rd w (.slice (some ⟨b, 0, none⟩) n n) n sz cs :=
  ⟨_, _, rfl, hn, hl, fun j u hj => ⟨b, 0, rfl, by rw [Nat.zero_add]; exact h.at hj⟩⟩
theorem Rd.own {w : World} {T : TypeId} {v : Value} {n sz : Nat} {cs : List Value} (h : Own w T sz v n cs) (hn : n ≤ 9223372036854775807) : Rd w v n sz cs := by
  obtain ⟨ao, c, rfl, _⟩ := h.shape
  refine ⟨ao, c, rfl, hn, h.1, fun j u hj => ?_⟩
  have hpos : 0 < n := by
    rcases Nat.eq_zero_or_pos n with h0 | h0
    · have := (List.getElem?_eq_some_iff.1 hj).1
      rw [h.1, h0, Nat.zero_mul] at this; omega
    · exact h0
  obtain ⟨g, cap, e, _⟩ := h.form hpos
  cases e
  exact ⟨g, 0, rfl, by rw [Nat.zero_add]; exact h.cells' (g := g) rfl hj⟩
theorem Rd.nd {w : World} {v : Value} {l : List Need} (h : SlNd w v l) : Rd w v l.length 2 (needsC l) := by
  obtain ⟨ao, c, rfl, hl, _, _, hc, _⟩ := h
  refine ⟨ao, c, rfl, hl, needsC_len l, fun j u hj => ?_⟩
  have hlt : j / 2 < l.length := by
    have := (List.getElem?_eq_some_iff.1 hj).1
    rw [needsC_len] at this; omega
  obtain ⟨b, o, rfl, g0, g1⟩ := hc _ _ (List.getElem?_eq_getElem hlt)
  exact ⟨b, o, rfl, by have := slnd_src hc _ rfl j u hj; rwa [add_at] at this⟩

theorem eqOp (w : World) (x y : Cm.Op) : (Op.equalIn 10000 TOp (.agg #[.int .i64 x.kind, .int .i64 x.res, .int .i64 x.n, .int .i64 x.v]) (.agg #[.int .i64 y.kind, .int .i64 y.res, .int .i64 y.n, .int .i64 y.v])).run Tryd.prog w = .ok (decide (x = y)) w := by
  have hS : Tryd.prog.underlying TOp = some (.struct (Tryd.prog.fieldsOf TOp)) := by kernel_rfl
  have hp : Tryd.prog.stoodInHeld TOp = false := by kernel_rfl
  rw [show (10000 : Nat) = 9999 + 1 from rfl, run_equalIn_struct w 9999 TOp _ _ hS hp]
  simp only [Program.fieldsOf, Tryd.underlying113]
  obtain ⟨a, b, c, d⟩ := x
  obtain ⟨a', b', c', d'⟩ := y
  go_simp
  by_cases h1 : a = a' <;> by_cases h2 : b = b' <;> by_cases h3 : c = c' <;> by_cases h4 : d = d' <;> simp [h1, h2, h3, h4]
theorem eqNd (w : World) (x y : Need) : (Op.equalIn 10000 TNd (.agg #[.int .i64 x.res, .int .i64 x.units]) (.agg #[.int .i64 y.res, .int .i64 y.units])).run Tryd.prog w = .ok (decide (x = y)) w := by
  have hS : Tryd.prog.underlying TNd = some (.struct (Tryd.prog.fieldsOf TNd)) := by kernel_rfl
  have hp : Tryd.prog.stoodInHeld TNd = false := by kernel_rfl
  rw [show (10000 : Nat) = 9999 + 1 from rfl, run_equalIn_struct w 9999 TNd _ _ hS hp]
  simp only [Program.fieldsOf, Tryd.underlying29]
  obtain ⟨a, b⟩ := x
  obtain ⟨a', b'⟩ := y
  go_simp
  by_cases h1 : a = a' <;> by_cases h2 : b = b' <;> simp [h1, h2]
section
variable {w : World} {va vb : Value} {xs ys : List Cm.Op}
end
section
variable {w : World} {va vb : Value} {xs ys : List Need}
end
section
variable {w : World} {va vb : Value} {xs ys : List Int}
end
end Go.Proofs.YtnkjjhenfhnajaaDoor

/-
  keelbook.Within, walked.
-/
namespace Go.Proofs.YtnkjjhenfhnajaaDoor
open Go.RowKit Go.Kw Go.Kreg Go.Tm
end Go.Proofs.YtnkjjhenfhnajaaDoor
