/-
  Lists of numbers as they come in.
-/
import Derived.Test.YtnkjjhenfhnajaaGreatDoorG20
namespace Go.Proofs.YtnkjjhenfhnajaaGreatDoor
open Go.RowKit Go.Kw Go.Kreg Go.Tm
set_option linter.unusedSimpArgs false
set_option linter.unusedVariables false

abbrev TIl : Nat := 22
theorem SlIn.none (w : World) : SlIn w (.slice none 0 0) [] := ⟨Option.none, 0, rfl, by simp, by simp, by simp [maxLen], fun j x hj => by simp at hj, fun _ => rfl⟩
theorem SlIn.ofTrod {H : Type} {enc : TypeId × Value → H} {W : World} {a : Option Addr} {len cap : Nat} {d : DataW H} {ps : List MemPlace} {ts : List TypeId} {ds : List (DataW H)} {j : Nat}
    (hsz : (DataW.weightsEach Tryz.prog ts ds).all (· ≤ reachBytes) = true) (ht : ts[j]? = some TIl) (hd : ds[j]? = some d)
    (h : DataW.Trod enc Tryz.prog W 0 (fun _ => true) true TIl (.slice a len cap) d ps) : ∃ l, SlIn W (.slice a len cap) l ∧ ∀ x ∈ l, big x := by
  obtain ⟨fuel, hf⟩ := h
  rcases ChangeShapes.open_ints Tryz.underlying22 Tryz.underlying3 (by kernel_rfl) hf with ⟨hcs, _⟩ | ⟨x, l, c, zs, hcs, _, hl, hm, hz, hx, hcell, hwz⟩
  · simp [Value.cells] at hcs
    obtain ⟨rfl, rfl, rfl⟩ := hcs
    exact ⟨[], SlIn.none W, by simp⟩
  · simp [Value.cells] at hcs
    obtain ⟨rfl, rfl, rfl⟩ := hcs
    obtain ⟨hx, _⟩ := Prod.mk.inj hx
    subst hx
    have z := sized_slice hsz ht hd Tryz.underlying22
    rw [show Tryz.prog.bytesOf 3 = 8 by kernel_rfl] at z
    have hz' : zs.length = cap := by simpa using hz
    have hlen : (zs.take len).length = len := by simp; omega
    have hl2 : (ChangeShapes.lits (H := H) .i64 (zs.take len)).length + (ChangeShapes.lits (H := H) .i64 (zs.drop len)).length = cap := by simp [ChangeShapes.lits]; omega
    rw [hl2] at z
    unfold reachBytes at z
    refine ⟨zs.take len, ⟨_, cap, by rw [hlen], by omega, by omega, hm, fun j y hj => ?_, fun e => by cases e⟩, fun y hy => big_of (hwz y (List.mem_of_mem_take hy))⟩
    rw [List.getElem?_take] at hj
    split at hj
    · have hjl : j < zs.length := (List.getElem?_eq_some_iff.1 hj).1
      have h1 := hcell j hjl
      have e := addr_of_cell (hcell 0 (by omega))
      refine ⟨x.block, x.off, by rw [← e], ?_⟩
      rw [e, add_at, List.getD_eq_getElem?_getD, hj] at h1
      exact h1
    · cases hj
set_option maxRecDepth 100000 in
theorem Tk.ofTrod {H : Type} {enc : TypeId × Value → H} {W : World} {cs : Array Value} {d : DataW H} {ps : List MemPlace} (hcs : cs.size = Tryz.prog.cellsOf TTk)
    (h : DataW.Trod enc Tryz.prog W 0 (fun _ => true) true TTk (.agg cs) d ps) : ∃ (x : Tm.Task) (nd : Value), cs = #[.string x.name, .int .i64 x.level, .int .i64 x.frame, nd, .string x.code, .int .i64 x.period, .int .i64 x.first, .int .i64 x.gap] ∧
      SlNd W nd x.needs ∧ (big x.level ∧ big x.frame ∧ big x.period ∧ big x.first ∧ big x.gap) ∧ x.name.size ≤ 9223372036854775807 := by
  obtain ⟨fuel, hf⟩ := h
  have c8 : Tryz.prog.cellsOf TTk = 8 := by kernel_rfl
  rw [c8] at hcs
  have h2 : DataW.trod enc Tryz.prog W 0 (fun _ => true) true fuel TTk cs.toList = some (d, ps) := by simpa [Value.cells] using hf
  obtain ⟨l, rfl⟩ : ∃ l : List Value, cs = l.toArray := ⟨cs.toList, by simp⟩
  have hlen : l.length = 8 := by simpa using hcs
  simp only [List.toList_toArray] at h2
  obtain ⟨xs, k, hk, hxy, _, hxl, hfl⟩ := DataW.trod_struct Tryz.underlying38 h2
  match xs, hxl, l, hlen with
  | [y0, y1, y2, y3, y4, y5, y6, y7], _, [v0, v1, v2, v3, v4, v5, v6, v7], _ =>
    have g0 := hfl 0 _ rfl
    have g1 := hfl 1 _ rfl
    have g2 := hfl 2 _ rfl
    have g3 := hfl 3 _ rfl
    have g4 := hfl 4 _ rfl
    have g5 := hfl 5 _ rfl
    have g6 := hfl 6 _ rfl
    have g7 := hfl 7 _ rfl
    have cS : Tryz.prog.cellsOf 9 = 1 := by kernel_rfl
    have cI : Tryz.prog.cellsOf 3 = 1 := by kernel_rfl
    have cN : Tryz.prog.cellsOf 36 = 1 := by kernel_rfl
    simp [cS] at g0 g4
    simp [cI] at g1 g2 g5 g6 g7
    simp [cN] at g3
    obtain ⟨s0, e0, _, hsz0⟩ := DataW.trod_string Tryz.underlying9 g0
    obtain ⟨s4, e4, _, _⟩ := DataW.trod_string Tryz.underlying9 g4
    obtain ⟨k1, e1, _, w1⟩ := DataW.trod_int Tryz.underlying3 g1
    obtain ⟨k2, e2, _, w2⟩ := DataW.trod_int Tryz.underlying3 g2
    obtain ⟨k5, e5, _, w5⟩ := DataW.trod_int Tryz.underlying3 g5
    obtain ⟨k6, e6, _, w6⟩ := DataW.trod_int Tryz.underlying3 g6
    obtain ⟨k7, e7, _, w7⟩ := DataW.trod_int Tryz.underlying3 g7
    obtain ⟨v3', nl, e3, s3⟩ := SlNd.ofTrod g3
    simp only [List.cons.injEq, and_true] at e0 e1 e2 e3 e4 e5 e6 e7
    subst e0 e1 e2 e3 e4 e5 e6 e7
    unfold maxLen at hsz0
    exact ⟨⟨s0, k1, k2, nl, s4, k5, k6, k7⟩, v3, rfl, s3, ⟨big_of w1, big_of w2, big_of w5, big_of w6, big_of w7⟩, by simpa using hsz0⟩
end Go.Proofs.YtnkjjhenfhnajaaGreatDoor
