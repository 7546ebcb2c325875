/-
  Sets of tasks as they come in.
-/
import Derived.Test.YtnkjjhenfhnajaaGreatDoorSin
import Derived.Test.YtnkjjhenfhnajaaGreatDoorBf
namespace Go.Proofs.YtnkjjhenfhnajaaGreatDoor
open Go.RowKit Go.Kw Go.Kreg Go.Tm
set_option linter.unusedSimpArgs false
set_option linter.unusedVariables false

theorem SlIm.ofTrod2 {H : Type} {enc : TypeId × Value → H} {W : World} {cs : List Value} {fuel : Nat} {x : DataW H × List MemPlace}
    (hf : DataW.trod enc Tryz.prog W 0 (fun _ => true) true fuel TIl cs = some x) : ∃ v l, cs = [v] ∧ SlIm W v l ∧ ∀ x ∈ l, big x := by
  obtain ⟨d, ps⟩ := x
  rcases ChangeShapes.open_ints Tryz.underlying22 Tryz.underlying3 (by kernel_rfl) hf with ⟨hcs, _⟩ | ⟨x, l, c, zs, hcs, _, hl, hm, hz, hx, hcell, hwz⟩
  · exact ⟨_, [], hcs, ⟨none, 0, rfl, by simp, by simp, by simp [maxLen], fun j x hj => by simp at hj⟩, by simp⟩
  · obtain ⟨hx, _⟩ := Prod.mk.inj hx
    have hz' : zs.length = c := by simpa using hz
    have hlen : (zs.take l).length = l := by simp; omega
    have hQ : (zs.take l).length ≤ 9223372036854775807 := by
      have h1 : c ≤ maxLen := by simpa using hm
      unfold maxLen at h1
      rw [hlen]; omega
    refine ⟨_, zs.take l, hcs, ⟨some x, c, by rw [hlen], hQ, by rw [hlen]; exact hl, by simpa using hm, fun j y hj => ?_⟩, fun y hy => big_of (hwz y (List.mem_of_mem_take hy))⟩
    rw [List.getElem?_take] at hj
    split at hj
    · have hjl : j < zs.length := (List.getElem?_eq_some_iff.1 hj).1
      have h1 := hcell j hjl
      have e := addr_of_cell (hcell 0 (by omega))
      refine ⟨x.block, x.off, by rw [← e], ?_⟩
      rw [e, add_at, List.getD_eq_getElem?_getD, hj] at h1
      exact h1
    · cases hj
theorem SlTk.ofTrod2 {H : Type} {enc : TypeId × Value → H} {W : World} {cs : List Value} {fuel : Nat} {x : DataW H × List MemPlace}
    (hf : DataW.trod enc Tryz.prog W 0 (fun _ => true) true fuel TTks cs = some x) : ∃ v l, cs = [v] ∧ SlTk W v l ∧ ∀ x ∈ l, x.name.size ≤ 9223372036854775807 := by
  obtain ⟨d, ps⟩ := x
  have hv : ∃ a len cap, cs = [.slice a len cap] := by
    rcases Deep.open_slice Tryz.underlying23 hf with ⟨hcs, _⟩ | ⟨x, l, c, m, n, D, Pl, hcs, _⟩
    · exact ⟨_, _, _, hcs⟩
    · exact ⟨_, _, _, hcs⟩
  obtain ⟨a, len, cap, rfl⟩ := hv
  obtain ⟨l, h1, h2⟩ := SlTk.ofTrodN (a := a) (len := len) (cap := cap) (d := d) (ps := ps) (enc := enc) ⟨fuel, by simpa [Value.cells] using hf⟩
  exact ⟨_, l, rfl, h1, h2⟩
set_option maxRecDepth 100000 in
theorem Set.ofTrod {H : Type} {enc : TypeId × Value → H} {W : World} {cs : Array Value} {d : DataW H} {ps : List MemPlace} (hcs : cs.size = Tryz.prog.cellsOf TSet)
    (h : DataW.Trod enc Tryz.prog W 0 (fun _ => true) true TSet (.agg cs) d ps) : ∃ (W0 : Int) (uv tv : Value) (us : List Int) (ts : List Tm.Task), cs = #[.int .i64 W0, uv, tv] ∧ SlIm W uv us ∧ SlTk W tv ts ∧ ∀ x ∈ ts, x.name.size ≤ 9223372036854775807 := by
  obtain ⟨fuel, hf⟩ := h
  have c3 : Tryz.prog.cellsOf TSet = 3 := by kernel_rfl
  rw [c3] at hcs
  have h2 : DataW.trod enc Tryz.prog W 0 (fun _ => true) true fuel TSet cs.toList = some (d, ps) := by simpa [Value.cells] using hf
  obtain ⟨l, rfl⟩ : ∃ l : List Value, cs = l.toArray := ⟨cs.toList, by simp⟩
  have hlen : l.length = 3 := by simpa using hcs
  simp only [List.toList_toArray] at h2
  obtain ⟨xs, k, hk, hxy, _, hxl, hfl⟩ := DataW.trod_struct Tryz.underlying54 h2
  match xs, hxl, l, hlen with
  | [y0, y1, y2], _, [v0, v1, v2], _ =>
    have g0 := hfl 0 _ rfl
    have g1 := hfl 1 _ rfl
    have g2 := hfl 2 _ rfl
    have cI : Tryz.prog.cellsOf 3 = 1 := by kernel_rfl
    have cU : Tryz.prog.cellsOf 22 = 1 := by kernel_rfl
    have cT : Tryz.prog.cellsOf 23 = 1 := by kernel_rfl
    simp [cI] at g0
    simp [cU] at g1
    simp [cT] at g2
    obtain ⟨k0, e0, _, w0⟩ := DataW.trod_int Tryz.underlying3 g0
    obtain ⟨u, us, e1, s1, _⟩ := SlIm.ofTrod2 g1
    obtain ⟨t, ts, e2, s2, n2⟩ := SlTk.ofTrod2 g2
    simp only [List.cons.injEq, and_true] at e0 e1 e2
    subst e0 e1 e2
    exact ⟨k0, v1, v2, us, ts, rfl, s1, s2, n2⟩
end Go.Proofs.YtnkjjhenfhnajaaGreatDoor
