/-
  keelkeep.Bounds and Make, walked.
-/
import Derived.Test.YtnkjjhenfhnajaaDoorUt
import Derived.Test.YtnkjjhenfhnajaaDoorG26
namespace Go.Proofs.YtnkjjhenfhnajaaDoor
open Go.RowKit Go.Kw Go.Kreg Go.Tm
set_option linter.unusedSimpArgs false
set_option linter.unusedVariables false

abbrev zSet : List Value := [.int .i64 0, .slice none 0 0, .slice none 0 0]
/-- A slice value that reads as these numbers, of any length. -/
def SlIm (w : World) (v : Value) (l : List Int) : Prop :=
  ∃ ao c, v = .slice ao l.length c ∧ l.length ≤ 9223372036854775807 ∧ l.length ≤ c ∧ c ≤ maxLen ∧ ∀ (j : Nat) x, l[j]? = some x → ∃ b o, ao = some ⟨b, o, none⟩ ∧ w.cell? ⟨b, o + j, none⟩ = some (.int .i64 x)
theorem SlIm.new {w w' : World} {v : Value} {l : List Int} (h : SlIm w v l) (hk : Keeps (fun _ => False) w w') : SlIm w' v l := by
  obtain ⟨ao, c, h1, h2, h3, h4, h5⟩ := h
  refine ⟨ao, c, h1, h2, h3, h4, fun j x hj => ?_⟩
  obtain ⟨b, o, e, hc⟩ := h5 j x hj
  exact ⟨b, o, e, cellIn hk hc⟩
/-- Tasks kept beside: their needs read as they came in. -/
structure KeptB (w : World) (ts : List Task) (nds : List Value) : Prop where
  len : nds.length = ts.length
  each : ∀ (k : Nat) x, ts[k]? = some x → ∃ na nc, nds[k]? = some (.slice na x.needs.length nc) ∧ SlNd w (.slice na x.needs.length nc) x.needs ∧ big x.level ∧ big x.frame ∧ big x.period ∧ big x.first ∧ big x.gap
theorem KeptB.nil (w : World) : KeptB w [] [] := ⟨rfl, fun k x h => by simp at h⟩
theorem KeptB.add {w : World} {ts : List Task} {nds : List Value} (h : KeptB w ts nds) {x : Task} {na : Option Addr} {nc : Nat} (hn : SlNd w (.slice na x.needs.length nc) x.needs) (hb : big x.level ∧ big x.frame ∧ big x.period ∧ big x.first ∧ big x.gap) : KeptB w (ts ++ [x]) (nds ++ [.slice na x.needs.length nc]) := by
  refine ⟨by simp [h.len], fun k y hk => ?_⟩
  by_cases hlt : k < ts.length
  · rw [List.getElem?_append_left hlt] at hk
    obtain ⟨a, c, h1, h2⟩ := h.each k y hk
    exact ⟨a, c, by rw [List.getElem?_append_left (by rw [h.len]; exact hlt)]; exact h1, h2⟩
  · rw [List.getElem?_append_right (by omega)] at hk
    have hk0 : k = ts.length := by
      have := (List.getElem?_eq_some_iff.1 hk).1
      simp at this; omega
    subst hk0
    simp at hk; subst hk
    exact ⟨na, nc, by rw [List.getElem?_append_right (by rw [h.len]; exact Nat.le_refl _), h.len]; simp, hn, hb⟩
theorem tasksVB_app : ∀ {l : List Task} {nds : List Value} (x : Task) (nd : Value), nds.length = l.length → tasksV (l ++ [x]) (nds ++ [nd]) = tasksV l nds ++ [.string x.name, .int .i64 x.level, .int .i64 x.frame, nd, .string x.code, .int .i64 x.period, .int .i64 x.first, .int .i64 x.gap]
  | [], [], x, nd, _ => by simp [tasksV]
  | y :: l, md :: nds, x, nd, h => by
    simp only [List.cons_append, tasksV]
    rw [tasksVB_app x nd (by simpa using h)]
    simp
theorem taskB_one (x : Task) (na : Option Addr) (nc : Nat) : ∀ u ∈ [.string x.name, .int .i64 x.level, .int .i64 x.frame, .slice na x.needs.length nc, .string x.code, .int .i64 x.period, .int .i64 x.first, .int .i64 x.gap], Value.oneCell' u = true := by
  intro u hu; simp only [List.mem_cons, List.not_mem_nil, or_false] at hu; rcases hu with rfl | rfl | rfl | rfl | rfl | rfl | rfl | rfl <;> rfl
theorem SlTk.of_own {w w' : World} {v : Value} {ts : List Task} {nds : List Value} (ho : Own w' TTk 8 v ts.length (tasksV ts nds)) (hk : KeptB w ts nds) (hw : Keeps (fun _ => False) w w') (hl : ts.length ≤ 1000000) : SlTk w' v ts := by
  rcases id ho.2 with ⟨rfl, h0⟩ | ⟨g, cap, cur, rfl, hb, hh, hn, hm, hs, ht⟩
  · have : ts = [] := List.length_eq_zero_iff.1 h0
    subst this
    exact ⟨none, 0, rfl, by simp, by simp, by simp [maxLen], fun j x hj => by simp at hj⟩
  · refine ⟨_, _, rfl, by omega, hn, hm, fun j x hj => ?_⟩
    obtain ⟨na, nc, h1, h2, h3⟩ := hk.each j x hj
    have ha := tasksV_at hj h1
    refine ⟨g, 0, _, rfl, ?_, h2.new hw, h3⟩
    have key : ∀ (i : Nat) u, i < 8 → [.string x.name, .int .i64 x.level, .int .i64 x.frame, .slice na x.needs.length nc, .string x.code, .int .i64 x.period, .int .i64 x.first, .int .i64 x.gap][i]? = some u → w'.cell? ⟨g, 0 + j * 8 + i, none⟩ = some u := fun i u hi hu => by
      rw [Nat.zero_add]
      exact ho.cells' (g := g) rfl ((ha i hi).trans hu)
    exact ⟨key 0 _ (by omega) rfl, key 1 _ (by omega) rfl, key 2 _ (by omega) rfl, key 3 _ (by omega) rfl, key 4 _ (by omega) rfl, key 5 _ (by omega) rfl, key 6 _ (by omega) rfl, key 7 _ (by omega) rfl⟩
section
variable {w : World}
end
theorem cellsB {w : World} {ts : List Task} {nds : List Value} {g cap : Nat} (ho : Own w TTk 8 (.slice (some ⟨g, 0, none⟩) ts.length cap) ts.length (tasksV ts nds)) {k : Nat} {x : Task} {nd : Value} (hx : ts[k]? = some x) (hn : nds[k]? = some nd) : TkAt w g (k * 8) nd x := by
  have ha := tasksV_at hx hn
  have key : ∀ (j : Nat) u, j < 8 → [.string x.name, .int .i64 x.level, .int .i64 x.frame, nd, .string x.code, .int .i64 x.period, .int .i64 x.first, .int .i64 x.gap][j]? = some u → w.cell? ⟨g, k * 8 + j, none⟩ = some u := fun j u hj hu => ho.cells' (g := g) rfl ((ha j hj).trans hu)
  exact ⟨key 0 _ (by omega) rfl, key 1 _ (by omega) rfl, key 2 _ (by omega) rfl, key 3 _ (by omega) rfl, key 4 _ (by omega) rfl, key 5 _ (by omega) rfl, key 6 _ (by omega) rfl, key 7 _ (by omega) rfl⟩
section
variable {W w : World} {F : Nat → Prop}
end
end Go.Proofs.YtnkjjhenfhnajaaDoor
