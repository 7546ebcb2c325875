/-
  Lists of tasks: how they read.
-/
import Derived.Test.YtkaecdkmalppcaaDoorTy
namespace Go.Proofs.YtkaecdkmalppcaaDoor
open Go.RowKit Go.Kw Go.Kreg Go.Tm

abbrev TTks : Nat := 35
def big (n : Int) : Prop := -9223372036854775808 ≤ n ∧ n ≤ 9223372036854775807
instance (n : Int) : Decidable (big n) := by unfold big; infer_instance
/-- The cells of a task at this place. -/
def TkAt (w : World) (b o : Nat) (nd : Value) (x : Task) : Prop :=
  w.cell? ⟨b, o, none⟩ = some (.string x.name) ∧ w.cell? ⟨b, o + 1, none⟩ = some (.int .i64 x.level) ∧ w.cell? ⟨b, o + 2, none⟩ = some (.int .i64 x.frame) ∧ w.cell? ⟨b, o + 3, none⟩ = some nd ∧
  w.cell? ⟨b, o + 4, none⟩ = some (.string x.code) ∧ w.cell? ⟨b, o + 5, none⟩ = some (.int .i64 x.period) ∧ w.cell? ⟨b, o + 6, none⟩ = some (.int .i64 x.first) ∧ w.cell? ⟨b, o + 7, none⟩ = some (.int .i64 x.gap)
/-- A slice value that reads as a list of tasks. -/
def SlTk (w : World) (v : Value) (l : List Task) : Prop :=
  ∃ ao c, v = .slice ao l.length c ∧ l.length ≤ 9223372036854775807 ∧ l.length ≤ c ∧ c ≤ maxLen ∧
    ∀ (j : Nat) x, l[j]? = some x → ∃ b o nd, ao = some ⟨b, o, none⟩ ∧ TkAt w b (o + j * 8) nd x ∧ SlNd w nd x.needs ∧ big x.level ∧ big x.frame ∧ big x.period ∧ big x.first ∧ big x.gap
theorem TkAt.keeps {w w' : World} {b o : Nat} {nd : Value} {x : Task} {F : Nat → Prop} (h : TkAt w b o nd x) (hk : Keeps F w w') (hF : ¬ F b) : TkAt w' b o nd x := by
  have hb := hk.block b (World.block_lt_of_cell? w _ h.1) hF
  have key : ∀ (o : Nat) (u : Value), w.cell? ⟨b, o, none⟩ = some u → w'.cell? ⟨b, o, none⟩ = some u := fun o u h => (World.cell?_of_block (w := w) hb).trans h
  obtain ⟨h0, h1, h2, h3, h4, h5, h6, h7⟩ := h
  exact ⟨key _ _ h0, key _ _ h1, key _ _ h2, key _ _ h3, key _ _ h4, key _ _ h5, key _ _ h6, key _ _ h7⟩
/-- Outside what is new nothing turns. -/
theorem SlTk.newer {w w' : World} {v : Value} {l : List Task} {F : Nat → Prop} (h : SlTk w v l) (hk : Keeps F w w') (hF : ∀ b, F b → w.heap.size ≤ b) : SlTk w' v l := by
  obtain ⟨ao, c, rfl, hl, hlc, hcm, hx⟩ := h
  refine ⟨ao, c, rfl, hl, hlc, hcm, fun j x hj => ?_⟩
  obtain ⟨b, o, nd, rfl, h1, h2, h3⟩ := hx j x hj
  have hb : b < w.heap.size := World.block_lt_of_cell? w _ h1.1
  exact ⟨b, o, nd, rfl, h1.keeps hk fun hf => by have := hF _ hf; omega, h2.newer h2 hk hF, h3⟩
theorem SlTk.new {w w' : World} {v : Value} {l : List Task} (h : SlTk w v l) (hk : Keeps (fun _ => False) w w') : SlTk w' v l := h.newer hk fun _ => False.elim

def tasksV : List Task → List Value → List Value
  | x :: l, nd :: nds => [.string x.name, .int .i64 x.level, .int .i64 x.frame, nd, .string x.code, .int .i64 x.period, .int .i64 x.first, .int .i64 x.gap] ++ tasksV l nds
  | _, _ => []
theorem tasksV_at : ∀ {l : List Task} {nds : List Value} {i : Nat} {x : Task} {nd : Value}, l[i]? = some x → nds[i]? = some nd → ∀ j, j < 8 →
    (tasksV l nds)[i * 8 + j]? = [.string x.name, .int .i64 x.level, .int .i64 x.frame, nd, .string x.code, .int .i64 x.period, .int .i64 x.first, .int .i64 x.gap][j]?
  | u :: l, y :: nds, 0, x, nd, h, k, j, hj => by
    obtain rfl : u = x := by simpa using h
    obtain rfl : y = nd := by simpa using k
    simp only [tasksV, Nat.zero_mul, Nat.zero_add]
    rw [List.getElem?_append_left (by simp; omega)]
  | u :: l, y :: nds, i + 1, x, nd, h, k, j, hj => by
    simp only [tasksV]
    rw [List.getElem?_append_right (by simp; omega), ← tasksV_at (l := l) (nds := nds) (by simpa using h) (by simpa using k) j hj]
    congr 1; simp; omega
  | [], _, i, x, nd, h, _, _, _ => by simp at h
  | _ :: _, [], i, x, nd, _, k, _, _ => by simp at k
theorem SlTk.of_blk {w : World} {b : Nat} {l : List Task} {nds : List Value} (hb : Blk w b TTk (tasksV l nds)) (hl : l.length ≤ 1000000)
    (hn : ∀ (k : Nat) x, l[k]? = some x → (∃ nd, nds[k]? = some nd ∧ SlNd w nd x.needs) ∧ big x.level ∧ big x.frame ∧ big x.period ∧ big x.first ∧ big x.gap) : SlTk w (.slice (some ⟨b, 0, none⟩) l.length l.length) l := by
  refine ⟨_, _, rfl, by omega, Nat.le_refl _, by unfold maxLen; omega, fun j x hj => ?_⟩
  obtain ⟨⟨nd, hk, hs⟩, hbd⟩ := hn j x hj
  have ha := tasksV_at hj hk
  refine ⟨b, 0, nd, rfl, ?_, hs, hbd⟩
  rw [Nat.zero_add]
  exact ⟨hb.at (ha 0 (by omega)), hb.at (ha 1 (by omega)), hb.at (ha 2 (by omega)), hb.at (ha 3 (by omega)), hb.at (ha 4 (by omega)), hb.at (ha 5 (by omega)), hb.at (ha 6 (by omega)), hb.at (ha 7 (by omega))⟩
theorem SlNd.nil (w : World) : SlNd w (.slice none 0 0) [] := ⟨none, 0, rfl, by simp, by simp, by simp [maxLen], fun j x hj => by simp at hj, fun _ => rfl, by simp⟩
theorem SlNd.blk {w : World} {b : Nat} {l : List Need} (h : Blk w b TNd (needsC l)) (hl : l.length ≤ 1000000) (hb : ∀ x ∈ l, big x.res ∧ big x.units) : SlNd w (.slice (some ⟨b, 0, none⟩) l.length l.length) l :=
  ⟨_, _, rfl, by omega, Nat.le_refl _, by unfold maxLen; omega, fun j x hj => ⟨b, 0, rfl, by rw [Nat.zero_add]; exact h.at (needsC_at hj).1, by rw [Nat.zero_add]; exact h.at (needsC_at hj).2⟩, (fun e => by cases e), hb⟩
end Go.Proofs.YtkaecdkmalppcaaDoor
