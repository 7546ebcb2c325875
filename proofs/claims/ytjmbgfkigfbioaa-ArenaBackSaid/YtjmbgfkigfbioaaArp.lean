/-
  Plain laws on the arena's data, for the statements of layer 2.
-/
import Derived.Test.YtjmbgfkigfbioaaArm
namespace Go
namespace Arm

theorem push_keep (n hi z : Nat) (init : List Fr) (laid : List Int) (v : Int) : ∃ laid', (AM.push ⟨n, init ++ [⟨z, laid⟩], hi⟩ v).2 = ⟨n, init ++ [⟨z, laid'⟩], hi⟩ := by
  unfold AM.push
  simp only [List.getLast?_append, List.getLast?_singleton, Option.some_or]
  split
  · exact ⟨laid, rfl⟩
  · exact ⟨laid ++ [v], by simp⟩
theorem pop_keep (n hi z : Nat) (init : List Fr) (laid : List Int) : ∃ laid', (AM.pop ⟨n, init ++ [⟨z, laid⟩], hi⟩).2.2 = ⟨n, init ++ [⟨z, laid'⟩], hi⟩ := by
  unfold AM.pop
  simp only [List.getLast?_append, List.getLast?_singleton, Option.some_or]
  split
  · exact ⟨laid, rfl⟩
  · exact ⟨laid.dropLast, by simp⟩

theorem words_out {n hi z : Nat} {init : List Fr} {laid : List Int} (hok : AM.ok ⟨n, init ++ [⟨z, laid⟩], hi⟩) {k : Nat} (h : k < sizes init ∨ sizes init + z ≤ k) :
    (AM.words ⟨n, init ++ [⟨z, laid⟩], hi⟩)[k]? = (AM.words ⟨n, init ++ [⟨z, []⟩], hi⟩)[k]? := by
  have hl : (rows init).length = sizes init := rows_len fun g hg => hok.laid_le g (by simp [hg])
  have hz := hok.laid_le ⟨z, laid⟩ (by simp)
  have r1 := row_len hz
  have r2 : (Fr.row ⟨z, []⟩).length = z := by simp [Fr.row]
  simp only at hz r1
  rw [words_last, words_last]
  by_cases h1 : k < sizes init
  · rw [List.getElem?_append_left (by omega), List.getElem?_append_left (by omega)]
  · rw [List.getElem?_append_right (by omega), List.getElem?_append_right (by omega), List.getElem?_append_right (by omega), List.getElem?_append_right (by omega), r1, r2]
theorem words_in {n hi z : Nat} {init : List Fr} {laid : List Int} (hok : AM.ok ⟨n, init ++ [⟨z, laid⟩], hi⟩) {k : Nat} (h1 : sizes init ≤ k) (h2 : k < sizes init + z) :
    (AM.words ⟨n, init ++ [⟨z, laid⟩], hi⟩)[k]? = if k - sizes init < laid.length then laid[k - sizes init]? else some 0 := by
  have hl : (rows init).length = sizes init := rows_len fun g hg => hok.laid_le g (by simp [hg])
  have hz := hok.laid_le ⟨z, laid⟩ (by simp)
  have r1 := row_len hz
  simp only at hz r1
  rw [words_last, List.getElem?_append_right (by omega), hl, List.getElem?_append_left (by omega)]
  unfold Fr.row
  split
  · rw [List.getElem?_append_left (by assumption)]
  · simp only []
    rw [List.getElem?_append_right (by omega), List.getElem?_replicate, if_pos (by omega)]
end Arm
end Go
