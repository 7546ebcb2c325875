/-
  What reads; adding to a table that stands beside others.
-/
import Derived.Test.YtdjgijndcjbpiaaGreatDoorG13
import Derived.Test.YtdjgijndcjbpiaaGreatDoorG13
import Derived.Laws.StructEq
namespace Go.Proofs.YtdjgijndcjbpiaaGreatDoor
open Go.RowKit Go.Kw Go.Kreg Go.Tm
set_option linter.unusedSimpArgs false
set_option linter.unusedVariables false

/-- A slice value that reads as these cells, n elements. -/
def RdS (w : World) (v : Value) (n sz : Nat) (cs : List Value) : Prop :=
  ∃ ao c, v = .slice ao n c ∧ n ≤ 9223372036854775807 ∧ cs.length = n * sz ∧ ∀ (j : Nat) u, cs[j]? = some u → ∃ b o, ao = some ⟨b, o, none⟩ ∧ w.cell? ⟨b, o + j, none⟩ = some u
theorem RdS.new {w w' : World} {v : Value} {n sz : Nat} {cs : List Value} (h : RdS w v n sz cs) (hk : Keeps (fun _ => False) w w') : RdS w' v n sz cs := by
  obtain ⟨ao, c, h1, h2, h3, h4⟩ := h
  refine ⟨ao, c, h1, h2, h3, fun j u hj => ?_⟩
  obtain ⟨b, o, e, hc⟩ := h4 j u hj
  exact ⟨b, o, e, cellIn hk hc⟩
theorem RdS.blk {w : World} {b n sz : Nat} {T : TypeId} {cs : List Value} (h : Blk w b T cs) (hn : n ≤ 9223372036854775807) (hl : cs.length = n * sz) : RdS w (.slice (some ⟨b, 0, none⟩) n n) n sz cs :=
  ⟨_, _, rfl, hn, hl, fun j u hj => ⟨b, 0, rfl, by rw [Nat.zero_add]; exact h.at hj⟩⟩
theorem RdS.own {w : World} {T : TypeId} {v : Value} {n sz : Nat} {cs : List Value} (h : Own w T sz v n cs) (hn : n ≤ 9223372036854775807) : RdS w v n sz cs := by
  obtain ⟨ao, c, rfl, _⟩ := h.shape
  refine ⟨ao, c, rfl, hn, h.1, fun j u hj => ?_⟩
  have hpos : 0 < n := by
    rcases Nat.eq_zero_or_pos n with h0 | h0
    · have := (List.getElem?_eq_some_iff.1 hj).1
      rw [h.1, h0, Nat.zero_mul] at this; omega
    · exact h0
  obtain ⟨g, cap, e, _⟩ := h.form hpos
  cases e
  exact ⟨g, 0, rfl, by rw [Nat.zero_add]; exact h.cells' (g := g) rfl hj⟩
theorem addYes {m : TM} {x : Task} (h : m.check x = 0) : m.add x = ((m.ts.length : Int), 0, ⟨m.words, m.units, m.ts ++ [x]⟩) := by
  unfold TM.add; rw [if_neg (by simp [h])]
theorem addSt {W w w0 : World} {F0 : Nat → Prop} {cs : List Ch} {p : Nat} {m m' : TM} {n e : Int} (hG : Glob W) (hS : St F0 w0 (glC W :: tabC p m :: cs) w) (x : Task) {nd : Value} (hv : SlNd w nd x.needs) (hb : big x.frame) (ha : m.add x = (n, e, m')) :
    Calls Tryz.prog 27 #[.pointer (some ⟨p, 0, none⟩), taskV x nd] w fun r w' => r = .returned (.tuple #[.int .i64 n, .int .i64 e]) ∧ St F0 w0 (glC W :: tabC p m' :: cs) w' := by
  obtain ⟨F1, g1, _, _, bk⟩ := hS.sel [0, 1]
  have g2 : Sts [glC W, tabC p m] F1 w := g1
  refine (add_any hG g2 x hv hb).mono fun r w' ⟨h1, h2⟩ => ⟨?_, ?_⟩
  · rw [h1, ha]
  · rw [ha] at h2; exact bk h2
theorem newOk {w w1 : World} {F0 : Nat → Prop} {w0 : World} {words : Int} {us : List Int} (h : begins words us = 0) {cs : List Ch} (hS : St F0 w0 cs w) {e : Ending}
    (hn : (begins words us ≠ 0 ∧ e = .returned (.tuple #[.pointer none, .int .i64 (begins words us)]) ∧ Keeps (fun _ => False) w w1) ∨ (begins words us = 0 ∧ ∃ p, e = .returned (.tuple #[.pointer (some ⟨p, 0, none⟩), .int .i64 0]) ∧ St (fun _ => False) w [tabC p ⟨words, us, []⟩] w1)) :
    ∃ p, e = .returned (.tuple #[.pointer (some ⟨p, 0, none⟩), .int .i64 0]) ∧ St F0 w0 (cs ++ [tabC p ⟨words, us, []⟩]) w1 := by
  rcases hn with ⟨h0, _⟩ | ⟨_, p, he, hS1⟩
  · exact absurd h h0
  · exact ⟨p, he, hS.adds hS1⟩

end Go.Proofs.YtdjgijndcjbpiaaGreatDoor
