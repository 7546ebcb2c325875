/-
  Package code, walked: Steps.
-/
import Derived.Test.YtkaecdkmalppcaaDoorCz
namespace Go.Proofs.YtkaecdkmalppcaaDoor
open Go.RowKit Go.Kw Go.Kreg Go.Cm

theorem playAll_ne (p : List Cm.Op) : (playAll p).2 ≠ .go := by
  show (thn (playS p []) (Cm.step Cm.finish)).2 ≠ .go
  generalize playS p [] = r
  obtain ⟨o, s⟩ := r
  cases s with
  | go =>
    rw [thn_go]
    by_cases hl : o.length = 4096
    · rw [step_full hl]; simp
    · rw [step_last hl rfl]; simp
  | done => rw [thn_no _ (by decide)]; simp
  | long => rw [thn_no _ (by decide)]; simp

section
variable {w : World} {F : Nat → Prop} {v : Value} {p : List Cm.Op}
set_option maxRecDepth 100000 in
set_option maxHeartbeats 1000000 in
theorem steps_any (h : Sts [.row TOp 4 v p.length (opsC p)] F w) (hc : (check p).2 = 0) (r : List Cm.Op × Stt) (hr : playAll p = r) :
    Calls Tryd.prog 38 #[v] w fun e w' => ∃ lv, e = .returned (.tuple #[lv, .int .i64 (walkR r).2]) ∧ St F w [.row TOp 4 v p.length (opsC p), if r.2 = .long then .pr (lv = .slice none 0 0) else .row TOp 4 lv r.1.length (opsC r.1)] w' := by
  have hn := count_any h hc
  rw [hr] at hn
  have HN := hid hn
  have HR := hid hr
  clear h hn hr
  go_enter Tryd.func38, Tryd.ntmps38
  go_wp2_with fail
  refine HN.out.mono ?_; rintro e w1 ⟨rfl, hS⟩
  have HS := hid hS
  clear hS HN
  obtain ⟨o, s⟩ := r
  cases s with
  | long =>
    simp only [walkR]
    go_wp2_with fail
    go_ret2
    exact ⟨.slice none 0 0, rfl, HS.out.add (Keeps.refl (fun _ => False) w1) (G := fun _ => False) (c := .pr (Value.slice none 0 0 = .slice none 0 0)) ⟨rfl, fun _ => id⟩ (fun _ h => h.elim)⟩
  | done =>
    simp only [walkR]
    have hol : o.length ≤ 4096 := by
      have := thn_len (playS_len p [] (by simp)) (f := Cm.step Cm.finish) fun o h => step_len h
      rw [show thn (playS p []) (Cm.step Cm.finish) = (o, .done) from HR.out] at this
      exact this
    go_wp2_with (at_make; refine wpList_mk _ _ TOps TOp (.agg #[.int .i64 0, .int .i64 0, .int .i64 0, .int .i64 0]) 4 32 infoOp Tryd.underlying48 rfl rfl .i64 .i64 _ o.length rfl rfl rfl (by omega) (by unfold maxLen; omega) ?_; intro w2 hown hk)
    have hSE := HS.out.add hk (G := fun b => (Value.slice (some ⟨w1.heap.size, 0, none⟩) 0 o.length).ownBlock = some b) (c := .row TOp 4 (.slice (some ⟨w1.heap.size, 0, none⟩) 0 o.length) 0 []) ⟨hown, fun _ => Iff.rfl⟩ (fun b hb => by simp only [Value.ownBlock, Option.some.injEq] at hb; omega)
    have hSF := hSE.new TOps [.slice (some ⟨w1.heap.size, 0, none⟩) 0 o.length]
    have hSG := (hSF.fold [2, 1] (tellC (some w2.heap.size) []) (fun F h => ⟨.slice (some ⟨w1.heap.size, 0, none⟩) 0 o.length, h⟩)).sub [0, 2]
    obtain ⟨F1, g1, _, _, back⟩ := hSG.sel [0, 1]
    have g2 : Sts [.row TOp 4 v p.length (opsC p), tellC (some w2.heap.size) []] F1 _ := g1
    refine (walk_any g2 hc).mono ?_; rintro e w3 ⟨rfl, hS⟩
    have hS := back hS
    simp only [Kw.red] at hS
    rw [HR.out] at hS
    obtain ⟨lv, hS⟩ := hS.opens 1 (fun lv => [.pt w2.heap.size TOps [lv], .row TOp 4 lv o.length (opsC o)]) (fun F h => h)
    have c0 := (hS.blk 2).cell 0
    have cz := (hS.blk 2).fz
    simp only [List.getElem?_cons_zero] at c0
    have HS3 := hid (show St F w [.row TOp 4 v p.length (opsC p), .row TOp 4 lv o.length (opsC o)] w3 from hS.sub [0, 3])
    clear hS back hSE hSF hSG g1 g2 HS hown hk
    go_wp2_with fail
    go_ret2
    refine ⟨lv, rfl, ?_⟩
    exact HS3.out
  | go => exact absurd (congrArg Prod.snd HR.out) (playAll_ne p)
end
end Go.Proofs.YtkaecdkmalppcaaDoor
