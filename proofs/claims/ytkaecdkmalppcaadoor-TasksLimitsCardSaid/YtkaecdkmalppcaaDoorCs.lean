/-
  Package code, walked: a step, and who is told of it.
-/
import Derived.Test.YtkaecdkmalppcaaDoorCk
namespace Go.Proofs.YtkaecdkmalppcaaDoor
open Go.RowKit Go.Kw Go.Kreg Go.Cm

abbrev TWk : Nat := 119
def tellV : Option Nat → Value
  | none => .nilFunc
  | some cb => .func (.func 47) #[] #[.pointer (some ⟨cb, 0, none⟩)]
def tellC (t : Option Nat) (out : List Cm.Op) : Ch := match t with
  | none => .emp
  | some cb => .ex fun lv => .stars [.pt cb TOps [lv], .row TOp 4 lv out.length (opsC out)]

theorem neq_nil (w : World) : (binOp .neq 103 .nilFunc .nilFunc).run Tryd.prog w = .ok (.bool false) w := by
  have h : ∀ d : Nat, (Op.equalIn (d + 1) 103 .nilFunc .nilFunc).run Tryd.prog w = .ok true w := fun d => by
    simp [Op.equalIn, run_underlying Tryd.underlying103]
  simp only [binOp]
  simp [Op.equal, Op.maxDepth, h 9999]
theorem neq_fn (w : World) (c : Fn) (a b : Array Value) : (binOp .neq 103 (.func c a b) .nilFunc).run Tryd.prog w = .ok (.bool true) w := by
  have h : ∀ d : Nat, (Op.equalIn (d + 1) 103 (.func c a b) .nilFunc).run Tryd.prog w = .ok false w := fun d => by
    simp [Op.equalIn, run_underlying Tryd.underlying103]
  simp only [binOp]
  simp [Op.equal, Op.maxDepth, h 9999]

section
variable {w : World} {F : Nat → Prop}

set_option maxRecDepth 100000 in
set_option maxHeartbeats 1000000 in
theorem closure_any {cb : Nat} {out : List Cm.Op} (o : Cm.Op) (h : (tellC (some cb) out).holds F w) (hout : out.length ≤ 4096) :
    Calls Tryd.prog 47 #[opV o, .pointer (some ⟨cb, 0, none⟩)] w fun e w' => e = .returned (.tuple #[]) ∧ St F w [tellC (some cb) (out ++ [o])] w' := by
  obtain ⟨lv, h⟩ := h
  have hS := ((St.of h).new TOp (opC o)).new TOp (opC o)
  rw [show (w.alloc (.cells (opC o).toArray TOp)).heap.size = w.heap.size + 1 by simp] at hS
  simp only [Kw.red] at hS
  have hne : (Value.ownBlock lv) ≠ some cb := (hS.own 1).neT (hS.blk 0) (by decide)
  have HS := hid hS
  have hcbl := (St.of h).blk 0
  have hcb : cb < w.heap.size := hcbl.lt
  have c0' := hcbl.cell 0
  have cz' := hcbl.fz
  simp only [List.getElem?_cons_zero] at c0'
  unfold opV
  clear h hS hcbl
  go_enter Tryd.func47, Tryd.ntmps47
  go_wp2_with (at_builtin; refine wpList_appS 1 3 _ _ TOps TOp (.agg #[.int .i64 0, .int .i64 0, .int .i64 0, .int .i64 0]) 4 32 infoOp Tryd.underlying48 rfl (by decide) rfl rfl HS.out rfl rfl rfl rfl rfl (by intro u hu; simp only [opC, List.mem_cons, List.not_mem_nil, or_false] at hu; rcases hu with rfl | rfl | rfl | rfl <;> rfl) (by omega) (by unfold maxLen; omega) (by omega) ?_; intro g gc w7 hSc hat; have d0 := (hSc.blk 0).cell 0; have dz := (hSc.blk 0).fz; simp only [List.getElem?_cons_zero] at d0)
  go_end0
  refine ⟨rfl, ?_⟩
  have hSd := hSc.set 0 0 (.slice (some ⟨g, 0, none⟩) (out.length + 1) gc)
  simp only [Kw.red] at hSd
  refine (hSd.fold [0, 1] (tellC (some cb) (out ++ [o])) (fun F h => ⟨.slice (some ⟨g, 0, none⟩) (out.length + 1) gc, ?_⟩)).sub [0]
  show Sts _ F _
  rw [show opsC (out ++ [o]) = opsC out ++ opC o by simp [opsC], List.length_append]
  exact h

set_option maxRecDepth 100000 in
set_option maxHeartbeats 1000000 in
theorem step_any {wb : Nat} {t : Option Nat} {out : List Cm.Op} {pv ev : Value} {ovr : Bool} (o : Cm.Op) (h : Sts [.pt wb TWk [pv, .int .i64 out.length, .bool ovr, ev, tellV t], tellC t out] F w) (hout : out.length ≤ 4096) :
    Calls Tryd.prog 57 #[.pointer (some ⟨wb, 0, none⟩), opV o] w fun e w' => e = .returned (.bool (decide ((Cm.step o out).2 ≠ .long))) ∧
      St F w [.pt wb TWk [pv, .int .i64 (Cm.step o out).1.length, .bool (ovr || decide ((Cm.step o out).2 = .long)), ev, tellV t], tellC t (Cm.step o out).1] w' := by
  have h0 := (St.of h).blk 0
  have HS := hid (St.of h)
  have hwb : wb < w.heap.size := h0.lt
  obtain ⟨c0, c1, c2, c3, c4, cz⟩ : w.cell? ⟨wb, 0, none⟩ = some pv ∧ w.cell? ⟨wb, 1, none⟩ = some (.int .i64 out.length) ∧ w.cell? ⟨wb, 2, none⟩ = some (.bool ovr) ∧ w.cell? ⟨wb, 3, none⟩ = some ev ∧ w.cell? ⟨wb, 4, none⟩ = some (tellV t) ∧ (∀ o, w.frozen? ⟨wb, o, none⟩ = false) := ⟨h0.cell 0, h0.cell 1, h0.cell 2, h0.cell 3, h0.cell 4, h0.fz⟩
  unfold opV
  clear h h0
  by_cases hl : out.length = 4096
  · have b1 : ((out.length : Int) == 4096) = true := by simp; omega
    have hst : Cm.step o out = (out, .long) := by unfold Cm.step; rw [if_pos hl]
    rw [hst]
    have hS1 := (HS.out.set 0 2 (.bool true)).step ((Keeps.refl _ _).alloc (.cells (opC o).toArray TOp))
    simp only [Kw.red] at hS1
    have HS1 := hid hS1
    clear hst hl hS1
    go_enter Tryd.func57, Tryd.ntmps57
    go_wp2_with fail
    go_ret
    refine ⟨rfl, ?_⟩
    have q := HS1.out
    simp only [opC] at q
    simpa using q
  · have b1 : ((out.length : Int) == 4096) = false := by simp; omega
    have hst : Cm.step o out = (out ++ [o], if o.kind = 9 then .done else .go) := by unfold Cm.step; rw [if_neg hl]
    have hn : (Cm.step o out).2 ≠ .long := by rw [hst]; simp only []; split <;> simp
    have e1 : decide ((Cm.step o out).2 ≠ .long) = true := by simpa using hn
    have e2 : decide ((Cm.step o out).2 = .long) = false := by simpa using hn
    rw [e1, e2, hst, Bool.or_false]
    simp only [List.length_append, List.length_singleton]
    have hS1 := (HS.out.set 0 1 (.int .i64 ((out.length : Int) + 1))).step ((Keeps.refl _ _).alloc (.cells (opC o).toArray TOp))
    simp only [Kw.red] at hS1
    have HS1 := hid hS1
    have hlt : out.length < 4096 := by omega
    clear hst hl hS1 hn e1 e2
    cases t with
    | none =>
      simp only [tellV] at *
      have hF := HS1.out.imp 1 (tellC none (out ++ [o])) (fun F h => h)
      simp only [Kw.red] at hF
      have HF := hid hF
      clear hF
      have hneq := fun w => neq_nil w
      go_enter Tryd.func57, Tryd.ntmps57
      go_wp2_with fail
      go_ret
      refine ⟨rfl, ?_⟩
      exact HF.out
    | some cb =>
      simp only [tellV] at *
      have hneq := fun w => neq_fn w (.func 47) #[] #[.pointer (some ⟨cb, 0, none⟩)]
      go_enter Tryd.func57, Tryd.ntmps57
      go_wp2_with fail
      refine wp_region_mix [true, true, true, true, true, false] 0 (fun _ => False) (by kernel_rfl) (by decide +kernel) ?_
      simp only [front, back, List.take_zero, List.drop_zero]
      repeat ((first | refine wpFront_load rfl ?_ | refine wpFront_other rfl ?_); (first | go_big_quiet_step (fail) | quiet_step (fail)); refine wpQuiet_nil ?_)
      refine wpFront_nil ?_
      simp only [wpSegs]
      go_wp2_with fail
      obtain ⟨F1, g1, _, _, back⟩ := (HS1.out.drewN 1).sel [1]
      have g1 := Sts.of_one g1
      refine (closure_any o g1 (by omega)).mono ?_
      rintro e w1 ⟨rfl, hS⟩
      have hS := back hS
      simp only [Kw.red] at hS
      have HS2 := hid hS
      clear hS back g1
      go_wp2_with fail
      refine NoPanic.normal ?_
      go_wp2_with fail
      go_ret
      refine ⟨rfl, ?_⟩
      exact HS2.out
end
end Go.Proofs.YtkaecdkmalppcaaDoor
