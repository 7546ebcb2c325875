/-
  Texts Rv Rw in one.
-/
import Derived.Test.YtnkjjhenfhnajaaGreatDoorG03
import Derived.Test.YtnkjjhenfhnajaaGreatDoorG08
import Derived.Test.YtnkjjhenfhnajaaGreatDoorG01
/-
  keelref3's run: a step, walked.
-/
namespace Go.Proofs.YtnkjjhenfhnajaaGreatDoor
open Go.RowKit Go.Kw Go.Kreg Go.Cm

abbrev TRun : Nat := 298
def isDone : Stt → Bool
  | .done => true
  | _ => false
def isLong : Stt → Bool
  | .long => true
  | _ => false
def runC (rb : Nat) (ov : Value) (out : List Cm.Op) (s : Stt) : List Ch :=
  [.pt rb TRun [ov, .bool (isDone s), .bool (isLong s)], .row TOp 4 ov out.length (opsC out)]
def runCh (rb : Nat) (out : List Cm.Op) (s : Stt) : Ch := .ex fun ov => .stars (runC rb ov out s)
theorem opC_one (o : Cm.Op) : ∀ u ∈ opC o, u.oneCell' = true := by
  intro u hu; simp only [opC, List.mem_cons, List.not_mem_nil, or_false] at hu; rcases hu with rfl | rfl | rfl | rfl <;> rfl

section
variable {w : World} {F : Nat → Prop}
set_option maxRecDepth 100000 in
set_option maxHeartbeats 4000000 in
theorem rstep_any {rb : Nat} {out : List Cm.Op} (o : Cm.Op) (h : Sts [runCh rb out .go] F w) (hout : out.length ≤ 4096) :
    Calls Tryz.prog 192 #[.pointer (some ⟨rb, 0, none⟩), opV o] w fun e w' => e = .returned (.tuple #[]) ∧ St F w [runCh rb (Cm.step o out).1 (Cm.step o out).2] w' := by
  obtain ⟨ov, hS0⟩ := (St.of h).opens 0 (runC rb · out .go) (fun F h => h)
  simp only [runC] at hS0
  simp only [Kw.red] at hS0
  simp only [isDone, isLong] at hS0
  have hS1 := hS0.new TOp (opC o)
  simp only [Kw.red] at hS1
  have h0 := hS0.blk 1
  obtain ⟨c0, c1, c2, cz⟩ := cells3 h0
  have hrl : rb < w.heap.size := h0.lt
  obtain ⟨oa, oc, rfl, -⟩ := (hS0.own 2).shape
  have HS0 := hid hS0
  have HS1 := hid hS1
  unfold opV
  clear h hS0 hS1 h0
  by_cases hl : out.length = 4096
  · have b1 : ((out.length : Int) == 4096) = true := beq_iff_eq.2 (by omega)
    rw [step_full hl]
    clear hl
    go_enter Tryz.func192, Tryz.ntmps192
    go_wp2_with fail
    refine bodyPost_ret (v := .tuple #[]) (by simp [results, Tryz.results192]) rfl ?_
    refine ⟨rfl, ?_⟩
    have hSd := (HS0.out.set 1 2 (.bool true)).step ((Keeps.refl _ _).alloc (.cells (opC o).toArray TOp))
    simp only [Kw.red] at hSd
    exact (hSd.fold [1, 2] (runCh rb out .long) (fun F h => ⟨.slice oa out.length oc, h⟩)).sub [1]
  · have b1 : ((out.length : Int) == 4096) = false := beq_false_of_ne (by omega)
    by_cases h9 : o.kind = 9
    · have e9 : (o.kind == 9) = true := by simpa using h9
      rw [step_last hl h9]
      clear hl h9
      go_enter Tryz.func192, Tryz.ntmps192
      go_wp2_with fail
      refine wp_region_mix [true, true, true, true, true, true, false, false, false, false, false] 1 (fun _ => False) (by kernel_rfl) (by decide +kernel) ?_
      simp only [front, back, List.take_succ_cons, List.take_zero, List.drop_succ_cons, List.drop_zero]
      repeat ((first | refine wpFront_load rfl ?_ | refine wpFront_other rfl ?_); (first | go_big_quiet_step (fail) | quiet_step (fail)); refine wpQuiet_nil ?_)
      refine wpFront_nil ?_
      simp only [wpSegs]
      go_wp2_with fail
      refine segQ_normal (((Keeps.refl _ _).alloc _).drew) ?_
      have hSb := (HS1.out.new TOp (opC o)).drew
      simp only [Kw.red] at hSb
      rw [show (w.alloc (.cells (opC o).toArray TOp)).heap.size = w.heap.size + 1 by simp] at hSb
      refine wpList_appS 2 4 _ _ TOps TOp (.agg #[.int .i64 0, .int .i64 0, .int .i64 0, .int .i64 0]) 4 32 infoOp Tryz.underlying133 rfl (by decide) rfl rfl hSb rfl rfl rfl rfl rfl (opC_one o) (by omega) (by unfold maxLen; omega) (by omega) ?_
      intro gb gc w7 hSc hat
      obtain ⟨d0, d1, d2, dz⟩ := cells3 (hSc.blk 1)
      obtain ⟨k0, k1, k2, k3, kz⟩ := cells4 (hSc.blk 3)
      clear c0 c1 c2 cz
      go_wp2_with fail
      refine NoPanic.normal ?_
      go_wp2_with fail
      go_end0
      refine ⟨rfl, ?_⟩
      have hSd := (hSc.set 1 0 (.slice (some ⟨gb, 0, none⟩) (out.length + 1) gc)).set 1 1 (.bool true)
      simp only [Kw.red] at hSd
      simp only [List.set_cons_zero, List.set_cons_succ] at hSd
      have q1 := fun (F : Nat → Prop) (w : World) (h : Sts (runC rb (.slice (some ⟨gb, 0, none⟩) (out.length + 1) gc) (out ++ [o]) .done) F w) => (show (runCh rb (out ++ [o]) .done).holds F w from ⟨_, h⟩)
      unfold runC at q1
      rw [show opsC (out ++ [o]) = opsC out ++ opC o by simp [opsC], List.length_append, List.length_singleton] at q1
      exact (hSd.fold [1, 2] (runCh rb (out ++ [o]) .done) (fun F h => q1 F _ h)).sub [1]
    · have e9 : (o.kind == 9) = false := by simpa using h9
      rw [step_room hl h9]
      clear hl h9
      go_enter Tryz.func192, Tryz.ntmps192
      go_wp2_with fail
      refine wp_region_mix [true, true, true, true, true, true, false, false, false, false, false] 1 (fun _ => False) (by kernel_rfl) (by decide +kernel) ?_
      simp only [front, back, List.take_succ_cons, List.take_zero, List.drop_succ_cons, List.drop_zero]
      repeat ((first | refine wpFront_load rfl ?_ | refine wpFront_other rfl ?_); (first | go_big_quiet_step (fail) | quiet_step (fail)); refine wpQuiet_nil ?_)
      refine wpFront_nil ?_
      simp only [wpSegs]
      go_wp2_with fail
      refine segQ_normal (((Keeps.refl _ _).alloc _).drew) ?_
      have hSb := (HS1.out.new TOp (opC o)).drew
      simp only [Kw.red] at hSb
      rw [show (w.alloc (.cells (opC o).toArray TOp)).heap.size = w.heap.size + 1 by simp] at hSb
      refine wpList_appS 2 4 _ _ TOps TOp (.agg #[.int .i64 0, .int .i64 0, .int .i64 0, .int .i64 0]) 4 32 infoOp Tryz.underlying133 rfl (by decide) rfl rfl hSb rfl rfl rfl rfl rfl (opC_one o) (by omega) (by unfold maxLen; omega) (by omega) ?_
      intro gb gc w7 hSc hat
      obtain ⟨d0, d1, d2, dz⟩ := cells3 (hSc.blk 1)
      obtain ⟨k0, k1, k2, k3, kz⟩ := cells4 (hSc.blk 3)
      clear c0 c1 c2 cz
      go_wp2_with fail
      refine NoPanic.normal ?_
      go_wp2_with fail
      go_end0
      refine ⟨rfl, ?_⟩
      have hSd := (hSc.set 1 0 (.slice (some ⟨gb, 0, none⟩) (out.length + 1) gc)).set 1 1 (.bool false)
      simp only [Kw.red] at hSd
      simp only [List.set_cons_zero, List.set_cons_succ] at hSd
      have q1 := fun (F : Nat → Prop) (w : World) (h : Sts (runC rb (.slice (some ⟨gb, 0, none⟩) (out.length + 1) gc) (out ++ [o]) .go) F w) => (show (runCh rb (out ++ [o]) .go).holds F w from ⟨_, h⟩)
      unfold runC at q1
      rw [show opsC (out ++ [o]) = opsC out ++ opC o by simp [opsC], List.length_append, List.length_singleton] at q1
      exact (hSd.fold [1, 2] (runCh rb (out ++ [o]) .go) (fun F h => q1 F _ h)).sub [1]
end
end Go.Proofs.YtnkjjhenfhnajaaGreatDoor

/-
  keelref3's run: a piece of a program, walked.
-/
namespace Go.Proofs.YtnkjjhenfhnajaaGreatDoor
open Go.RowKit Go.Kw Go.Kreg Go.Cm

theorem shut_seg {q : List Cm.Op} {i to : Nat} {o : Cm.Op} (ht : to ≤ q.length) (ho : q[i]? = some o) (hi : i < to) (h10 : o.kind = 10) (hb : bal (seg q i to) 0 = true) : i + shut (seg q i to) 0 = endE q i := by
  unfold endE
  rw [drop_seg q (Nat.le_of_lt hi) ht]
  rw [seg_cons ho hi] at hb ⊢
  rw [bal_10 _ _ h10] at hb
  obtain ⟨b, e, r, hp, he, hs, hb1, hr1⟩ := bal_shut _ 1 (by omega) hb
  rw [hp, List.cons_append, shut_10 _ 0 h10, shut_10 _ 0 h10, List.append_assoc, List.cons_append, hs, hs]
/-- The cells of an operation in a row, seen from a place of it. -/
theorem op_cells {w : World} {g cap a i : Nat} {q : List Cm.Op} {o : Cm.Op} (h : Own w TOp 4 (.slice (some ⟨g, 0, none⟩) q.length cap) q.length (opsC q)) (hx : q[a + i]? = some o) :
    w.cell? ⟨g, a * 4 + i * 4, none⟩ = some (.int .i64 o.kind) ∧ w.cell? ⟨g, a * 4 + i * 4 + 1, none⟩ = some (.int .i64 o.res) ∧ w.cell? ⟨g, a * 4 + i * 4 + 2, none⟩ = some (.int .i64 o.n) ∧ w.cell? ⟨g, a * 4 + i * 4 + 3, none⟩ = some (.int .i64 o.v) := by
  obtain ⟨x0, x1, x2, x3⟩ := opsC_at hx
  rw [Nat.add_mul] at x0 x1 x2 x3
  exact ⟨h.cells' (g := g) rfl x0, h.cells' (g := g) rfl x1, h.cells' (g := g) rfl x2, h.cells' (g := g) rfl x3⟩
def OpsRd (w : World) (ao : Option Addr) (l : List Cm.Op) : Prop := ∀ (j : Nat) o, l[j]? = some o → ∃ b k, ao = some ⟨b, k, none⟩ ∧ w.cell? ⟨b, k + j * 4, none⟩ = some (.int .i64 o.kind) ∧ w.cell? ⟨b, k + j * 4 + 1, none⟩ = some (.int .i64 o.res) ∧ w.cell? ⟨b, k + j * 4 + 2, none⟩ = some (.int .i64 o.n) ∧ w.cell? ⟨b, k + j * 4 + 3, none⟩ = some (.int .i64 o.v)
theorem seg_at {q : List Cm.Op} {a n j : Nat} (hj : j < n) : (seg q a (a + n))[j]? = q[a + j]? := by
  unfold seg
  rw [List.getElem?_drop, List.getElem?_take_of_lt (by omega)]
theorem OpsRd.seg {w : World} {g cap a n : Nat} {q : List Cm.Op} (h : Own w TOp 4 (.slice (some ⟨g, 0, none⟩) q.length cap) q.length (opsC q)) (hn : a + n ≤ q.length) : OpsRd w (some ⟨g, a * 4, none⟩) (Cm.seg q a (a + n)) := by
  intro j o hj
  have hl := (List.getElem?_eq_some_iff.1 hj).1
  rw [seg_len q hn] at hl
  rw [seg_at (by omega)] at hj
  exact ⟨g, a * 4, rfl, op_cells h hj⟩
theorem shut_step (o : Cm.Op) (p : List Cm.Op) (d m : Nat) (h : (if o.kind = 10 then d + 1 else if o.kind = 11 then d - 1 else d) = m) : shut (o :: p) d = if m = 0 then 0 else shut p m + 1 := by
  conv => lhs; unfold shut
  simp only [h]
section
variable {w : World} {l : List Cm.Op}
set_option maxRecDepth 100000 in
set_option maxHeartbeats 4000000 in
theorem shutR_any {ao : Option Addr} {c : Nat} (h : OpsRd w ao l) (hl : l.length ≤ 4096) (i : Nat) {o : Cm.Op} (ho : l[i]? = some o) (h10 : o.kind = 10) :
    Calls Tryz.prog 199 #[.slice ao l.length c, .int .i64 i] w fun e w' => e = .returned (.int .i64 ((i + shut (l.drop i) 0 : Nat) : Int)) ∧ w = w' := by
  generalize hR : i + shut (l.drop i) 0 = R
  have HR := hid hR
  have H := hid h
  have hil := (List.getElem?_eq_some_iff.1 ho).1
  have Ho := hid (And.intro ho h10)
  clear hR h ho h10
  go_enter Tryz.func199, Tryz.ntmps199
  go_wp2_with fail
  go_loopw [6, 5] (fun x y wr => ∃ (k d : Nat), x = .int .i64 k ∧ y = .int .i64 d ∧ k ≤ l.length ∧ d ≤ k ∧ (k = i ∧ d = 0 ∨ 0 < d) ∧ Hid (k + shut (l.drop k) d = R) ∧ w = wr) (fun x _ _ => l.length - (intOf x).toNat)
  case atStart => exact ⟨i, 0, rfl, rfl, by omega, by omega, .inl ⟨rfl, rfl⟩, HR, rfl⟩
  case round =>
    obtain ⟨k, d, rfl, rfl, hk, hdk, hd, HQ, rfl⟩ := hrel
    by_cases hlt : k < l.length
    · have b1 : decide (k < l.length) = true := by simpa using hlt
      have hx := List.getElem?_eq_getElem hlt
      have hdr : l.drop k = l[k] :: l.drop (k + 1) := List.drop_eq_getElem_cons hlt
      have hk10 : k = i → (l[k]).kind = 10 := fun e => by
        have := Ho.out.1
        rw [← e, hx] at this
        rw [Option.some.inj this]; exact Ho.out.2
      generalize l[k] = u at *
      obtain ⟨b, t, rfl, d0, d1, d2, d3⟩ := H.out k u hx
      have i0 : (0 : Int) ≤ (k : Int) := by omega
      have i1 : (k : Int) < (l.length : Int) := by omega
      have hq := HQ.out
      rw [hdr] at hq
      clear hx hdr HQ
      by_cases e10 : u.kind = 10
      · have c10 : (u.kind == 10) = true := by simpa using e10
        have c11 : (u.kind == 11) = false := beq_false_of_ne (by omega)
        rw [shut_step u _ d (d + 1) (by rw [if_pos e10]), if_neg (by omega)] at hq
        have Hq := hid hq
        have c0 : ((d : Int) + 1 == 0) = false := beq_false_of_ne (by omega)
        clear hq e10 hk10
        go_wp2_with fail
        go_roundw
        case rel => exact ⟨k + 1, d + 1, by go_num, by go_num, by omega, by omega, .inr (by omega), hid (by have := Hq.out; omega), by first | rfl | trivial⟩
        case measure => simp [intOf]; omega
      · have c10 : (u.kind == 10) = false := by simpa using e10
        have hd0 : 0 < d := by
          rcases hd with ⟨rfl, _⟩ | h
          · exact absurd (hk10 rfl) e10
          · exact h
        by_cases e11 : u.kind = 11
        · have c11 : (u.kind == 11) = true := by simpa using e11
          rw [shut_step u _ d (d - 1) (by rw [if_neg e10, if_pos e11])] at hq
          by_cases h1 : d = 1
          · subst h1
            rw [if_pos (by omega)] at hq
            have hRk : R = k := by omega
            have Hq := hid hRk
            clear hq e10 e11 hk10 hRk
            go_wp2_with fail
            go_ret
            refine ⟨?_, by first | rfl | trivial⟩
            rw [Hq.out]
            rfl
          · rw [if_neg (by omega)] at hq
            have Hq := hid hq
            have c0 : ((d : Int) - 1 == 0) = false := beq_false_of_ne (by omega)
            have c9 : (d : Int) - 1 = ((d - 1 : Nat) : Int) := by omega
            clear hq e10 e11 hk10
            go_wp2_with fail
            go_roundw
            case rel => exact ⟨k + 1, d - 1, by go_num, by go_num, by omega, by omega, .inr (by omega), hid (by have := Hq.out; omega), by first | rfl | trivial⟩
            case measure => simp [intOf]; omega
        · have c11 : (u.kind == 11) = false := by simpa using e11
          rw [shut_step u _ d d (by rw [if_neg e10, if_neg e11]), if_neg (by omega)] at hq
          have Hq := hid hq
          have c0 : ((d : Int) == 0) = false := beq_false_of_ne (by omega)
          clear hq e10 e11 hk10
          go_wp2_with fail
          go_roundw
          case rel => exact ⟨k + 1, d, by go_num, rfl, by omega, by omega, .inr (by omega), hid (by have := Hq.out; omega), by first | rfl | trivial⟩
          case measure => simp [intOf]; omega
    · have b1 : decide (k < l.length) = false := by simpa using hlt
      have hq := HQ.out
      rw [List.drop_eq_nil_of_le (by omega)] at hq
      have hRk : R = l.length := by unfold shut at hq; omega
      have Hq := hid hRk
      clear hq hRk
      go_wp2_with fail
      go_ret
      refine ⟨?_, by first | rfl | trivial⟩
      rw [Hq.out]
      rfl
end
end Go.Proofs.YtnkjjhenfhnajaaGreatDoor
