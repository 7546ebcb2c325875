/-
  Texts Be Bq Bg Bh in one.
-/
import Derived.Test.YtnkjjhenfhnajaaDoorG27
import Derived.Test.YtnkjjhenfhnajaaDoorG13
import Derived.Laws.StructEq
import Derived.Test.YtnkjjhenfhnajaaDoorG26
/-
  admit.rows and Sure, walked.
-/
namespace Go.Proofs.YtnkjjhenfhnajaaDoor
open Go.RowKit Go.Kw Go.Kreg Go.Tm Go.Ad
set_option linter.unusedSimpArgs false
set_option linter.unusedVariables false

/-- The first k rows of n are laid. -/
def rowsCe (m : TM) (k n : Nat) : List Value := (List.range (n * 256)).map fun i => .int .i64 (if i / 256 < k then m.rowF (i / 256 : Nat) (i % 256) else 0)
theorem rowsCe_len (m : TM) (k n : Nat) : (rowsCe m k n).length = n * 256 := by simp [rowsCe]
theorem rowsCe_get (m : TM) (k n : Nat) {i : Nat} (h : i < n * 256) : (rowsCe m k n)[i]? = some (.int .i64 (if i / 256 < k then m.rowF (i / 256 : Nat) (i % 256) else 0)) := by
  unfold rowsCe; rw [List.getElem?_map, List.getElem?_range h]; rfl
theorem rowsCe_at (m : TM) (n : Nat) {r f : Nat} (hr : r < n) (hf : f < 256) : (rowsCe m n n)[r * 256 + f]? = some (.int .i64 (m.rowF r f)) := by
  rw [rowsCe_get m n n (by omega), show (r * 256 + f) / 256 = r by omega, show (r * 256 + f) % 256 = f by omega, if_pos hr]
theorem rowsCe_zero (m : TM) (n : Nat) : rowsCe m 0 n = List.replicate (n * 256) (.int .i64 0) := by
  refine List.eq_replicate_iff.2 ⟨rowsCe_len m 0 n, fun u hu => ?_⟩
  obtain ⟨i, _, rfl⟩ := List.mem_map.1 hu
  rw [if_neg (by omega)]
set_option maxRecDepth 100000 in
theorem rowsCe_copy {m : TM} (hm : m.Ok) {k n : Nat} (hn : n = m.units.length) (hk : k < n) :
    (rowsCe m k n).take (k * 256) ++ intsC (m.ceilRow k) ++ (rowsCe m k n).drop (k * 256 + (intsC (m.ceilRow k)).length) = rowsCe m (k + 1) n := by
  have hh : m.has k := by unfold TM.has; omega
  have hub := unitsOf_bd hm hh
  have hlen : (intsC (m.ceilRow k)).length = (m.unitsOf k).toNat + 1 := by
    rw [intsC_len]; unfold TM.ceilRow; rw [if_pos hh]; simp
  rw [hlen]
  refine List.ext_getElem? fun i => ?_
  have hl := rowsCe_len m k n
  by_cases h1 : i < k * 256
  · rw [List.append_assoc, List.getElem?_append_left (by rw [List.length_take]; omega), List.getElem?_take, if_pos h1, rowsCe_get m k n (by omega), rowsCe_get m (k + 1) n (by omega), if_pos (by omega), if_pos (by omega)]
  · by_cases h2 : i < k * 256 + ((m.unitsOf k).toNat + 1)
    · rw [List.getElem?_append_left (by rw [List.length_append, List.length_take, hlen]; omega), List.getElem?_append_right (by rw [List.length_take]; omega), List.length_take, hl, Nat.min_eq_left (by omega)]
      rw [rowsCe_get m (k + 1) n (by omega), show i / 256 = k by omega, if_pos (by omega)]
      unfold TM.ceilRow TM.rowF
      rw [if_pos hh, if_pos hh]
      unfold intsC
      rw [List.map_map, List.getElem?_map, List.getElem?_range (by omega), show i - k * 256 = i % 256 by omega]
      rfl
    · rw [List.getElem?_append_right (by rw [List.length_append, List.length_take, hlen]; omega), List.length_append, List.length_take, hlen, hl, Nat.min_eq_left (by omega), List.getElem?_drop, show k * 256 + ((m.unitsOf k).toNat + 1) + (i - (k * 256 + ((m.unitsOf k).toNat + 1))) = i by omega]
      by_cases h3 : i < n * 256
      · rw [rowsCe_get m k n h3, rowsCe_get m (k + 1) n h3]
        by_cases h4 : i / 256 = k
        · rw [if_neg (by omega), if_pos (by omega), h4]
          unfold TM.rowF
          rw [if_pos hh]
          rw [ceil_all hm (by omega) (by omega)]
        · rw [if_neg (by omega), if_neg (by omega)]
      · rw [List.getElem?_eq_none (by omega), List.getElem?_eq_none (by rw [rowsCe_len]; omega)]
theorem wpList_copyT {P : Program} {w : World} {ops : Array Oper} {rest : List Oper} {op : Oper} {a : Act} {Q : Exit → Act → World → Prop} (d s : Operand) (dT sT elem T : TypeId)
    (hu : P.underlying dT = some (.slice elem)) (hs : (P.info? elem).map (·.size) = some 1) (hgd : op.guard = none) (ho : op.op = .call { callee := .builtin .copy, args := #[d, s], argTypes := #[dT, sT] })
    {b : Nat} {xs : List Value} (hb : Blk w b T xs) (o dLen dCap : Nat) (ad : Addr) (sLen sCap : Nat) (cs : List Value)
    (hd : a.eval d = .slice (some ⟨b, o, none⟩) dLen dCap) (hx : a.eval s = .slice (some ad) sLen sCap) (hn : cs.length = Nat.min sLen dLen)
    (hsrc : ∀ (j : Nat) v, cs[j]? = some v → w.cell? (ad.add j) = some v) (hfit : o + cs.length ≤ xs.length) (h1 : ∀ v ∈ cs, v.oneCell' = true)
    (h : ∀ w', Blk w' b T (xs.take o ++ cs ++ xs.drop (o + cs.length)) → Keeps (fun k => k = b) w w' → wpList P ops Q rest (a.put op.dst (goInt cs.length)) w') : wpList P ops Q (op :: rest) a w := by
  refine wpList_plain hgd fun K hK => ?_
  have hr := run_copy_row (P := P) w dT sT op.type elem b o dLen dCap ad sLen sCap xs.toArray T cs hu hs hb hn hsrc (by simpa using hfit) h1
  simp only [List.toList_toArray] at hr
  unfold Oper.wp execOp
  simp only [ho, resolve, invoke, builtin, Sem.run_bind, Sem.run_pure, Result.andThen_ok, List.map_toArray, List.map_cons, List.map_nil, hd, hx, hr]
  exact hK _ _ (h _ (hb.row _) ((Keeps.refl (fun k => k = b) w).setRow (.inl rfl) _))
theorem made_zero (k : Nat) : (madeCells (Value.agg (cellsF fun _ => 0).toArray).cells (k * 256)).toList = List.replicate (k * 256) (.int .i64 0) := by
  refine List.eq_replicate_iff.2 ⟨by simp [madeCells], fun u hu => ?_⟩
  unfold madeCells at hu
  rw [Array.toList_map, List.mem_map] at hu
  obtain ⟨i, _, rfl⟩ := hu
  have hsz : (Value.agg (cellsF fun _ => 0).toArray).cells.size = 256 := by simp [Value.cells, cellsF_len]
  have hlt : i % 256 < (cellsF fun _ => (0 : Int)).length := by rw [cellsF_len]; omega
  have h1 : (Value.agg (cellsF fun _ => 0).toArray).cells[i % 256]! = (cellsF fun _ => 0)[i % 256]'hlt := by
    show ((cellsF fun _ => 0).toArray)[i % 256]! = _
    rw [getElem!_pos _ _ (by simpa using hlt)]; simp
  show (Value.agg (cellsF fun _ => 0).toArray).cells[i % (Value.agg (cellsF fun _ => 0).toArray).cells.size]! = _
  rw [hsz, h1]
  have h2 := cellsF_at (fun _ => 0) (show i % 256 < 256 by omega)
  exact Option.some.inj ((List.getElem?_eq_getElem hlt).symm.trans h2)
section
variable {w : World} {p : Nat} {m : TM} {x : TabX}
end
theorem sureFrom_app (m : TM) (lev : Int) (l : List (Nat × Sec)) (p : Nat × Sec) : sureFrom m lev (l ++ [p]) = sureStep m lev (sureFrom m lev l) p := by
  unfold sureFrom; rw [List.foldl_append]; rfl
section
variable {w : World} {F : Nat → Prop} {p : Nat} {m : TM} {x : TabX}
end
theorem sure_eq (m : TM) (id : Int) : sure m id = sureFrom m ((levAt m.ts id).getD 0) (lowsId m.ts id) := by
  unfold sure sureL lowsId
  cases levAt m.ts id <;> rfl
abbrev zHit : List Value := [.int .i64 0, .int .i64 0, .int .i64 0]
section
variable {w : World} {p : Nat} {m : TM} {x : TabX}
end
end Go.Proofs.YtnkjjhenfhnajaaDoor

/-
  What reads; adding to a table that stands beside others.
-/
namespace Go.Proofs.YtnkjjhenfhnajaaDoor
open Go.RowKit Go.Kw Go.Kreg Go.Tm
set_option linter.unusedSimpArgs false
set_option linter.unusedVariables false

/-- A slice value that reads as these cells, n elements. -/
def RdS (w : World) (v : Value) (n sz : Nat) (cs : List Value) : Prop :=
  ∃ ao c, v = .slice ao n c ∧ n ≤ 9223372036854775807 ∧ cs.length = n * sz ∧ ∀ (j : Nat) u, cs[j]? = some u → ∃ b o, ao = some ⟨b, o, none⟩ ∧ w.cell? ⟨b, o + j, none⟩ = some u
theorem RdS.new {w w' : World} {v : Value} {n sz : Nat} {cs : List Value} (h : RdS w v n sz cs) (hk : Keeps (fun _ => False) w w') : RdS w' v n sz cs := by
  obtain ⟨ao, c, h1, h2, h3, h4⟩ := h
  refine ⟨ao, c, h1, h2, h3, fun j u hj => ?_⟩
  obtain ⟨b, o, e, hc⟩ := h4 j u hj
  exact ⟨b, o, e, cellIn hk hc⟩
theorem RdS.blk {w : World} {b n sz : Nat} {T : TypeId} {cs : List Value} (h : Blk w b T cs) (hn : n ≤ 9223372036854775807) (hl : cs.length = n * sz) : RdS w (.slice (some ⟨b, 0, none⟩) n n) n sz cs :=
  ⟨_, _, rfl, hn, hl, fun j u hj => ⟨b, 0, rfl, by rw [Nat.zero_add]; exact h.at hj⟩⟩
theorem RdS.own {w : World} {T : TypeId} {v : Value} {n sz : Nat} {cs : List Value} (h : Own w T sz v n cs) (hn : n ≤ 9223372036854775807) : RdS w v n sz cs := by
  obtain ⟨ao, c, rfl, _⟩ := h.shape
  refine ⟨ao, c, rfl, hn, h.1, fun j u hj => ?_⟩
  have hpos : 0 < n := by
    rcases Nat.eq_zero_or_pos n with h0 | h0
    · have := (List.getElem?_eq_some_iff.1 hj).1
      rw [h.1, h0, Nat.zero_mul] at this; omega
    · exact h0
  obtain ⟨g, cap, e, _⟩ := h.form hpos
  cases e
  exact ⟨g, 0, rfl, by rw [Nat.zero_add]; exact h.cells' (g := g) rfl hj⟩
theorem addYes {m : TM} {x : Task} (h : m.check x = 0) : m.add x = ((m.ts.length : Int), 0, ⟨m.words, m.units, m.ts ++ [x]⟩) := by
  unfold TM.add; rw [if_neg (by simp [h])]
theorem addSt {W w w0 : World} {F0 : Nat → Prop} {cs : List Ch} {p : Nat} {m m' : TM} {n e : Int} (hG : Glob W) (hS : St F0 w0 (glC W :: tabC p m :: cs) w) (x : Task) {nd : Value} (hv : SlNd w nd x.needs) (hb : big x.frame) (ha : m.add x = (n, e, m')) :
    Calls Tryd.prog 12 #[.pointer (some ⟨p, 0, none⟩), taskV x nd] w fun r w' => r = .returned (.tuple #[.int .i64 n, .int .i64 e]) ∧ St F0 w0 (glC W :: tabC p m' :: cs) w' := by
  obtain ⟨F1, g1, _, _, bk⟩ := hS.sel [0, 1]
  have g2 : Sts [glC W, tabC p m] F1 w := g1
  refine (add_any hG g2 x hv hb).mono fun r w' ⟨h1, h2⟩ => ⟨?_, ?_⟩
  · rw [h1, ha]
  · rw [ha] at h2; exact bk h2
theorem newOk {w w1 : World} {F0 : Nat → Prop} {w0 : World} {words : Int} {us : List Int} (h : begins words us = 0) {cs : List Ch} (hS : St F0 w0 cs w) {e : Ending}
    (hn : (begins words us ≠ 0 ∧ e = .returned (.tuple #[.pointer none, .int .i64 (begins words us)]) ∧ Keeps (fun _ => False) w w1) ∨ (begins words us = 0 ∧ ∃ p, e = .returned (.tuple #[.pointer (some ⟨p, 0, none⟩), .int .i64 0]) ∧ St (fun _ => False) w [tabC p ⟨words, us, []⟩] w1)) :
    ∃ p, e = .returned (.tuple #[.pointer (some ⟨p, 0, none⟩), .int .i64 0]) ∧ St F0 w0 (cs ++ [tabC p ⟨words, us, []⟩]) w1 := by
  rcases hn with ⟨h0, _⟩ | ⟨_, p, he, hS1⟩
  · exact absurd h h0
  · exact ⟨p, he, hS.adds hS1⟩

end Go.Proofs.YtnkjjhenfhnajaaDoor

/-
  keelbook.Same of sections; what is told of no table.
-/
namespace Go.Proofs.YtnkjjhenfhnajaaDoor
open Go.RowKit Go.Kw Go.Kreg Go.Tm Go.Ad
set_option linter.unusedSimpArgs false
set_option linter.unusedVariables false

theorem eqSe (w : World) (x y : Sec) : (Op.equalIn 10000 TSe (.agg #[.int .i64 x.res, .int .i64 x.units, .int .i64 x.held, .int .i64 x.frm, .int .i64 x.upto]) (.agg #[.int .i64 y.res, .int .i64 y.units, .int .i64 y.held, .int .i64 y.frm, .int .i64 y.upto])).run Tryd.prog w = .ok (decide (x = y)) w := by
  have hS : Tryd.prog.underlying TSe = some (.struct (Tryd.prog.fieldsOf TSe)) := by kernel_rfl
  have hp : Tryd.prog.stoodInHeld TSe = false := by kernel_rfl
  rw [show (10000 : Nat) = 9999 + 1 from rfl, run_equalIn_struct w 9999 TSe _ _ hS hp]
  simp only [Program.fieldsOf, Tryd.underlying97]
  obtain ⟨a, b, c, d, e⟩ := x
  obtain ⟨a', b', c', d', e'⟩ := y
  go_simp
  by_cases h1 : a = a' <;> by_cases h2 : b = b' <;> by_cases h3 : c = c' <;> by_cases h4 : d = d' <;> by_cases h5 : e = e' <;> simp [h1, h2, h3, h4, h5] <;> omega
theorem RdS.vec {w : World} {T : TypeId} {v : Value} {n sz : Nat} {cs : List Value} (h : Vec w T sz v n cs) (hn : n ≤ 9223372036854775807) : RdS w v n sz cs := by
  obtain ⟨ao, c, rfl, _⟩ := h.shape
  refine ⟨ao, c, rfl, hn, h.1, fun j u hj => ?_⟩
  have hpos : 0 < n := by
    rcases Nat.eq_zero_or_pos n with h0 | h0
    · have := (List.getElem?_eq_some_iff.1 hj).1
      rw [h.1, h0, Nat.zero_mul] at this; omega
    · exact h0
  obtain ⟨g, cap, e, _⟩ := h.form hpos
  cases e
  exact ⟨g, 0, rfl, by rw [Nat.zero_add]; exact h.cells' (g := g) rfl hj⟩
section
variable {w : World} {va vb : Value} {xs ys : List Sec}
end
section
variable {w : World} {va vb : Value} {xs ys : List Need}
end
set_option maxRecDepth 100000 in
theorem lower_nil (w : World) (id : Int) (f : Value) : Calls Tryd.prog 37 #[.pointer none, .int .i64 id, f] w fun e w' => e = .returned (.tuple #[]) ∧ Keeps (fun _ => False) w w' := by
  go_enter Tryd.func37, Tryd.ntmps37
  go_wp2_with fail
  refine bodyPost_ret (v := .tuple #[]) (by simp [results, Tryd.results37]) rfl ?_
  exact ⟨rfl, Keeps.refl _ _⟩
set_option maxRecDepth 100000 in
theorem term_nil (w : World) (id : Int) : Calls Tryd.prog 26 #[.pointer none, .int .i64 id] w fun e w' => e = .returned (.int .i64 0) ∧ Keeps (fun _ => False) w w' := by
  have hS := ((St.start w).new 26 [.pointer none]).new TI' [.int .i64 0]
  simp only [World.size_alloc] at hS
  simp only [Kw.red] at hS
  have HS := hid hS
  clear hS
  go_enter Tryd.func26, Tryd.ntmps26
  go_wp2_with fail
  refine (lower_nil _ _ _).mono ?_; rintro e w1 ⟨rfl, k1⟩
  have HS1 := hid (HS.out.step k1)
  have c0 := (HS1.out.blk 1).cell 0
  simp only [List.getElem?_cons_zero] at c0
  clear k1 HS
  go_wp2_with fail
  go_ret
  exact ⟨rfl, HS1.out.keeps⟩
end Go.Proofs.YtnkjjhenfhnajaaDoor

/-
  AdmitRuns, walked.
-/
namespace Go.Proofs.YtnkjjhenfhnajaaDoor
open Go.RowKit Go.Kw Go.Kreg Go.Tm Go.Ad
set_option linter.unusedSimpArgs false
set_option linter.unusedVariables false
section
variable {W w : World} {F : Nat → Prop}
open AR
end
end Go.Proofs.YtnkjjhenfhnajaaDoor
