/-
  respond.loadOf, walked.
-/
import Derived.Test.YtnkjjhenfhnajaaDoorEc
import Derived.Test.YtnkjjhenfhnajaaDoorG31
namespace Go.Proofs.YtnkjjhenfhnajaaDoor
open Go.RowKit Go.Kw Go.Kreg Go.Tm Go.Ad
set_option linter.unusedSimpArgs false
set_option linter.unusedVariables false

theorem laid_st {F0 : Nat → Prop} {w00 w w' : World} {cs : List Ch} {T : TypeId} {zs : List Value} {b : Nat} (hS : St F0 w00 cs w) (h : Laid w T zs b w') : St F0 w00 (cs ++ [.pt b T zs]) w' := by
  obtain ⟨w1, h1, rfl, h2⟩ := h
  exact ((hS.step h1).new T zs).step h2
theorem st_nilrow {F0 : Nat → Prop} {w0 w : World} {cs : List Ch} (hS : St F0 w0 cs w) (T : TypeId) (sz : Nat) : St F0 w0 (cs ++ [.row T sz (.slice none 0 0) 0 []]) w :=
  hS.add (Keeps.refl (fun _ => False) _) (G := fun _ => False) (c := .row T sz (.slice none 0 0) 0 []) ⟨⟨by simp, .inl ⟨rfl, rfl⟩⟩, fun b => by simp [Value.ownBlock]⟩ (fun _ h => h.elim)
/-- A free task stays in the way. -/
theorem othersTo_none {lev id : Int} {ts : List Task} : ∀ {k j : Nat}, othersTo lev id ts k = none → othersTo lev id ts (k + j) = none
  | k, 0, h => h
  | k, j + 1, h => by
    have ih := othersTo_none (j := j) h
    rw [← Nat.add_assoc]
    unfold othersTo
    rw [ih]
theorem loOne (a b : Int) (x : Option Addr) (n c : Nat) : ∀ u ∈ [Value.int .i64 a, .int .i64 b, .slice x n c], u.oneCell' = true := by
  intro u hu
  simp only [List.mem_cons, List.not_mem_nil, or_false] at hu
  rcases hu with rfl | rfl | rfl <;> rfl
theorem ptOne (a b : Int) : ∀ u ∈ [Value.int .i64 a, .int .i64 b], u.oneCell' = true := by
  intro u hu
  simp only [List.mem_cons, List.not_mem_nil, or_false] at hu
  rcases hu with rfl | rfl <;> rfl
theorem sizeLo : (Tryd.prog.info? TLo).map (·.size) = some 3 := by kernel_rfl
section
variable {w : World} {p : Nat} {m : TM} {x : TabX}
set_option maxRecDepth 100000 in
set_option maxHeartbeats 4000000 in
theorem loadOf_out (h : TabAt w p m x) (id : Int) (ho : id < 0 ∨ (m.ts.length : Int) ≤ id) : LoadTold p id m w := by
  have e : loadM m id = (none, 1) := by unfold loadM; rw [out_none ho]
  unfold LoadTold
  rw [e]
  have HS0 := hid ((St.start w).new TLo [.int .i64 0, .int .i64 0, .slice none 0 0])
  have HG := hid (get_out (h.keeps ((Keeps.refl (fun _ => False) w).alloc (.cells #[.int .i64 0, .int .i64 0, .slice none 0 0] TLo))) id ho)
  clear h e ho
  go_enter Tryd.func16, Tryd.ntmps16
  go_wp2_with fail
  refine HG.out.mono ?_; rintro e w2 ⟨rfl, k2⟩
  have HS2 := hid ((HS0.out.step k2).new TTk ztask)
  clear k2 HG HS0
  go_wp2_with (refine wpList_storeS 0 TLo _ _ rfl rfl [.int .i64 0, .int .i64 0, .slice none 0 0] HS2.out rfl rfl rfl sizeLo rfl (loOne _ _ _ _ _) ?_; intro w3 hS3; simp only [Kw.red] at hS3)
  refine bodyPost_ret (v := .tuple #[.agg #[.int .i64 0, .int .i64 0, .slice none 0 0], .int .i64 1]) (results_ct Tryd.results16 _ _ w.heap.size TLo #[.int .i64 0, .int .i64 0, .slice none 0 0] (0, 0) _ rfl (hS3.blk 0) Tryd.underlying49 rfl sizeLo) rfl ?_
  exact ⟨hS3.keeps, .inr ⟨1, by decide, rfl, rfl⟩⟩
set_option maxRecDepth 100000 in
set_option maxHeartbeats 8000000 in
theorem loadOf_in (hm : m.Ok) (h : TabAt w p m x) {i : Nat} {t : Task} (ht : m.ts[i]? = some t) : LoadTold p i m w := by
  have HS0 := hid ((St.start w).new TLo [.int .i64 0, .int .i64 0, .slice none 0 0])
  have HG := hid (get_in (h.keeps ((Keeps.refl (fun _ => False) w).alloc (.cells #[.int .i64 0, .int .i64 0, .slice none 0 0] TLo))) ht)
  unfold taskV at HG
  have hfew := hm.few
  have hn : Hid (othersTo t.level i m.ts m.ts.length = none → loadM m i = (none, 40)) := hid fun e => by unfold loadM; rw [in_some ht]; simp only; rw [e]
  have hs : Hid (∀ l, othersTo t.level i m.ts m.ts.length = some l → loadM m i = (some ⟨term m i + cost m.ts i, gapT t, l⟩, 0)) := hid fun l e => by unfold loadM; rw [in_some ht]; simp only; rw [e]
  have ht0 := term_nn m i
  have ht1 := term_le hm i
  have hc0 := cost_nn m.ts i
  have hc1 := cost_le m.ts i
  have HT := hid (fun (w9 : World) (k9 : Keeps (fun _ => False) w w9) => term_any (h.keeps k9) (i : Int))
  have HC := hid (fun (w9 : World) (k9 : Keeps (fun _ => False) w w9) => cost_any (h.keeps k9) (i : Int))
  have Hm := hid hm
  have Hx := hid h
  have Hi := hid (show i < m.ts.length from (List.getElem?_eq_some_iff.1 ht).1)
  obtain ⟨T, hT⟩ : ∃ T, term m i = T := ⟨_, rfl⟩
  obtain ⟨C, hC⟩ : ∃ C, cost m.ts i = C := ⟨_, rfl⟩
  rw [hT] at hs ht0 ht1 HT
  rw [hC] at hs hc0 hc1 HC
  unfold LoadTold
  obtain ⟨LM, hLM⟩ : ∃ LM, loadM m i = LM := ⟨_, rfl⟩
  rw [hLM] at hn hs ⊢
  clear h ht hm hT hC hLM
  go_enter Tryd.func16, Tryd.ntmps16
  go_wp2_with fail
  refine HG.out.mono ?_; rintro e w2 ⟨g, rfl, hS⟩
  have HS2 := hid ((HS0.out.step hS.keeps).new TTk [.string t.name, .int .i64 t.level, .int .i64 t.frame, .slice (some ⟨g, 0, none⟩) t.needs.length t.needs.length, .string t.code, .int .i64 t.period, .int .i64 t.first, .int .i64 t.gap])
  clear hS HG HS0
  go_upto_region 6 with fail
  generalize w.heap.size = rb at *
  generalize w2.heap.size = xb at *
  generalize w2.alloc (.cells #[.string t.name, .int .i64 t.level, .int .i64 t.frame, .slice (some ⟨g, 0, none⟩) t.needs.length t.needs.length, .string t.code, .int .i64 t.period, .int .i64 t.first, .int .i64 t.gap] TTk) = w3 at *
  obtain ⟨d0, d1, d2, d3, d4, d5, d6, d7, dz⟩ := cells8 (HS2.out.blk 1)
  have K3 := hid HS2.out.keeps
  have HP := hid (fun (w9 : World) => gap_any w9 t (some ⟨g, 0, none⟩) t.needs.length t.needs.length)
  unfold taskV at HP
  obtain ⟨G, hG⟩ : ∃ G, gapT t = G := ⟨_, rfl⟩
  rw [hG] at HP hs
  refine wp_region_float [true, true, true, true, true, true, true, true, true, true, false, false] [true, true, true, true, true, true, true, true, true, true, true, false] 10 _ TLo (.agg #[.int .i64 0, .int .i64 0, .slice none 0 0]) [.int .i64 0, .int .i64 0, .slice none 0 0] (by kernel_rfl) rfl rfl rfl (by decide +kernel) (by kernel_rfl) rfl ?_
  simp only [front, back]
  repeat (first | ((first | refine wpRel_load rfl ?_ | refine wpRel_other rfl ?_); (first | go_big_quiet_step (fail) | quiet_step (fail)); refine wpQuiet_nil ?_; refine Shut.mk ?_) | (refine wpRel_step (fun K hK => ?_); go_simp; first | (refine hK _ ?_; clear hK K) | (apply Exists.intro; refine ⟨fun w9 k9 => ?_, hK _ ?_⟩; (first | exact HT.out w9 (K3.out.trans k9) | exact HC.out w9 (K3.out.trans k9) | exact HP.out w9); clear hK K)))
  refine wpRel_nil ?_
  intro lb w9 l9
  have HS9 := hid (laid_st HS2.out l9)
  refine wpList_storeS 2 TLo _ _ rfl rfl [.int .i64 (T + C), .int .i64 G, .slice none 0 0] HS9.out rfl rfl rfl sizeLo rfl (loOne _ _ _ _ _) ?_
  intro w10 hS10
  simp only [Kw.red] at hS10
  have HSA := hid (st_nilrow hS10 TPt 2)
  have K10 := hid hS10.keeps
  clear hS10 HS9 HS2 l9 HT HC HP d0 d1 d2 d3 d4 d5 d6 d7 dz K3
  generalize hTC : T + C = TC at *
  go_wp2_with fail
  refine (tlen_any (Hx.out.keeps K10.out)).mono ?_; rintro e w11 ⟨rfl, rfl⟩
  go_wp2_with fail
  go_loopw [36] (fun y wr => ∃ (k : Nat) (l : List (Int × Int)) (sv : Value), k ≤ m.ts.length ∧ y = .int .i64 k ∧ Hid (othersTo t.level i m.ts k = some l) ∧ Hid (St (fun _ => False) w [.pt rb TLo [.int .i64 0, .int .i64 0, .slice none 0 0], .pt xb TTk [.string t.name, .int .i64 t.level, .int .i64 t.frame, .slice (some ⟨g, 0, none⟩) t.needs.length t.needs.length, .string t.code, .int .i64 t.period, .int .i64 t.first, .int .i64 t.gap], .pt lb TLo [.int .i64 TC, .int .i64 G, sv], .row TPt 2 sv l.length (partsC l)] wr)) (fun y _ => m.ts.length - (intOf y).toNat)
  case atStart => exact ⟨0, [], _, Nat.zero_le _, rfl, hid rfl, HSA⟩
  case round =>
    obtain ⟨k, l, sv, hk, rfl, Ho, HR⟩ := hrel
    by_cases hlt : k < m.ts.length
    · have b0 : decide (k < m.ts.length) = true := by simpa using hlt
      have hx := List.getElem?_eq_getElem hlt
      have hst : othersTo t.level i m.ts (k + 1) = (if m.ts[k].level < t.level then some l else if gapT m.ts[k] = 0 then none else if (k : Int) = i then some l else some (l ++ [(cost m.ts k, gapT m.ts[k])])) := by
        conv => lhs; unfold othersTo
        rw [Ho.out, hx]
      have hll := (others_ok Hm.out Ho.out).1
      have hc0 := cost_nn m.ts k
      have hc1 := cost_le m.ts k
      have HGk := hid (get_in (Hx.out.keeps HR.out.keeps) hx)
      unfold taskV at HGk
      generalize m.ts[k] = y at *
      have Hst := hid hst
      have Hq := hid hx
      clear hst hx HSA
      go_wp2_with fail
      refine HGk.out.mono ?_; rintro e w2 ⟨gy, rfl, hS⟩
      have hSy := (HR.out.step hS.keeps).new TTk [.string y.name, .int .i64 y.level, .int .i64 y.frame, .slice (some ⟨gy, 0, none⟩) y.needs.length y.needs.length, .string y.code, .int .i64 y.period, .int .i64 y.first, .int .i64 y.gap]
      simp only [Kw.red] at hSy
      have HSy := hid hSy
      clear hS hSy HGk
      go_upto_region 11 with fail
      generalize w2.heap.size = yb at *
      generalize w2.alloc (.cells #[.string y.name, .int .i64 y.level, .int .i64 y.frame, .slice (some ⟨gy, 0, none⟩) y.needs.length y.needs.length, .string y.code, .int .i64 y.period, .int .i64 y.first, .int .i64 y.gap] TTk) = w3 at *
      have xl : w3.cell? ⟨xb, 1, none⟩ = some (.int .i64 t.level) := (HSy.out.blk 1).cell 1
      obtain ⟨d0, d1, d2, d3, d4, d5, d6, d7, dz⟩ := cells8 (HSy.out.blk 4)
      have K3 := hid HSy.out.keeps
      by_cases h1 : y.level < t.level
      · have b1 : decide (y.level < t.level) = true := by simpa using h1
        have ho := Hst.out
        rw [if_pos h1] at ho
        have Ho' := hid ho
        clear ho h1 Hst
        go_wp2_with fail
        go_roundw
        case rel => exact ⟨k + 1, l, sv, by omega, by go_num, Ho', hid (HSy.out.sub [0, 1, 2, 3])⟩
        case measure => simp [intOf]; omega
      have b1 : decide (y.level < t.level) = false := by simpa using h1
      have HP := hid (fun (w9 : World) => gap_any w9 y (some ⟨gy, 0, none⟩) y.needs.length y.needs.length)
      unfold taskV at HP
      have ho := Hst.out
      rw [if_neg h1] at ho
      obtain ⟨GY, hGY⟩ : ∃ GY, gapT y = GY := ⟨_, rfl⟩
      rw [hGY] at HP ho
      have Hst := hid ho
      clear ho h1 hGY
      by_cases h2 : GY = 0
      · have b2 : (GY == 0) = true := by simpa using h2
        have ho := Hst.out
        rw [if_pos h2] at ho
        have hj : m.ts.length = k + 1 + (m.ts.length - (k + 1)) := by omega
        have hnn := othersTo_none (j := m.ts.length - (k + 1)) ho
        rw [← hj] at hnn
        have hLM := hn.out hnn
        clear ho hnn hj h2 Hst
        go_wp2_with fail
        refine (HP.out _).mono ?_; rintro e w4 ⟨rfl, k4⟩
        have HS4 := hid (HSy.out.step k4)
        clear k4 HSy HP d0 d1 d2 d3 d4 d5 d6 d7 dz xl
        go_wp2_with (refine wpList_storeS 0 TLo _ _ rfl rfl [.int .i64 0, .int .i64 0, .slice none 0 0] HS4.out rfl rfl rfl sizeLo rfl (loOne _ _ _ _ _) ?_; intro w5 hS5; simp only [Kw.red] at hS5)
        refine bodyPost_ret (v := .tuple #[.agg #[.int .i64 0, .int .i64 0, .slice none 0 0], .int .i64 40]) (results_ct Tryd.results16 _ _ rb TLo #[.int .i64 0, .int .i64 0, .slice none 0 0] (0, 0) _ rfl (hS5.blk 0) Tryd.underlying49 rfl sizeLo) rfl ?_
        exact ⟨hS5.keeps, .inr ⟨40, by decide, hLM, rfl⟩⟩
      have b2 : (GY == 0) = false := by simpa using h2
      have ho := Hst.out
      rw [if_neg h2] at ho
      have Hst := hid ho
      clear ho h2
      by_cases h3 : (k : Int) = i
      · have b3 : ((k : Int) != (i : Int)) = false := by simpa using h3
        have ho := Hst.out
        rw [if_pos h3] at ho
        have Ho' := hid ho
        clear ho h3 Hst
        go_wp2_with fail
        refine (HP.out _).mono ?_; rintro e w4 ⟨rfl, k4⟩
        have HS4 := hid (HSy.out.step k4)
        clear k4 HSy HP d0 d1 d2 d3 d4 d5 d6 d7 dz xl
        go_wp2_with fail
        go_roundw
        case rel => exact ⟨k + 1, l, sv, by omega, by go_num, Ho', hid (HS4.out.sub [0, 1, 2, 3])⟩
        case measure => simp [intOf]; omega
      have b3 : ((k : Int) != (i : Int)) = true := by simpa using h3
      have ho := Hst.out
      rw [if_neg h3] at ho
      have HC := hid (fun (w9 : World) (k9 : Keeps (fun _ => False) w w9) => cost_any (Hx.out.keeps k9) (k : Int))
      generalize cost m.ts k = CK at *
      have Ho' := hid ho
      clear ho h3 Hst
      go_wp2_with fail
      refine (HP.out _).mono ?_; rintro e w4 ⟨rfl, k4⟩
      have HS4 := hid (HSy.out.step k4)
      clear k4 HSy d0 d1 d2 d3 d4 d5 d6 d7 dz xl
      obtain ⟨d0, d1, d2, d3, d4, d5, d6, d7, dz⟩ := cells8 (HS4.out.blk 4)
      obtain ⟨sa, sc, rfl, -⟩ := (HS4.out.own 3).shape
      have ls : w4.cell? ⟨lb, 2, none⟩ = some (.slice sa l.length sc) := (HS4.out.blk 2).cell 2
      have K4 := hid HS4.out.keeps
      go_wp2_with fail
      refine wp_region_mix [true, true, true, true, false, true, false, false, false, false, false, false] 4 (fun _ => False) (by kernel_rfl) (by decide +kernel) ?_
      simp only [front, back, List.take_succ_cons, List.take_zero, List.drop_succ_cons, List.drop_zero]
      repeat ((first | refine wpFront_load rfl ?_ | refine wpFront_other rfl ?_); (first | go_big_quiet_step (fail) | quiet_step (fail)); refine wpQuiet_nil ?_)
      refine wpFront_nil ?_
      simp only [wpSegs]
      go_wp2_with fail
      refine (HC.out _ K4.out.drew).mono ?_; rintro e w5 ⟨rfl, k5⟩
      have kk5 := hid ((Keeps.refl (fun _ => False) w4).drew.trans k5)
      clear k5
      go_wp2_with fail
      refine segQ_normal kk5.out ?_
      go_wp2_with fail
      refine (HP.out _).mono ?_; rintro e w6 ⟨rfl, k6⟩
      have kk6 := hid (kk5.out.trans k6)
      clear k6 kk5
      go_wp2_with fail
      refine segQ_normal kk6.out ?_
      go_wp2_with fail
      refine segQ_normal kk6.out ?_
      go_wp2_with fail
      refine segQ_normal (kk6.out.alloc _) ?_
      have hS7 := (HS4.out.step kk6.out).new TPt [.int .i64 CK, .int .i64 GY]
      simp only [Kw.red] at hS7
      have HS7 := hid hS7
      clear hS7 HS4 HC HP d0 d1 d2 d3 d4 d5 d6 d7 dz ls
      refine wpList_appS 3 5 _ _ TPts TPt (.agg #[.int .i64 0, .int .i64 0]) 2 16 infoPt Tryd.underlying47 rfl (by decide) rfl rfl HS7.out rfl rfl rfl rfl rfl (ptOne _ _) (by omega) (by unfold maxLen; omega) (by omega) ?_
      intro gg gc w8 hS8 hat
      simp only [Kw.red] at hS8
      have HS8 := hid hS8
      have ls : w8.cell? ⟨lb, 2, none⟩ = some (.slice sa l.length sc) := (hS8.blk 2).cell 2
      have lz := (hS8.blk 2).fz 2
      have hS9 := hS8.set 2 2 (.slice (some ⟨gg, 0, none⟩) (l.length + 1) gc)
      simp only [Kw.red] at hS9
      simp only [List.set_cons_zero, List.set_cons_succ] at hS9
      have HS9 := hid (show St (fun _ => False) w [.pt rb TLo [.int .i64 0, .int .i64 0, .slice none 0 0], .pt xb TTk [.string t.name, .int .i64 t.level, .int .i64 t.frame, .slice (some ⟨g, 0, none⟩) t.needs.length t.needs.length, .string t.code, .int .i64 t.period, .int .i64 t.first, .int .i64 t.gap], .pt lb TLo [.int .i64 TC, .int .i64 G, .slice (some ⟨gg, 0, none⟩) (l.length + 1) gc], .row TPt 2 (.slice (some ⟨gg, 0, none⟩) (l.length + 1) gc) (l ++ [(CK, GY)]).length (partsC (l ++ [(CK, GY)]))] _ from by
        rw [List.length_append, List.length_singleton, show partsC (l ++ [(CK, GY)]) = partsC l ++ [.int .i64 CK, .int .i64 GY] by simp [partsC]]
        exact hS9.sub [0, 1, 2, 3])
      clear hS8 hS9 hat HS7 HS8
      go_wp2_with fail
      refine NoPanic.normal ?_
      go_wp2_with fail
      go_roundw
      case rel => exact ⟨k + 1, _, _, by omega, by go_num, Ho', HS9⟩
      case measure => simp [intOf]; omega
    · have b0 : decide (k < m.ts.length) = false := by simpa using hlt
      have hk2 : k = m.ts.length := by omega
      have ho := Ho.out
      rw [hk2] at ho
      have hLM := hs.out l ho
      have hll := (others_ok Hm.out ho).1
      obtain ⟨sa, sc, rfl, -⟩ := (HR.out.own 3).shape
      clear ho hk2 hlt HSA Ho
      go_wp2_with (first | (refine wpList_loadS 2 TLo _ _ rfl rfl HR.out rfl rfl Tryd.underlying49 rfl sizeLo ?_) | (refine wpList_storeS 0 TLo _ _ rfl rfl [.int .i64 TC, .int .i64 G, .slice sa l.length sc] HR.out rfl rfl rfl sizeLo rfl (loOne _ _ _ _ _) ?_; intro w5 hS5; simp only [Kw.red] at hS5))
      refine bodyPost_ret (v := .tuple #[.agg #[.int .i64 TC, .int .i64 G, .slice sa l.length sc], .int .i64 0]) (results_ct Tryd.results16 _ _ rb TLo #[.int .i64 TC, .int .i64 G, .slice sa l.length sc] (0, 0) _ rfl (hS5.blk 0) Tryd.underlying49 rfl sizeLo) rfl ?_
      exact ⟨hS5.keeps, .inl ⟨⟨TC, G, l⟩, sa, sc, hLM, rfl, RdS.own (hS5.own 3) (by simp only; omega)⟩⟩
end
end Go.Proofs.YtnkjjhenfhnajaaDoor
