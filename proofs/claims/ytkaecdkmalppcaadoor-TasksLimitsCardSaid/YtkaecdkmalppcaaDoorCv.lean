/-
  Package code, walked: walk.
-/
import Derived.Test.YtkaecdkmalppcaaDoorCg
namespace Go.Proofs.YtkaecdkmalppcaaDoor
open Go.RowKit Go.Kw Go.Kreg Go.Cm

abbrev TSI : Nat := 36
theorem own_whole {w : World} {T : TypeId} {g n : Nat} {xs : List Value} (h : Blk w g T xs) (hl : xs.length = n) (hn : n ≤ maxLen) : Own w T 1 (.slice (some ⟨g, 0, none⟩) n n) n xs :=
  ⟨by omega, .inr ⟨g, n, xs.toArray, rfl, Nat.zero_le _, h, Nat.le_refl _, hn, by simp; omega, by rw [List.toList_toArray, List.take_of_length_le (by omega)]⟩⟩
def nats (l : List Nat) : List Value := l.map fun (n : Nat) => Value.int .i64 (n : Int)
theorem nats_len (l : List Nat) : (nats l).length = l.length := by simp [nats]
theorem nats_at {l : List Nat} {i n : Nat} (h : l[i]? = some n) : (nats l)[i]? = some (.int .i64 n) := by simp [nats, h]
theorem nats_set (l : List Nat) (i n : Nat) : (nats l).set i (.int .i64 n) = nats (l.set i n) := by simp [nats, List.map_set]
theorem nats_snoc (l : List Nat) (n : Nat) : nats l ++ [.int .i64 n] = nats (l ++ [n]) := by simp [nats]
theorem nats_zero (n : Nat) : List.replicate n (Value.int .i64 0) = nats (List.replicate n 0) := by simp [nats]
/-- What a walk answers: how many steps there are, or that there are too many. -/
def walkR (r : List Cm.Op × Stt) : Int × Int := match r with | (_, .long) => (0, 5) | (o, _) => (o.length, 0)
def openC (wb : Nat) (qv ev : Value) (t : Option Nat) (q : List Cm.Op) (A st : List Nat) (y : Value) : List Ch :=
  [.pt wb TWk [qv, .int .i64 0, .bool false, ev, tellV t], tellC t [], .row TOp 4 qv q.length (opsC q), .row TI 1 ev q.length (nats A), .row TI 1 y st.length (nats st)]

section
variable {w : World} {F : Nat → Prop} {v : Value} {p : List Cm.Op}
set_option maxRecDepth 100000 in
set_option maxHeartbeats 4000000 in
theorem walk_any {t : Option Nat} (h : Sts [.row TOp 4 v p.length (opsC p), tellC t []] F w) (hc : (check p).2 = 0) :
    Calls Tryd.prog 46 #[v, tellV t] w fun e w' => e = .returned (.tuple #[.int .i64 (walkR (playAll p)).1, .int .i64 (walkR (playAll p)).2]) ∧ St F w [.row TOp 4 v p.length (opsC p), tellC t (playAll p).1] w' := by
  cases t with
  | none =>
    have hcc := check_ok hc
    generalize hr0 : playAll p = r0
    have HPA := hid hr0
    clear hr0
    obtain ⟨hc0, hl, hb0, hfo⟩ := hcc
    have hkd : ∀ o ∈ p, 1 ≤ o.kind ∧ o.kind ≤ 11 := fun o ho => fieldsOk_kind (hfo o ho)
    have HFO := hid (show _ ∧ bal p 0 = true from ⟨hfo, hb0⟩)
    have HS := hid (St.of h)
    obtain ⟨oa, oc, rfl, _⟩ := (HS.out.own 0).shape
    obtain ⟨F1, g1, _, _, back⟩ := (St.of h).sel [0]
    simp only [Kw.red] at g1
    have hck := check_any g1 hkd hl
    rw [hc0] at hck
    have HC := hid hck
    clear h hck hkd hc hc0 hfo hb0 g1
    simp only [tellV]
    go_enter Tryd.func46, Tryd.ntmps46
    go_wp2_with fail
    refine HC.out.mono ?_; rintro e w1 ⟨rfl, hS⟩
    have hS := back hS
    simp only [Kw.red] at hS
    have HS1 := hid hS
    clear hS back HC HS
    go_wp2_with (at_make; refine wpList_mkfull _ _ TSI TI (.int .i64 0) 8 infoI Tryd.underlying36 rfl rfl rfl .i64 .i64 _ _ p.length rfl rfl rfl rfl (by omega) (by unfold maxLen; omega) ?_; intro w2 hb hk hsz)
    have hSE := HS1.out.add hk (G := fun b => (Value.slice (some ⟨w1.heap.size, 0, none⟩) p.length p.length).ownBlock = some b) (c := .row TI 1 (.slice (some ⟨w1.heap.size, 0, none⟩) p.length p.length) p.length (nats (List.replicate p.length 0))) ⟨by rw [← nats_zero]; exact own_whole hb (by simp) (by unfold maxLen; omega), fun _ => Iff.rfl⟩ (fun b hb => by simp only [Value.ownBlock, Option.some.injEq] at hb; omega)
    have hSF := (hSE.add (Keeps.refl (fun _ => False) w2) (G := fun b => (Value.slice none 0 0).ownBlock = some b) (c := .row TI 1 (.slice none 0 0) 0 []) ⟨⟨rfl, .inl ⟨rfl, rfl⟩⟩, fun _ => Iff.rfl⟩ (fun b hb => by cases hb)).new TWk [.slice oa p.length oc, .int .i64 0, .bool false, .slice (some ⟨w1.heap.size, 0, none⟩) p.length p.length, Value.nilFunc]
    have hSG := hSF.sub [4, 1, 0, 2, 3]
    rw [hsz] at hSG
    have HSG := hid (show St F w (openC (w1.heap.size + 1) (.slice oa p.length oc) (.slice (some ⟨w1.heap.size, 0, none⟩) p.length p.length) none p (List.replicate p.length 0) [] (.slice none 0 0)) _ from hSG)
    clear hSE hSF hSG HS1 hb
    generalize hge : w1.heap.size = ge at *
    generalize hwb : ge + 1 = wb at *
    clear hge hsz
    go_loopw [29, 9] (fun x y wr => ∃ (i : Nat) (st A : List Nat), x = .int .i64 i ∧ i ≤ p.length ∧ A.length = p.length ∧ st.length ≤ i ∧ Hid (endsF (p.drop i) i st A = endsF p 0 [] (List.replicate p.length 0) ∧ bal (p.drop i) st.length = true ∧ ∀ s ∈ st, s < i) ∧ St F w (openC wb (.slice oa p.length oc) (.slice (some ⟨ge, 0, none⟩) p.length p.length) none p A st y) wr) (fun x _ _ => p.length - (intOf x).toNat)
    case atStart => exact ⟨0, [], _, rfl, Nat.zero_le _, by simp, Nat.le_refl _, hid ⟨rfl, HFO.out.2, by simp⟩, HSG.out⟩
    case round =>
      clear HSG
      obtain ⟨i, st, A, rfl, hi, hA, hsti, HQ, hS⟩ := hrel
      have HS := hid hS
      clear hS
      by_cases hlt : i < p.length
      · have hx := List.getElem?_eq_getElem hlt
        have hdr : p.drop i = p[i] :: p.drop (i + 1) := List.drop_eq_getElem_cons hlt
        generalize p[i] = o at *
        obtain ⟨hq1, hb1, hs1⟩ := HQ.out
        rw [hdr] at hq1 hb1
        have hqv := HS.out.own 2
        obtain ⟨g, cap, e1, _⟩ := hqv.form (by omega)
        cases e1
        obtain ⟨x0, x1, x2, x3⟩ := opsC_at hx
        have d0 := hqv.cells' (g := g) rfl x0
        have d1 := hqv.cells' (g := g) rfl x1
        have d2 := hqv.cells' (g := g) rfl x2
        have d3 := hqv.cells' (g := g) rfl x3
        have b2 : decide ((i : Int) < (p.length : Int)) = true := by simp; omega
        have i1 : (i : Int) < (p.length : Int) := by omega
        have i0' : (0 : Int) ≤ (i : Int) := by omega
        clear x0 x1 x2 x3 hx hdr hqv HQ
        by_cases h10 : o.kind = 10
        · have e10 : (o.kind == 10) = true := by simpa using h10
          rw [endsF_10 _ _ _ _ h10] at hq1
          rw [bal_10 _ _ h10] at hb1
          have HQ := hid (show _ ∧ _ ∧ _ from ⟨hq1, hb1, hs1⟩)
          have hS2 := ((HS.out.step ((Keeps.refl (fun _ => False) wr).alloc (.cells #[.int .i64 o.kind, .int .i64 o.res, .int .i64 o.n, .int .i64 o.v] TOp))).new TI [.int .i64 i])
          rw [show (wr.alloc (.cells #[.int .i64 o.kind, .int .i64 o.res, .int .i64 o.n, .int .i64 o.v] TOp)).heap.size = wr.heap.size + 1 by simp] at hS2
          simp only [openC, Kw.red] at hS2
          have HS2 := hid hS2
          clear hS2
          clear hq1 hb1 hs1 h10
          go_wp2_with (at_builtin; refine wpList_appS 4 5 _ _ TSI TI (.int .i64 0) 1 8 infoI Tryd.underlying36 rfl (by decide) rfl rfl HS2.out rfl rfl rfl rfl rfl (by intro u hu; rw [List.mem_singleton] at hu; subst hu; rfl) (by omega) (by unfold maxLen; omega) (by omega) ?_; intro g2 gc w7 hSc hat)
          have hS9 : St F w (openC wb (.slice (some ⟨g, 0, none⟩) p.length oc) (.slice (some ⟨ge, 0, none⟩) p.length p.length) none p A (st ++ [i]) (.slice (some ⟨g2, 0, none⟩) (st.length + 1) gc)) w7 := by
            have q := hSc.sub [0, 1, 2, 3, 4]
            unfold openC
            rw [List.length_append, List.length_singleton, ← nats_snoc]; exact q
          have HS9 := hid hS9
          clear hS9 hSc HS2 HS
          go_roundw
          case rel => exact ⟨i + 1, st ++ [i], A, by go_num, by omega, hA, by simp; omega, hid ⟨HQ.out.1, by simpa using HQ.out.2.1, fun s hs => by rcases List.mem_append.1 hs with hs | hs; have := HQ.out.2.2 s hs; omega; have := List.mem_singleton.1 hs; omega⟩, HS9.out⟩
          case measure => simp [intOf]; omega
        · have e10 : (o.kind == 10) = false := by simpa using h10
          by_cases h11 : o.kind = 11
          · have e11 : (o.kind == 11) = true := by simpa using h11
            rw [endsF_11 _ _ _ _ h11] at hq1
            rw [bal_11 _ _ h11] at hb1
            by_cases hs0 : st.length = 0
            · rw [if_pos hs0] at hb1; cases hb1
            rw [if_neg hs0] at hb1
            obtain ⟨l, t0, rfl⟩ : ∃ l t, st = l ++ [t] := ⟨st.dropLast, st.getLast (by intro e; rw [e] at hs0; exact hs0 rfl), (List.dropLast_concat_getLast _).symm⟩
            have hS := HS.out
            unfold openC at hS
            simp only [List.length_append, List.length_singleton, Nat.add_sub_cancel] at hb1 hs0 hsti hS
            rw [List.dropLast_concat, List.getLast?_concat, Option.getD_some] at hq1
            have ht0 : t0 < i := hs1 t0 (by simp)
            obtain ⟨g3, c3, e3, _⟩ := (hS.own 4).form (by omega)
            subst e3
            obtain ⟨_, _, e4, hc3⟩ := (hS.own 4).shape
            cases e4
            have dy := (hS.own 4).cells' (g := g3) rfl (nats_at (show (l ++ [t0])[l.length]? = some t0 by simp))
            have dw := (hS.blk 0).cell 3
            have dwz := (hS.blk 0).fz 3
            have dez := (hS.own 3).fz (g := ge) rfl t0
            obtain ⟨ut, hut⟩ : ∃ u, A[t0]? = some u := ⟨_, List.getElem?_eq_getElem (by omega)⟩
            have det := (hS.own 3).cells' (g := ge) rfl (nats_at hut)
            simp only [List.getElem?_cons_zero, List.getElem?_cons_succ] at dw
            have hl4 : l.length ≤ 256 := by omega
            have hwr : IntKind.i64.wrap (((l.length + 1 : Nat) : Int) - 1) = (l.length : Int) := (IntWalk.i64_in _ (by omega)).trans (by omega)
            have HQ := hid (show _ ∧ _ ∧ _ from ⟨hq1, hb1, hs1⟩)
            have hS2 := ((hS.step ((Keeps.refl (fun _ => False) _).alloc (.cells #[.int .i64 o.kind, .int .i64 o.res, .int .i64 o.n, .int .i64 o.v] TOp))).setRow 3 (g := ge) rfl t0 (.int .i64 i)).drew
            simp only [Kw.red, nats_set] at hS2
            have hS3 := hS2.imp (c := .row TI 1 (.slice (some ⟨g3, 0, none⟩) (l.length + 1) c3) (l.length + 1) (nats (l ++ [t0]))) 4 (.row TI 1 (.slice (some ⟨g3, 0, none⟩) l.length c3) l.length (nats l)) (fun F h => ⟨by
              have q := h.1.shorter l.length (by omega)
              rw [show (nats (l ++ [t0])).take (l.length * 1) = nats l by simp [nats]] at q
              exact q, h.2⟩)
            have HS2 := hid (show St F w (openC wb (.slice (some ⟨g, 0, none⟩) p.length oc) (.slice (some ⟨ge, 0, none⟩) p.length p.length) none p (A.set t0 i) l (.slice (some ⟨g3, 0, none⟩) l.length c3)) _ from hS3)
            clear hq1 hb1 hs1 h10 h11 HS hS hS2 hS3 hut
            go_wp2_with fail
            refine wp_region_mix [true, true, true, true, true, true, true, true, true, true, true, true, false] 0 (fun _ => False) (by kernel_rfl) (by decide +kernel) ?_
            simp only [front, back, List.take_zero, List.drop_zero]
            repeat ((first | refine wpFront_load rfl ?_ | refine wpFront_other rfl ?_); (first | go_big_quiet_step (fail) | quiet_step (fail)); refine wpQuiet_nil ?_)
            refine wpFront_nil ?_
            simp only [wpSegs]
            go_wp2_with fail
            refine NoPanic.normal ?_
            go_wp2_with fail
            go_roundw
            case rel => exact ⟨i + 1, l, A.set t0 i, by go_num, by omega, by rw [List.length_set, hA], by omega, hid ⟨HQ.out.1, HQ.out.2.1, fun s hs => by have := HQ.out.2.2 s (by simp [hs]); omega⟩, HS2.out⟩
            case measure => simp [intOf]; omega
          · have e11 : (o.kind == 11) = false := by simpa using h11
            rw [endsF_no _ _ _ _ h10 h11] at hq1
            rw [bal_no _ _ h10 h11] at hb1
            have HQ := hid (show _ ∧ _ ∧ _ from ⟨hq1, hb1, hs1⟩)
            have HS2 := hid (HS.out.step ((Keeps.refl (fun _ => False) wr).alloc (.cells #[.int .i64 o.kind, .int .i64 o.res, .int .i64 o.n, .int .i64 o.v] TOp)))
            clear hq1 hb1 hs1 h10 h11 HS
            go_wp2_with fail
            go_roundw
            case rel => exact ⟨i + 1, st, A, by go_num, by omega, hA, by omega, hid ⟨HQ.out.1, HQ.out.2.1, fun s hs => by have := HQ.out.2.2 s hs; omega⟩, HS2.out⟩
            case measure => simp [intOf]; omega
      · have b2 : decide ((i : Int) < (p.length : Int)) = false := by simp; omega
        have hq1 := HQ.out.1
        rw [List.drop_eq_nil_of_le (by omega)] at hq1
        have hq1 : A = endsF p 0 [] (List.replicate p.length 0) := hq1
        have hE : ∀ (j : Nat) (o : Cm.Op), p[j]? = some o → o.kind = 10 → (nats A)[j]? = some (Value.int .i64 (endE p j : Nat)) := fun j o hj hk => nats_at (by rw [hq1]; exact ends_all p HFO.out.2 j o hj hk)
        have hS := HS.out.sub [0, 1, 2, 3]
        have hS : St F w (walkC wb (.slice oa p.length oc) (.slice (some ⟨ge, 0, none⟩) p.length p.length) none p (nats A) [] false) wr := hS
        have hpc := part_any hl (fun o ho => fieldsOk_n (HFO.out.1 o ho)) hE (p.length + 1) 0 p.length wr w F [] hS (Nat.le_refl _) (by omega) (Nat.zero_le _) (by simp) (by rw [seg_all]; exact HFO.out.2)
        rw [seg_all] at hpc
        have hlen := playS_len p [] (by simp)
        have hpa : thn (playS p []) (Cm.step Cm.finish) = r0 := HPA.out
        generalize playS p [] = r at hpc hlen hpa
        obtain ⟨o3, s3⟩ := r
        have HC := hid hpc
        have HP := hid hpa
        clear hS hq1 hE hpc HS HQ hpa HPA
        go_wp2_with fail
        refine HC.out.mono ?_; rintro e w3 ⟨rfl, hS⟩
        cases s3 with
        | go =>
          have e9 : decide (Stt.go = Stt.long) = false := by decide
          rw [e9] at hS
          have hst := wstep_any Cm.finish hS hlen
          have hp := HP.out
          rw [thn_go] at hp
          simp only [decide_true]
          clear hS HP HC e9
          by_cases hl : o3.length = 4096
          · rw [step_full hl] at hst hp
            have HST := hid hst
            have HP := hid hp
            clear hst hp hl
            go_wp2_with fail
            refine HST.out.mono ?_; rintro e w4 ⟨rfl, hS⟩
            have HS4 := hid (show St F w (walkC wb (.slice oa p.length oc) (.slice (some ⟨ge, 0, none⟩) p.length p.length) none p (nats A) o3 true) w4 from hS)
            clear hS HST
            have h0 := HS4.out.blk 0
            obtain ⟨m1, m2, mz⟩ : w4.cell? ⟨wb, 1, none⟩ = some (.int .i64 _) ∧ w4.cell? ⟨wb, 2, none⟩ = some (.bool true) ∧ (∀ o, w4.frozen? ⟨wb, o, none⟩ = false) := ⟨h0.cell 1, h0.cell 2, h0.fz⟩
            clear h0
            go_wp2_with fail
            go_ret2
            obtain rfl := HP.out
            refine ⟨by simp [walkR], ?_⟩
            exact HS4.out.sub [2, 1]
          · rw [step_last hl rfl] at hst hp
            have HST := hid hst
            have HP := hid hp
            clear hst hp hl
            go_wp2_with fail
            refine HST.out.mono ?_; rintro e w4 ⟨rfl, hS⟩
            have e9 : decide (Stt.done = Stt.long) = false := by decide
            rw [e9] at hS
            have HS4 := hid hS
            clear hS HST e9
            have h0 := HS4.out.blk 0
            obtain ⟨m1, m2, mz⟩ : w4.cell? ⟨wb, 1, none⟩ = some (.int .i64 _) ∧ w4.cell? ⟨wb, 2, none⟩ = some (.bool false) ∧ (∀ o, w4.frozen? ⟨wb, o, none⟩ = false) := ⟨h0.cell 1, h0.cell 2, h0.fz⟩
            clear h0
            go_wp2_with fail
            go_ret2
            obtain rfl := HP.out
            refine ⟨by simp [walkR], ?_⟩
            exact HS4.out.sub [2, 1]
        | done =>
          have e9 : decide (Stt.done = Stt.long) = false := by decide
          rw [e9] at hS
          have hp := HP.out
          rw [thn_no _ (by decide)] at hp
          have HP := hid hp
          have HS4 := hid hS
          have e8 : decide (Stt.done = Stt.go) = false := by decide
          rw [e8]
          clear hS HC hp e9 e8
          have h0 := HS4.out.blk 0
          obtain ⟨m1, m2, mz⟩ : w3.cell? ⟨wb, 1, none⟩ = some (.int .i64 _) ∧ w3.cell? ⟨wb, 2, none⟩ = some (.bool false) ∧ (∀ o, w3.frozen? ⟨wb, o, none⟩ = false) := ⟨h0.cell 1, h0.cell 2, h0.fz⟩
          clear h0
          go_wp2_with fail
          go_ret2
          obtain rfl := HP.out
          refine ⟨by simp [walkR], ?_⟩
          exact HS4.out.sub [2, 1]
        | long =>
          have e9 : decide (Stt.long = Stt.long) = true := by decide
          have hp := HP.out
          rw [thn_no _ (by decide)] at hp
          have HP := hid hp
          have HS4 := hid (show St F w (walkC wb (.slice oa p.length oc) (.slice (some ⟨ge, 0, none⟩) p.length p.length) none p (nats A) o3 true) w3 from hS)
          have e8 : decide (Stt.long = Stt.go) = false := by decide
          rw [e8]
          clear hS HC hp e9 e8
          have h0 := HS4.out.blk 0
          obtain ⟨m1, m2, mz⟩ : w3.cell? ⟨wb, 1, none⟩ = some (.int .i64 _) ∧ w3.cell? ⟨wb, 2, none⟩ = some (.bool true) ∧ (∀ o, w3.frozen? ⟨wb, o, none⟩ = false) := ⟨h0.cell 1, h0.cell 2, h0.fz⟩
          clear h0
          go_wp2_with fail
          go_ret2
          obtain rfl := HP.out
          refine ⟨by simp [walkR], ?_⟩
          exact HS4.out.sub [2, 1]
  | some cb =>
    have hcc := check_ok hc
    generalize hr0 : playAll p = r0
    have HPA := hid hr0
    clear hr0
    obtain ⟨hc0, hl, hb0, hfo⟩ := hcc
    have hkd : ∀ o ∈ p, 1 ≤ o.kind ∧ o.kind ≤ 11 := fun o ho => fieldsOk_kind (hfo o ho)
    have HFO := hid (show _ ∧ bal p 0 = true from ⟨hfo, hb0⟩)
    have HS := hid (St.of h)
    obtain ⟨oa, oc, rfl, _⟩ := (HS.out.own 0).shape
    obtain ⟨F1, g1, _, _, back⟩ := (St.of h).sel [0]
    simp only [Kw.red] at g1
    have hck := check_any g1 hkd hl
    rw [hc0] at hck
    have HC := hid hck
    clear h hck hkd hc hc0 hfo hb0 g1
    simp only [tellV]
    go_enter Tryd.func46, Tryd.ntmps46
    go_wp2_with fail
    refine HC.out.mono ?_; rintro e w1 ⟨rfl, hS⟩
    have hS := back hS
    simp only [Kw.red] at hS
    have HS1 := hid hS
    clear hS back HC HS
    go_wp2_with (at_make; refine wpList_mkfull _ _ TSI TI (.int .i64 0) 8 infoI Tryd.underlying36 rfl rfl rfl .i64 .i64 _ _ p.length rfl rfl rfl rfl (by omega) (by unfold maxLen; omega) ?_; intro w2 hb hk hsz)
    have hSE := HS1.out.add hk (G := fun b => (Value.slice (some ⟨w1.heap.size, 0, none⟩) p.length p.length).ownBlock = some b) (c := .row TI 1 (.slice (some ⟨w1.heap.size, 0, none⟩) p.length p.length) p.length (nats (List.replicate p.length 0))) ⟨by rw [← nats_zero]; exact own_whole hb (by simp) (by unfold maxLen; omega), fun _ => Iff.rfl⟩ (fun b hb => by simp only [Value.ownBlock, Option.some.injEq] at hb; omega)
    have hSF := (hSE.add (Keeps.refl (fun _ => False) w2) (G := fun b => (Value.slice none 0 0).ownBlock = some b) (c := .row TI 1 (.slice none 0 0) 0 []) ⟨⟨rfl, .inl ⟨rfl, rfl⟩⟩, fun _ => Iff.rfl⟩ (fun b hb => by cases hb)).new TWk [.slice oa p.length oc, .int .i64 0, .bool false, .slice (some ⟨w1.heap.size, 0, none⟩) p.length p.length, Value.func (.func 47) #[] #[.pointer (some ⟨cb, 0, none⟩)]]
    have hSG := hSF.sub [4, 1, 0, 2, 3]
    rw [hsz] at hSG
    have HSG := hid (show St F w (openC (w1.heap.size + 1) (.slice oa p.length oc) (.slice (some ⟨w1.heap.size, 0, none⟩) p.length p.length) (some cb) p (List.replicate p.length 0) [] (.slice none 0 0)) _ from hSG)
    clear hSE hSF hSG HS1 hb
    generalize hge : w1.heap.size = ge at *
    generalize hwb : ge + 1 = wb at *
    clear hge hsz
    go_loopw [29, 9] (fun x y wr => ∃ (i : Nat) (st A : List Nat), x = .int .i64 i ∧ i ≤ p.length ∧ A.length = p.length ∧ st.length ≤ i ∧ Hid (endsF (p.drop i) i st A = endsF p 0 [] (List.replicate p.length 0) ∧ bal (p.drop i) st.length = true ∧ ∀ s ∈ st, s < i) ∧ St F w (openC wb (.slice oa p.length oc) (.slice (some ⟨ge, 0, none⟩) p.length p.length) (some cb) p A st y) wr) (fun x _ _ => p.length - (intOf x).toNat)
    case atStart => exact ⟨0, [], _, rfl, Nat.zero_le _, by simp, Nat.le_refl _, hid ⟨rfl, HFO.out.2, by simp⟩, HSG.out⟩
    case round =>
      clear HSG
      obtain ⟨i, st, A, rfl, hi, hA, hsti, HQ, hS⟩ := hrel
      have HS := hid hS
      clear hS
      by_cases hlt : i < p.length
      · have hx := List.getElem?_eq_getElem hlt
        have hdr : p.drop i = p[i] :: p.drop (i + 1) := List.drop_eq_getElem_cons hlt
        generalize p[i] = o at *
        obtain ⟨hq1, hb1, hs1⟩ := HQ.out
        rw [hdr] at hq1 hb1
        have hqv := HS.out.own 2
        obtain ⟨g, cap, e1, _⟩ := hqv.form (by omega)
        cases e1
        obtain ⟨x0, x1, x2, x3⟩ := opsC_at hx
        have d0 := hqv.cells' (g := g) rfl x0
        have d1 := hqv.cells' (g := g) rfl x1
        have d2 := hqv.cells' (g := g) rfl x2
        have d3 := hqv.cells' (g := g) rfl x3
        have b2 : decide ((i : Int) < (p.length : Int)) = true := by simp; omega
        have i1 : (i : Int) < (p.length : Int) := by omega
        have i0' : (0 : Int) ≤ (i : Int) := by omega
        clear x0 x1 x2 x3 hx hdr hqv HQ
        by_cases h10 : o.kind = 10
        · have e10 : (o.kind == 10) = true := by simpa using h10
          rw [endsF_10 _ _ _ _ h10] at hq1
          rw [bal_10 _ _ h10] at hb1
          have HQ := hid (show _ ∧ _ ∧ _ from ⟨hq1, hb1, hs1⟩)
          have hS2 := ((HS.out.step ((Keeps.refl (fun _ => False) wr).alloc (.cells #[.int .i64 o.kind, .int .i64 o.res, .int .i64 o.n, .int .i64 o.v] TOp))).new TI [.int .i64 i])
          rw [show (wr.alloc (.cells #[.int .i64 o.kind, .int .i64 o.res, .int .i64 o.n, .int .i64 o.v] TOp)).heap.size = wr.heap.size + 1 by simp] at hS2
          simp only [openC, Kw.red] at hS2
          have HS2 := hid hS2
          clear hS2
          clear hq1 hb1 hs1 h10
          go_wp2_with (at_builtin; refine wpList_appS 4 5 _ _ TSI TI (.int .i64 0) 1 8 infoI Tryd.underlying36 rfl (by decide) rfl rfl HS2.out rfl rfl rfl rfl rfl (by intro u hu; rw [List.mem_singleton] at hu; subst hu; rfl) (by omega) (by unfold maxLen; omega) (by omega) ?_; intro g2 gc w7 hSc hat)
          have hS9 : St F w (openC wb (.slice (some ⟨g, 0, none⟩) p.length oc) (.slice (some ⟨ge, 0, none⟩) p.length p.length) (some cb) p A (st ++ [i]) (.slice (some ⟨g2, 0, none⟩) (st.length + 1) gc)) w7 := by
            have q := hSc.sub [0, 1, 2, 3, 4]
            unfold openC
            rw [List.length_append, List.length_singleton, ← nats_snoc]; exact q
          have HS9 := hid hS9
          clear hS9 hSc HS2 HS
          go_roundw
          case rel => exact ⟨i + 1, st ++ [i], A, by go_num, by omega, hA, by simp; omega, hid ⟨HQ.out.1, by simpa using HQ.out.2.1, fun s hs => by rcases List.mem_append.1 hs with hs | hs; have := HQ.out.2.2 s hs; omega; have := List.mem_singleton.1 hs; omega⟩, HS9.out⟩
          case measure => simp [intOf]; omega
        · have e10 : (o.kind == 10) = false := by simpa using h10
          by_cases h11 : o.kind = 11
          · have e11 : (o.kind == 11) = true := by simpa using h11
            rw [endsF_11 _ _ _ _ h11] at hq1
            rw [bal_11 _ _ h11] at hb1
            by_cases hs0 : st.length = 0
            · rw [if_pos hs0] at hb1; cases hb1
            rw [if_neg hs0] at hb1
            obtain ⟨l, t0, rfl⟩ : ∃ l t, st = l ++ [t] := ⟨st.dropLast, st.getLast (by intro e; rw [e] at hs0; exact hs0 rfl), (List.dropLast_concat_getLast _).symm⟩
            have hS := HS.out
            unfold openC at hS
            simp only [List.length_append, List.length_singleton, Nat.add_sub_cancel] at hb1 hs0 hsti hS
            rw [List.dropLast_concat, List.getLast?_concat, Option.getD_some] at hq1
            have ht0 : t0 < i := hs1 t0 (by simp)
            obtain ⟨g3, c3, e3, _⟩ := (hS.own 4).form (by omega)
            subst e3
            obtain ⟨_, _, e4, hc3⟩ := (hS.own 4).shape
            cases e4
            have dy := (hS.own 4).cells' (g := g3) rfl (nats_at (show (l ++ [t0])[l.length]? = some t0 by simp))
            have dw := (hS.blk 0).cell 3
            have dwz := (hS.blk 0).fz 3
            have dez := (hS.own 3).fz (g := ge) rfl t0
            obtain ⟨ut, hut⟩ : ∃ u, A[t0]? = some u := ⟨_, List.getElem?_eq_getElem (by omega)⟩
            have det := (hS.own 3).cells' (g := ge) rfl (nats_at hut)
            simp only [List.getElem?_cons_zero, List.getElem?_cons_succ] at dw
            have hl4 : l.length ≤ 256 := by omega
            have hwr : IntKind.i64.wrap (((l.length + 1 : Nat) : Int) - 1) = (l.length : Int) := (IntWalk.i64_in _ (by omega)).trans (by omega)
            have HQ := hid (show _ ∧ _ ∧ _ from ⟨hq1, hb1, hs1⟩)
            have hS2 := ((hS.step ((Keeps.refl (fun _ => False) _).alloc (.cells #[.int .i64 o.kind, .int .i64 o.res, .int .i64 o.n, .int .i64 o.v] TOp))).setRow 3 (g := ge) rfl t0 (.int .i64 i)).drew
            simp only [Kw.red, nats_set] at hS2
            have hS3 := hS2.imp (c := .row TI 1 (.slice (some ⟨g3, 0, none⟩) (l.length + 1) c3) (l.length + 1) (nats (l ++ [t0]))) 4 (.row TI 1 (.slice (some ⟨g3, 0, none⟩) l.length c3) l.length (nats l)) (fun F h => ⟨by
              have q := h.1.shorter l.length (by omega)
              rw [show (nats (l ++ [t0])).take (l.length * 1) = nats l by simp [nats]] at q
              exact q, h.2⟩)
            have HS2 := hid (show St F w (openC wb (.slice (some ⟨g, 0, none⟩) p.length oc) (.slice (some ⟨ge, 0, none⟩) p.length p.length) (some cb) p (A.set t0 i) l (.slice (some ⟨g3, 0, none⟩) l.length c3)) _ from hS3)
            clear hq1 hb1 hs1 h10 h11 HS hS hS2 hS3 hut
            go_wp2_with fail
            refine wp_region_mix [true, true, true, true, true, true, true, true, true, true, true, true, false] 0 (fun _ => False) (by kernel_rfl) (by decide +kernel) ?_
            simp only [front, back, List.take_zero, List.drop_zero]
            repeat ((first | refine wpFront_load rfl ?_ | refine wpFront_other rfl ?_); (first | go_big_quiet_step (fail) | quiet_step (fail)); refine wpQuiet_nil ?_)
            refine wpFront_nil ?_
            simp only [wpSegs]
            go_wp2_with fail
            refine NoPanic.normal ?_
            go_wp2_with fail
            go_roundw
            case rel => exact ⟨i + 1, l, A.set t0 i, by go_num, by omega, by rw [List.length_set, hA], by omega, hid ⟨HQ.out.1, HQ.out.2.1, fun s hs => by have := HQ.out.2.2 s (by simp [hs]); omega⟩, HS2.out⟩
            case measure => simp [intOf]; omega
          · have e11 : (o.kind == 11) = false := by simpa using h11
            rw [endsF_no _ _ _ _ h10 h11] at hq1
            rw [bal_no _ _ h10 h11] at hb1
            have HQ := hid (show _ ∧ _ ∧ _ from ⟨hq1, hb1, hs1⟩)
            have HS2 := hid (HS.out.step ((Keeps.refl (fun _ => False) wr).alloc (.cells #[.int .i64 o.kind, .int .i64 o.res, .int .i64 o.n, .int .i64 o.v] TOp)))
            clear hq1 hb1 hs1 h10 h11 HS
            go_wp2_with fail
            go_roundw
            case rel => exact ⟨i + 1, st, A, by go_num, by omega, hA, by omega, hid ⟨HQ.out.1, HQ.out.2.1, fun s hs => by have := HQ.out.2.2 s hs; omega⟩, HS2.out⟩
            case measure => simp [intOf]; omega
      · have b2 : decide ((i : Int) < (p.length : Int)) = false := by simp; omega
        have hq1 := HQ.out.1
        rw [List.drop_eq_nil_of_le (by omega)] at hq1
        have hq1 : A = endsF p 0 [] (List.replicate p.length 0) := hq1
        have hE : ∀ (j : Nat) (o : Cm.Op), p[j]? = some o → o.kind = 10 → (nats A)[j]? = some (Value.int .i64 (endE p j : Nat)) := fun j o hj hk => nats_at (by rw [hq1]; exact ends_all p HFO.out.2 j o hj hk)
        have hS := HS.out.sub [0, 1, 2, 3]
        have hS : St F w (walkC wb (.slice oa p.length oc) (.slice (some ⟨ge, 0, none⟩) p.length p.length) (some cb) p (nats A) [] false) wr := hS
        have hpc := part_any hl (fun o ho => fieldsOk_n (HFO.out.1 o ho)) hE (p.length + 1) 0 p.length wr w F [] hS (Nat.le_refl _) (by omega) (Nat.zero_le _) (by simp) (by rw [seg_all]; exact HFO.out.2)
        rw [seg_all] at hpc
        have hlen := playS_len p [] (by simp)
        have hpa : thn (playS p []) (Cm.step Cm.finish) = r0 := HPA.out
        generalize playS p [] = r at hpc hlen hpa
        obtain ⟨o3, s3⟩ := r
        have HC := hid hpc
        have HP := hid hpa
        clear hS hq1 hE hpc HS HQ hpa HPA
        go_wp2_with fail
        refine HC.out.mono ?_; rintro e w3 ⟨rfl, hS⟩
        cases s3 with
        | go =>
          have e9 : decide (Stt.go = Stt.long) = false := by decide
          rw [e9] at hS
          have hst := wstep_any Cm.finish hS hlen
          have hp := HP.out
          rw [thn_go] at hp
          simp only [decide_true]
          clear hS HP HC e9
          by_cases hl : o3.length = 4096
          · rw [step_full hl] at hst hp
            have HST := hid hst
            have HP := hid hp
            clear hst hp hl
            go_wp2_with fail
            refine HST.out.mono ?_; rintro e w4 ⟨rfl, hS⟩
            have HS4 := hid (show St F w (walkC wb (.slice oa p.length oc) (.slice (some ⟨ge, 0, none⟩) p.length p.length) (some cb) p (nats A) o3 true) w4 from hS)
            clear hS HST
            have h0 := HS4.out.blk 0
            obtain ⟨m1, m2, mz⟩ : w4.cell? ⟨wb, 1, none⟩ = some (.int .i64 _) ∧ w4.cell? ⟨wb, 2, none⟩ = some (.bool true) ∧ (∀ o, w4.frozen? ⟨wb, o, none⟩ = false) := ⟨h0.cell 1, h0.cell 2, h0.fz⟩
            clear h0
            go_wp2_with fail
            go_ret2
            obtain rfl := HP.out
            refine ⟨by simp [walkR], ?_⟩
            exact HS4.out.sub [2, 1]
          · rw [step_last hl rfl] at hst hp
            have HST := hid hst
            have HP := hid hp
            clear hst hp hl
            go_wp2_with fail
            refine HST.out.mono ?_; rintro e w4 ⟨rfl, hS⟩
            have e9 : decide (Stt.done = Stt.long) = false := by decide
            rw [e9] at hS
            have HS4 := hid hS
            clear hS HST e9
            have h0 := HS4.out.blk 0
            obtain ⟨m1, m2, mz⟩ : w4.cell? ⟨wb, 1, none⟩ = some (.int .i64 _) ∧ w4.cell? ⟨wb, 2, none⟩ = some (.bool false) ∧ (∀ o, w4.frozen? ⟨wb, o, none⟩ = false) := ⟨h0.cell 1, h0.cell 2, h0.fz⟩
            clear h0
            go_wp2_with fail
            go_ret2
            obtain rfl := HP.out
            refine ⟨by simp [walkR], ?_⟩
            exact HS4.out.sub [2, 1]
        | done =>
          have e9 : decide (Stt.done = Stt.long) = false := by decide
          rw [e9] at hS
          have hp := HP.out
          rw [thn_no _ (by decide)] at hp
          have HP := hid hp
          have HS4 := hid hS
          have e8 : decide (Stt.done = Stt.go) = false := by decide
          rw [e8]
          clear hS HC hp e9 e8
          have h0 := HS4.out.blk 0
          obtain ⟨m1, m2, mz⟩ : w3.cell? ⟨wb, 1, none⟩ = some (.int .i64 _) ∧ w3.cell? ⟨wb, 2, none⟩ = some (.bool false) ∧ (∀ o, w3.frozen? ⟨wb, o, none⟩ = false) := ⟨h0.cell 1, h0.cell 2, h0.fz⟩
          clear h0
          go_wp2_with fail
          go_ret2
          obtain rfl := HP.out
          refine ⟨by simp [walkR], ?_⟩
          exact HS4.out.sub [2, 1]
        | long =>
          have e9 : decide (Stt.long = Stt.long) = true := by decide
          have hp := HP.out
          rw [thn_no _ (by decide)] at hp
          have HP := hid hp
          have HS4 := hid (show St F w (walkC wb (.slice oa p.length oc) (.slice (some ⟨ge, 0, none⟩) p.length p.length) (some cb) p (nats A) o3 true) w3 from hS)
          have e8 : decide (Stt.long = Stt.go) = false := by decide
          rw [e8]
          clear hS HC hp e9 e8
          have h0 := HS4.out.blk 0
          obtain ⟨m1, m2, mz⟩ : w3.cell? ⟨wb, 1, none⟩ = some (.int .i64 _) ∧ w3.cell? ⟨wb, 2, none⟩ = some (.bool true) ∧ (∀ o, w3.frozen? ⟨wb, o, none⟩ = false) := ⟨h0.cell 1, h0.cell 2, h0.fz⟩
          clear h0
          go_wp2_with fail
          go_ret2
          obtain rfl := HP.out
          refine ⟨by simp [walkR], ?_⟩
          exact HS4.out.sub [2, 1]
end
end Go.Proofs.YtkaecdkmalppcaaDoor
