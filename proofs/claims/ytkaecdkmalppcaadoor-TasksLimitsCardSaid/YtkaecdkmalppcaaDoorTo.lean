/-
  TasksTurned, walked.
-/
import Derived.Test.YtkaecdkmalppcaaDoorTj
import Derived.Test.YtkaecdkmalppcaaDoorSm
namespace Go.Proofs.YtkaecdkmalppcaaDoor
open Go.RowKit Go.Kw Go.Kreg Go.Tm

theorem add_st2 {W w w0 : World} {F0 : Nat → Prop} {c1 : Ch} {cs : List Ch} {p : Nat} {m m' : TM} {n e : Int} (hG : Glob W) (hS : St F0 w0 (glC W :: c1 :: tabC p m :: cs) w) (x : Task) {nd : Value} (hv : SlNd w nd x.needs) (hb : big x.frame) (ha : m.add x = (n, e, m')) :
    Calls Tryd.prog 9 #[.pointer (some ⟨p, 0, none⟩), taskV x nd] w fun r w' => r = .returned (.tuple #[.int .i64 n, .int .i64 e]) ∧ St F0 w0 (glC W :: c1 :: tabC p m' :: cs) w' := by
  obtain ⟨F1, g1, _, _, bk⟩ := hS.sel [0, 2]
  have g2 : Sts [glC W, tabC p m] F1 w := g1
  refine (add_any hG g2 x hv hb).mono fun r w' ⟨h1, h2⟩ => ⟨?_, ?_⟩
  · rw [h1, ha]
  · rw [ha] at h2; exact bk h2
theorem tasksV_len : ∀ {l : List Task} {nds : List Value}, nds.length = l.length → (tasksV l nds).length = l.length * 8
  | [], [], _ => rfl
  | x :: l, nd :: nds, h => by
    simp only [tasksV, List.length_append, List.length_cons, List.length_nil] at *
    rw [tasksV_len (by omega)]; omega
theorem tasksV_app : ∀ {l : List Task} {nds : List Value} (x : Task) (nd : Value), nds.length = l.length → tasksV (l ++ [x]) (nds ++ [nd]) = tasksV l nds ++ [.string x.name, .int .i64 x.level, .int .i64 x.frame, nd, .string x.code, .int .i64 x.period, .int .i64 x.first, .int .i64 x.gap]
  | [], [], x, nd, _ => by simp [tasksV]
  | y :: l, md :: nds, x, nd, h => by
    simp only [List.cons_append, tasksV]
    rw [tasksV_app x nd (by simpa using h)]
    simp
/-- The tasks kept beside: their needs read as they came in. -/
structure Kept (w : World) (ts : List Task) (nds : List Value) : Prop where
  len : nds.length = ts.length
  each : ∀ (k : Nat) x, ts[k]? = some x → ∃ na nc, nds[k]? = some (.slice na x.needs.length nc) ∧ SlNd w (.slice na x.needs.length nc) x.needs ∧ big x.frame
theorem Kept.nil (w : World) : Kept w [] [] := ⟨rfl, fun k x h => by simp at h⟩
theorem Kept.add {w : World} {ts : List Task} {nds : List Value} (h : Kept w ts nds) {x : Task} {na : Option Addr} {nc : Nat} (hn : SlNd w (.slice na x.needs.length nc) x.needs) (hb : big x.frame) : Kept w (ts ++ [x]) (nds ++ [.slice na x.needs.length nc]) := by
  refine ⟨by simp [h.len], fun k y hk => ?_⟩
  by_cases hlt : k < ts.length
  · rw [List.getElem?_append_left hlt] at hk
    obtain ⟨a, c, h1, h2⟩ := h.each k y hk
    exact ⟨a, c, by rw [List.getElem?_append_left (by rw [h.len]; exact hlt)]; exact h1, h2⟩
  · rw [List.getElem?_append_right (by omega)] at hk
    have hk0 : k = ts.length := by
      have := (List.getElem?_eq_some_iff.1 hk).1
      simp at this; omega
    subst hk0
    simp at hk; subst hk
    exact ⟨na, nc, by rw [List.getElem?_append_right (by rw [h.len]; exact Nat.le_refl _), h.len]; simp, hn, hb⟩
/-- A kept task's cells. -/
theorem kept_cells {w : World} {ts : List Task} {nds : List Value} {g cap : Nat} (ho : Own w TTk 8 (.slice (some ⟨g, 0, none⟩) ts.length cap) ts.length (tasksV ts nds)) {k : Nat} {x : Task} {nd : Value} (hx : ts[k]? = some x) (hn : nds[k]? = some nd) : TkAt w g (k * 8) nd x := by
  have ha := tasksV_at hx hn
  have key : ∀ (j : Nat) u, j < 8 → [.string x.name, .int .i64 x.level, .int .i64 x.frame, nd, .string x.code, .int .i64 x.period, .int .i64 x.first, .int .i64 x.gap][j]? = some u → w.cell? ⟨g, k * 8 + j, none⟩ = some u := fun j u hj hu => ho.cells' (g := g) rfl ((ha j hj).trans hu)
  exact ⟨key 0 _ (by omega) rfl, key 1 _ (by omega) rfl, key 2 _ (by omega) rfl, key 3 _ (by omega) rfl, key 4 _ (by omega) rfl, key 5 _ (by omega) rfl, key 6 _ (by omega) rfl, key 7 _ (by omega) rfl⟩
def T5 (ts : List Task) : TM := ⟨65536, [5, 5, 5, 5], ts⟩
theorem T5_begins : begins 65536 [5, 5, 5, 5] = 0 := by decide

theorem task8_one (x : Task) (na : Option Addr) (nc : Nat) : ∀ u ∈ [.string x.name, .int .i64 x.level, .int .i64 x.frame, .slice na x.needs.length nc, .string x.code, .int .i64 x.period, .int .i64 x.first, .int .i64 x.gap], Value.oneCell' u = true := by
  intro u hu; simp only [List.mem_cons, List.not_mem_nil, or_false] at hu; rcases hu with rfl | rfl | rfl | rfl | rfl | rfl | rfl | rfl <;> rfl
theorem prog_len (x : Task) : (prog x).1.length ≤ 4096 := by
  unfold prog
  generalize x.code.data.toList = l
  cases hp : Cm.parse l with
  | err i e =>
    have : (Cm.program l).1 = [] := by unfold Cm.program; rw [hp]
    rw [this]; simp
  | ok p =>
    rw [Cm.program_ok hp]
    have h1 : (Cm.playAll p).1.length ≤ 4096 := Cm.thn_len (Cm.playS_len p [] (by simp)) (f := Cm.step Cm.finish) fun o h => Cm.step_len h
    generalize Cm.playAll p = r at *
    obtain ⟨o, s⟩ := r
    cases s <;> simp <;> exact h1
theorem once_rev {ts : List Task} (h : (ts.map (·.name)).Nodup) : (ts.reverse.map (·.name)).Nodup := by
  rw [List.map_reverse]
  unfold List.Nodup at *
  rw [List.pairwise_reverse]
  exact h.imp fun h => h.symm
theorem turned_new {ts : List Task} (hok : (T5 ts).Ok) {c : Nat} {x : Task} (hx : ts.reverse[c]? = some x) (hl : ts.length ≤ 30) : (T5 (ts.reverse.take c)).add x = ((c : Int), 0, T5 (ts.reverse.take (c + 1))) := by
  have hlt := (List.getElem?_eq_some_iff.1 hx).1
  have htk : ts.reverse.take (c + 1) = ts.reverse.take c ++ [x] := by rw [List.take_add_one, hx]; rfl
  have hlen : (ts.reverse.take c).length = c := by rw [List.length_take]; omega
  have hnd : ((ts.reverse.take (c + 1)).map (·.name)).Nodup := by
    have := once_rev (ts := ts) hok.once
    rw [List.map_take]
    exact this.sublist (List.take_sublist _ _)
  rw [htk, List.map_append, List.nodup_append] at hnd
  have hck : TM.check ⟨(T5 ts).words, (T5 ts).units, ts.reverse.take c⟩ x = 0 := check_less hok (List.mem_reverse.1 (List.mem_of_getElem? hx)) (fun t ht => List.mem_reverse.1 (List.mem_of_mem_take ht))
    (fun t ht => hnd.2.2 _ (List.mem_map_of_mem ht) _ (by simp)) (by rw [hlen]; simp at hlt; omega)
  have := add_yes hck
  rw [htk]
  unfold T5 at *
  rw [this]
  simp only [hlen]
section
variable {W w : World} {F : Nat → Prop}
set_option maxRecDepth 100000 in
set_option maxHeartbeats 16000000 in
theorem turned_law (hG : Glob W) (hg : (glC W).holds F w) {v : Value} {l : List Task} (hv : SlTk w v l) :
    Calls Tryd.prog 6 #[v] w fun e w' => e = .returned (.bool true) ∧ Keeps (fun _ => False) w w' := by
  have hfw := few_any hv 30 (by omega)
  have hlen : (l.take 30).length ≤ 30 := by rw [List.length_take]; omega
  generalize l.take 30 = l' at *
  have HSg := hid (St.of (Sts.one hg))
  have Hg := hid hg
  clear hg hv
  go_enter Tryd.func6, Tryd.ntmps6
  go_wp2_with fail
  refine hfw.mono ?_; rintro e w1 ⟨⟨v', rfl, hv⟩, rfl⟩
  obtain ⟨ao, c, rfl, hl1, hl2, hl3, -⟩ := id hv
  have HV := hid hv
  clear hv hfw
  go_wp2_with fail
  refine (new_any (SlIn.blk (b := w.heap.size) (l := [5, 5, 5, 5]) (Blk.new w TI' (intsC [5, 5, 5, 5])) (by simp)) 65536).mono ?_; rintro e w1 hor
  obtain ⟨p, rfl, hS⟩ := new_ok T5_begins (HSg.out.step ((Keeps.refl (fun _ => False) w).alloc (.cells (intsC [5, 5, 5, 5]).toArray TI'))) hor
  have HS1 := hid (show St F w [glC W, tabC p (T5 [])] w1 from hS)
  clear hS hor HSg
  go_wp2_with fail
  refine (new_any (SlIn.blk (b := w1.heap.size) (l := [5, 5, 5, 5]) (Blk.new w1 TI' (intsC [5, 5, 5, 5])) (by simp)) 65536).mono ?_; rintro e w2 hor
  obtain ⟨q, rfl, hS⟩ := new_ok T5_begins (HS1.out.step ((Keeps.refl (fun _ => False) w1).alloc (.cells (intsC [5, 5, 5, 5]).toArray TI'))) hor
  have HS2 := hid (show St F w [glC W, tabC p (T5 []), tabC q (T5 []), .row TTk 8 (.slice none 0 0) 0 (tasksV [] [])] w2 from hS.add (Keeps.refl (fun _ => False) _) (G := fun _ => False) (c := .row TTk 8 (.slice none 0 0) 0 []) ⟨⟨rfl, .inl ⟨rfl, rfl⟩⟩, fun b => by simp [Value.ownBlock]⟩ (fun _ h => h.elim))
  clear hS hor HS1
  go_wp2_with fail
  go_loopw [8, 7] (fun x y wr => ∃ (k : Nat) (ts : List Task) (nds : List Value), k ≤ l'.length ∧ ts.length ≤ k ∧ x = .int .i64 k ∧ Kept w ts nds ∧ St F w [glC W, tabC p (T5 ts), tabC q (T5 []), .row TTk 8 y ts.length (tasksV ts nds)] wr) (fun x _ _ => l'.length - (intOf x).toNat)
  case atStart => exact ⟨0, [], [], Nat.zero_le _, Nat.le_refl _, rfl, Kept.nil w, HS2.out⟩
  case round =>
    clear HS2
    obtain ⟨k, ts, nds, hk, htk, rfl, hkept, hS⟩ := hrel
    obtain ⟨ia, ic, rfl, -⟩ := (hS.own 3).shape
    by_cases hlt : k < l'.length
    · have hx := List.getElem?_eq_getElem hlt
      have hkp := (glob_keeps Hg.out hS).1
      obtain ⟨b, o, na, nc, rfl, ⟨d0, d1, d2, d3, d4, d5, d6, d7⟩, hnd, hl, hf, -, -, -⟩ := (HV.out.new hkp).one hx
      obtain ⟨b', o', na', nc', e1, ⟨-, -, -, g3, -⟩, hnd0, -⟩ := HV.out.one hx
      cases e1
      have hnn : Value.slice na l'[k].needs.length nc = .slice na' l'[k].needs.length nc' := by
        have := cellIn hkp g3
        rw [d3] at this; exact Option.some.inj this
      cases hnn
      generalize l'[k] = x at *
      have b1 : decide (k < l'.length) = true := by simpa using hlt
      have i0 : (0 : Int) ≤ (k : Int) := by omega
      have i1 : (k : Int) < (l'.length : Int) := by omega
      have HSr := hid hS
      have Hnd := hid hnd
      have Hnd0 := hid hnd0
      have Hkept := hid hkept
      have Hx := hid hx
      have D3 := hid g3
      clear hx hkp hS hnd hnd0 hkept g3
      by_cases hcode : 5000 < x.code.size
      · have b2 : decide ((5000 : Int) < (x.code.size : Int)) = true := by simp; omega
        go_wp2_with fail
        exact ⟨⟨k + 1, ts, nds, by omega, by omega, by go_num, Hkept.out, HSr.out⟩, by simp [intOf]; omega⟩
      · have b2 : decide ((5000 : Int) < (x.code.size : Int)) = false := by simp; omega
        by_cases hnl : 40 < x.needs.length
        · have b3 : decide ((40 : Int) < (x.needs.length : Int)) = true := by simp; omega
          go_wp2_with fail
          exact ⟨⟨k + 1, ts, nds, by omega, by omega, by go_num, Hkept.out, HSr.out⟩, by simp [intOf]; omega⟩
        · have b3 : decide ((40 : Int) < (x.needs.length : Int)) = false := by simp; omega
          obtain ⟨E, hE⟩ : ∃ E, (T5 ts).check x = E := ⟨_, rfl⟩
          by_cases h0 : E = 0
          · subst h0
            have hadd : (T5 ts).add x = ((ts.length : Int), 0, T5 (ts ++ [x])) := add_yes hE
            have HA := hid (add_st hG HSr.out x Hnd.out hf hadd)
            unfold taskV at HA
            clear hE hadd
            go_wp2_with fail
            refine HA.out.mono ?_; rintro r w3 ⟨rfl, hS3⟩
            have hkp3 := (glob_keeps Hg.out hS3).1
            obtain ⟨b', o', na', nc', e1, ⟨g0, g1, g2, g3, g4, g5, g6, g7⟩, -⟩ := (HV.out.new hkp3).one Hx.out
            cases e1
            have hnn : Value.slice na x.needs.length nc = .slice na' x.needs.length nc' := by
              have := cellIn hkp3 D3.out
              rw [g3] at this; exact (Option.some.inj this).symm
            cases hnn
            clear d0 d1 d2 d3 d4 d5 d6 d7
            have hS4 := hS3.new TTk [.string x.name, .int .i64 x.level, .int .i64 x.frame, .slice na x.needs.length nc, .string x.code, .int .i64 x.period, .int .i64 x.first, .int .i64 x.gap]
            simp only [Kw.red] at hS4
            have HS4 := hid hS4
            clear hS3 hS4 hkp3 HA HSr
            go_wp2_with (at_builtin; refine wpList_appS 3 4 _ _ TTks TTk (.agg ztask.toArray) 8 96 infoTk Tryd.underlying35 rfl (by decide) rfl rfl HS4.out rfl rfl rfl rfl rfl (task8_one x na nc) (by omega) (by unfold maxLen; omega) (by omega) ?_; intro g gc w7 hSc hat)
            refine ⟨⟨k + 1, ts ++ [x], nds ++ [.slice na x.needs.length nc], by omega, by simp; omega, by go_num, Hkept.out.add Hnd0.out hf, ?_⟩, by simp [intOf]; omega⟩
            rw [tasksV_app x _ Hkept.out.len, show (ts ++ [x]).length = ts.length + 1 by simp]
            exact hSc.sub [0, 1, 2, 3]
          · have hadd : (T5 ts).add x = (-1, E, T5 ts) := add_no hE h0
            have bE : (E == 0) = false := by simpa using h0
            have HA := hid (add_st hG HSr.out x Hnd.out hf hadd)
            unfold taskV at HA
            clear hE hadd h0
            go_wp2_with fail
            refine HA.out.mono ?_; rintro r w3 ⟨rfl, hS3⟩
            have HSr := hid hS3
            clear hS3 HA
            go_wp2_with fail
            exact ⟨⟨k + 1, ts, nds, by omega, by omega, by go_num, Hkept.out, HSr.out⟩, by simp [intOf]; omega⟩
    · have b1 : decide (k < l'.length) = false := by simpa using hlt
      obtain ⟨y0, hy0⟩ := tab_at 1 hS
      have Hok := hid hy0.tok.ok
      have hn30 : ts.length ≤ 30 := by omega
      have HS := hid hS
      have Hkept := hid hkept
      clear hS hy0 hkept
      go_wp2_with fail
      go_loopw [11] (fun x wr => ∃ (c : Nat) (i : Int), c ≤ ts.length ∧ i = (ts.length : Int) - 1 - c ∧ x = .int .i64 i ∧ St F w [glC W, tabC p (T5 ts), tabC q (T5 (ts.reverse.take c)), .row TTk 8 (.slice ia ts.length ic) ts.length (tasksV ts nds)] wr) (fun x _ => (intOf x + 1).toNat)
      case atStart => exact ⟨0, (ts.length : Int) - 1, Nat.zero_le _, by simp, rfl, HS.out⟩
      case round =>
        clear HS
        obtain ⟨c2, i, hc2, hi, rfl, hS⟩ := hrel
        by_cases hge : 0 ≤ i
        · have b4 : decide (0 ≤ i) = true := by simpa using hge
          obtain ⟨k2, rfl⟩ := Int.eq_ofNat_of_zero_le hge
          have hk2 : k2 < ts.length := by omega
          have hx := List.getElem?_eq_getElem hk2
          have hxr : ts.reverse[c2]? = some ts[k2] := by
            rw [List.getElem?_reverse (by omega), show ts.length - 1 - c2 = k2 by omega]; exact hx
          obtain ⟨na, nc, hn1, hn2, hn3⟩ := Hkept.out.each k2 _ hx
          have hkp := (glob_keeps Hg.out hS).1
          obtain ⟨ga, gcap, e1, -⟩ := (hS.own 3).form (by omega)
          cases e1
          obtain ⟨d0, d1, d2, d3, d4, d5, d6, d7⟩ := kept_cells (hS.own 3) hx hn1
          have hadd := turned_new Hok.out hxr hn30
          generalize ts[k2] = x at *
          have HA := hid (add_st2 hG hS x (hn2.new hkp) hn3 hadd)
          have i0 : (0 : Int) ≤ (k2 : Int) := by omega
          have i1 : (k2 : Int) < (ts.length : Int) := by omega
          have b5 : ((c2 : Int) != (ts.length : Int) - 1 - (k2 : Int)) = false := by simp; omega
          have Hi := hid hi
          unfold taskV at HA
          clear hx hxr hn1 hn2 hkp hadd hS hi
          go_wp2_with fail
          refine HA.out.mono ?_; rintro r w3 ⟨rfl, hS3⟩
          have HS3 := hid hS3
          clear hS3 HA d0 d1 d2 d3 d4 d5 d6 d7
          go_wp2_with fail
          go_roundw
          case rel => exact ⟨c2 + 1, (k2 : Int) - 1, by have := Hi.out; omega, by have := Hi.out; omega, by go_num, HS3.out⟩
          case measure => first | (simp [intOf]; done) | (simp [intOf]; omega)
        · have b4 : decide (0 ≤ i) = false := by simpa using hge
          have hrt : ts.reverse.take c2 = ts.reverse := by rw [List.take_of_length_le (by rw [List.length_reverse]; omega)]
          rw [hrt] at hS
          have HS := hid hS
          clear hS hi hge hrt
          go_wp2_with fail
          go_loopw [14] (fun x wr => ∃ i : Nat, i ≤ ts.length ∧ x = .int .i64 i ∧ St F w [glC W, tabC p (T5 ts), tabC q (T5 ts.reverse), .row TTk 8 (.slice ia ts.length ic) ts.length (tasksV ts nds)] wr) (fun x _ => ts.length - (intOf x).toNat)
          case atStart => exact ⟨0, Nat.zero_le _, rfl, HS.out⟩
          case round =>
            clear HS
            obtain ⟨i, hi, rfl, hS⟩ := hrel
            obtain ⟨yt, hyt⟩ := tab_at 1 hS
            obtain ⟨yu, hyu⟩ := tab_at 2 hS
            by_cases hit : i < ts.length
            · have hx := List.getElem?_eq_getElem hit
              obtain ⟨na, nc, hn1, -, -⟩ := Hkept.out.each i _ hx
              have hxr : ts.reverse[ts.length - 1 - i]? = some ts[i] := by
                rw [List.getElem?_reverse (by omega), show ts.length - 1 - (ts.length - 1 - i) = i by omega]; exact hx
              obtain ⟨ga, gcap, e1, -⟩ := (hS.own 3).form (by omega)
              cases e1
              obtain ⟨d0, d1, -⟩ := kept_cells (hS.own 3) hx hn1
              have hf1 : find (T5 ts).ts ts[i].name = some i := find_at hyt.tok.ok.once hx
              have hf2 : find (T5 ts.reverse).ts ts[i].name = some (ts.length - 1 - i) := find_at hyu.tok.ok.once hxr
              have hbd := fun r => needOf_bd r (hyt.tok.ok.needs _ (List.mem_of_getElem? hx)) (us := [5, 5, 5, 5]) (by decide)
              have hnt := fun r => mem_at (ts := (T5 ts).ts) (n := (i : Int)) (by omega) (by rw [Int.toNat_natCast]; exact hx) r
              have hnu := fun r => mem_at (ts := (T5 ts.reverse).ts) (n := ((ts.length - 1 - i : Nat) : Int)) (by omega) (by rw [Int.toNat_natCast]; exact hxr) r
              have hlg : largest (T5 ts.reverse).ts ts[i].level = largest (T5 ts).ts ts[i].level := largest_same (fun t => List.mem_reverse) _
              have HSi := hid hS
              have Ht := hid hyt
              have Hu := hid hyu
              have Hx := hid hx
              have Hxr := hid hxr
              generalize ts[i] = x at *
              have b4 : decide (i < ts.length) = true := by simpa using hit
              have i0 : (0 : Int) ≤ (i : Int) := by omega
              have i1 : (i : Int) < (ts.length : Int) := by omega
              have hfi := find_any Ht.out x.name
              rw [hf1] at hfi
              have b5 : (((ts.length - 1 - i : Nat) : Int) != (ts.length : Int) - 1 - (i : Int)) = false := by simp; omega
              have Hf2 := hid hf2
              have Hbd := hid hbd
              have Hnt := hid hnt
              have Hnu := hid hnu
              have Hlg := hid hlg
              generalize hri : ((ts.length - 1 - i : Nat) : Int) = ri at *
              have Hri := hid hri
              clear hx hxr hn1 hS hyt hyu hf1 hf2 hbd hnt hnu hlg hri
              go_wp2_with fail
              refine hfi.mono ?_; rintro r w2 ⟨rfl, k2⟩
              have K2 := hid k2
              have d0' := cellIn k2 d0
              have d1' := cellIn k2 d1
              have hfi2 := find_any (Hu.out.keeps k2) x.name
              rw [Hf2.out] at hfi2
              simp only [Option.getD_some, Option.isSome_some, Hri.out] at hfi2
              clear d0 d1 hfi k2
              go_wp2_with fail
              refine hfi2.mono ?_; rintro r w3 ⟨rfl, k3⟩
              have K3 := hid (K2.out.trans k3)
              have d1 := cellIn k3 d1'
              clear d0' d1' hfi2 k3 K2
              have hl2 := fun (w4 : World) (k : Keeps (fun _ => False) wr w4) => largest_any (Hu.out.keeps k) x.level
              rw [Hlg.out] at hl2
              have hl1 := largest_any (Ht.out.keeps (K3.out.drew)) x.level
              generalize largest (T5 ts).ts x.level = LV at *
              have HL1 := hid hl1
              have HL2 := hid hl2
              clear hl1 hl2
              go_wp2_with fail
              refine wp_region_mix [true, true, true, true, true, true, true, true, true, true, true, true, true, true, true, true, true, true, true, true, true, true, true, true, true, true, true, false, true, true, true, true, true, true, false, false, false] 2 (fun _ => False) (by kernel_rfl) (by decide +kernel) ?_
              simp only [front, back, List.take_succ_cons, List.take_zero, List.drop_succ_cons, List.drop_zero]
              repeat ((first | refine wpFront_load rfl ?_ | refine wpFront_other rfl ?_); (first | go_big_quiet_step (fail) | quiet_step (fail)); refine wpQuiet_nil ?_)
              refine wpFront_nil ?_
              simp only [wpSegs]
              go_wp2_with fail
              refine HL1.out.mono ?_; rintro r w4 ⟨rfl, k4⟩
              have K34 := hid ((Keeps.refl (fun _ => False) w3).drew.trans k4)
              have K4 := hid (K3.out.trans K34.out)
              clear k4 K3 HL1
              go_wp2_with fail
              refine segQ_normal K34.out ?_
              go_wp2_with fail
              refine (HL2.out _ K4.out).mono ?_; rintro r w5 ⟨rfl, k5⟩
              have K5 := hid (K4.out.trans k5)
              have K35 := hid (K34.out.trans k5)
              clear k5 K4 HL2 K34
              go_wp2_with fail
              refine segQ_normal K35.out ?_
              clear K35
              go_wp2_with fail
              refine NoPanic.normal ?_
              go_wp2_with fail
              have M1 := fun (w7 : World) (k : Keeps (fun _ => False) wr w7) (j : Int) => need_any (Ht.out.keeps k) (i : Int) j
              have M2 := fun (w7 : World) (k : Keeps (fun _ => False) wr w7) (j : Int) => need_any (Hu.out.keeps k) ri j
              have S1 := fun (w7 : World) (k : Keeps (fun _ => False) wr w7) => tsteps_in (Ht.out.keeps k) (show (T5 ts).ts[i]? = some x from Hx.out) (prog_len x)
              have S2 := fun (w7 : World) (k : Keeps (fun _ => False) wr w7) => tsteps_in (Hu.out.keeps k) (show (T5 ts.reverse).ts[ts.length - 1 - i]? = some x from Hxr.out) (prog_len x)
              rw [Hri.out] at S2
              have HM1 := hid M1
              have HM2 := hid M2
              have HS1 := hid S1
              have HS2 := hid S2
              clear M1 M2 S1 S2
              go_loopw [19] (fun y w6 => ∃ j : Nat, j ≤ 5 ∧ y = .int .i64 j ∧ Keeps (fun _ => False) wr w6) (fun y _ => 5 - (intOf y).toNat)
              case atStart => exact ⟨0, by omega, rfl, K5.out⟩
              case round =>
                clear K5
                obtain ⟨j, hj, rfl, hK⟩ := hrel
                have HK := hid hK
                by_cases hj5 : j < 5
                · have b6 : decide ((j : Int) < 5) = true := by simp; omega
                  obtain ⟨n0, n1⟩ := Hbd.out (j : Int)
                  have n2 : needOf x.needs (j : Int) ≤ 5 := by
                    rcases n1 with h | ⟨_, h2, h3⟩
                    · omega
                    · have : ([5, 5, 5, 5] : List Int).getD (j : Int).toNat 0 ≤ 5 := by
                        rw [Int.toNat_natCast]
                        obtain rfl | rfl | rfl | rfl | rfl : j = 0 ∨ j = 1 ∨ j = 2 ∨ j = 3 ∨ j = 4 := by omega
                        all_goals decide
                      omega
                  have m1 := fun w7 k => HM1.out w7 k (j : Int)
                  have m2 := fun w7 k => HM2.out w7 k (j : Int)
                  rw [Hnt.out (j : Int)] at m1
                  have hnu := Hnu.out (j : Int)
                  rw [hnu] at m2
                  generalize needOf x.needs (j : Int) = ND at *
                  have e1 : decide (ND < 0) = false := by simp; omega
                  have e2 : decide (5 < ND) = false := by simp; omega
                  clear hK n1 hnu
                  go_wp2_with fail
                  refine (m1 _ HK.out).mono ?_; rintro r w7 ⟨rfl, k7⟩
                  have K7 := hid (HK.out.trans k7)
                  clear k7 HK
                  go_wp2_with fail
                  refine (m2 _ K7.out).mono ?_; rintro r w8 ⟨rfl, k8⟩
                  have K8 := hid (K7.out.trans k8)
                  clear k8 K7
                  go_wp2_with fail
                  refine (m1 _ K8.out).mono ?_; rintro r w9 ⟨rfl, k9⟩
                  have K9 := hid (K8.out.trans k9)
                  clear k9 K8
                  go_wp2_with fail
                  refine (m1 _ K9.out).mono ?_; rintro r w10 ⟨rfl, k10⟩
                  have K10 := hid (K9.out.trans k10)
                  clear k10 K9
                  go_wp2_with fail
                  go_roundw
                  case rel => exact ⟨j + 1, by omega, by go_num, K10.out⟩
                  case measure => simp [intOf]; omega
                · have b6 : decide ((j : Int) < 5) = false := by simp; omega
                  have s1 := HS1.out _ hK
                  have s2 := HS2.out
                  have hpl := prog_len x
                  generalize (prog x).1 = PX at *
                  clear hK
                  go_wp2_with fail
                  refine s1.mono ?_; rintro r w7 ⟨g1, rfl, hS7⟩
                  have K7 := hid (HK.out.trans hS7.keeps)
                  have HS7 := hid hS7
                  clear hS7 s1 HK
                  go_wp2_with fail
                  refine (s2 _ K7.out).mono ?_; rintro r w8 ⟨g2, rfl, hS8⟩
                  have K8 := hid (K7.out.trans hS8.keeps)
                  have r1 := Rd.blk (n := PX.length) (sz := 4) ((HS7.out.step hS8.keeps).blk 0) (by omega) (opsC_len PX)
                  have r2 := Rd.blk (n := PX.length) (sz := 4) (hS8.blk 0) (by omega) (opsC_len PX)
                  have hsm := sameOp_any r1 r2
                  rw [show decide (PX = PX) = true by simp] at hsm
                  clear hS8 s2 HS7 K7 r1 r2
                  go_wp2_with fail
                  refine hsm.mono ?_; rintro r w9 ⟨rfl, n9, rfl⟩
                  clear hsm
                  go_wp2_with fail
                  go_roundw
                  case rel => exact ⟨i + 1, by omega, by go_num, HSi.out.step (K8.out.drewN n9)⟩
                  case measure => simp [intOf]; omega
            · have b4 : decide (i < ts.length) = false := by simpa using hit
              have hb1 := bound_any hyt
              have hb2 := fun (w4 : World) (k : Keeps (fun _ => False) wr w4) => bound_any (hyu.keeps k)
              rw [show bound (T5 ts.reverse).ts = bound (T5 ts).ts from bound_same fun t => List.mem_reverse] at hb2
              have hl1 := fun (w4 : World) (k : Keeps (fun _ => False) wr w4) => tlen_any (hyt.keeps k)
              have hl2 := fun (w4 : World) (k : Keeps (fun _ => False) wr w4) => tlen_any (hyu.keeps k)
              rw [show (((T5 ts.reverse).ts.length : Nat) : Int) = ((T5 ts).ts.length : Int) by simp [T5]] at hl2
              generalize bound (T5 ts).ts = BB at *
              generalize ((T5 ts).ts.length : Int) = LL at *
              have HSi := hid hS
              clear hS hyt hyu
              go_wp2_with fail
              refine hb1.mono ?_; rintro r w3 ⟨rfl, k3⟩
              have K3 := hid k3
              clear hb1 k3
              go_wp2_with fail
              refine (hb2 _ K3.out).mono ?_; rintro r w4 ⟨rfl, k4⟩
              have K4 := hid (K3.out.trans k4)
              clear hb2 k4 K3
              go_wp2_with fail
              refine (hl1 _ K4.out).mono ?_; rintro r w5 ⟨rfl, rfl⟩
              go_wp2_with fail
              refine (hl2 _ K4.out).mono ?_; rintro r w5 ⟨rfl, rfl⟩
              have HS4 := hid (HSi.out.step K4.out)
              clear hl1 hl2
              go_wp2_with fail
              refine (runs_any hG (HS4.out.at 0 rfl).choose_spec.1).mono ?_; rintro r w5 ⟨rfl, k5⟩
              go_wp2_with fail
              go_ret
              exact ⟨rfl, ((glob_keeps Hg.out HS4.out).1).trans k5⟩
end
end Go.Proofs.YtkaecdkmalppcaaDoor
