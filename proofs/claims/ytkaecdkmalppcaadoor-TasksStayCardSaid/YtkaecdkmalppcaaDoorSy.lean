/-
  TasksStay, walked.
-/
import Derived.Test.YtkaecdkmalppcaaDoorTo
import Derived.Test.YtkaecdkmalppcaaDoorCe
namespace Go.Proofs.YtkaecdkmalppcaaDoor
open Go.RowKit Go.Kw Go.Kreg Go.Tm

def T9 (ts : List Task) : TM := ⟨65536, [9, 9, 9, 9], ts⟩
theorem T9_begins : begins 65536 [9, 9, 9, 9] = 0 := by decide
set_option maxRecDepth 100000 in
theorem same_any {w : World} (x : Task) {na ma : Option Addr} {nc mc : Nat} (h1 : Rd w (.slice na x.needs.length nc) x.needs.length 2 (needsC x.needs)) (h2 : Rd w (.slice ma x.needs.length mc) x.needs.length 2 (needsC x.needs)) :
    Calls Tryd.prog 21 #[taskV x (.slice na x.needs.length nc), taskV x (.slice ma x.needs.length mc)] w fun e w' => e = .returned (.bool true) ∧ Keeps (fun _ => False) w w' := by
  have k0 := ((Keeps.refl (fun _ => False) w).alloc (.cells #[.string x.name, .int .i64 x.level, .int .i64 x.frame, .slice na x.needs.length nc, .string x.code, .int .i64 x.period, .int .i64 x.first, .int .i64 x.gap] TTk)).alloc (.cells #[.string x.name, .int .i64 x.level, .int .i64 x.frame, .slice ma x.needs.length mc, .string x.code, .int .i64 x.period, .int .i64 x.first, .int .i64 x.gap] TTk)
  have hs := sameNd_any (h1.new k0) (h2.new k0)
  rw [show decide (x.needs = x.needs) = true by simp] at hs
  unfold taskV
  generalize x.needs.length = nl at *
  clear h1 h2
  go_enter Tryd.func21, Tryd.ntmps21
  go_wp2_with fail
  refine hs.mono ?_; rintro e w1 ⟨rfl, n1, rfl⟩
  clear hs
  go_wp2_with fail
  go_ret
  exact ⟨rfl, k0.drewN n1⟩
theorem steps_last {x : Task} (h : (prog x).2 = 0) : ∃ l o, (prog x).1 = l ++ [o] ∧ o.kind = 9 := by
  unfold prog at *
  generalize x.code.data.toList = c at *
  cases hp : Cm.parse c with
  | err i e =>
    have h2 : (Cm.program c).2 = e := by unfold Cm.program; rw [hp]
    have h3 := Cm.program_err c
    exfalso
    rw [h2] at h
    subst h
    unfold Cm.parse at hp
    split at hp
    · cases hp
    · have := Cm.parseT_err hp
      unfold Cm.okE at this; omega
  | ok p =>
    rw [Cm.program_ok hp] at h ⊢
    have hne := playAll_ne p
    have hf := Cm.fin_all p
    generalize Cm.playAll p = r at *
    obtain ⟨o, s⟩ := r
    cases s with
    | go => exact absurd rfl hne
    | done => exact hf rfl
    | long => simp at h
theorem last_cell {l : List Cm.Op} {o : Cm.Op} {P : List Cm.Op} (h : P = l ++ [o]) : (opsC P)[(P.length - 1) * 4]? = some (.int .i64 o.kind) := by
  subst h
  exact (opsC_at (i := (l ++ [o]).length - 1) (by simp)).1
section
variable {W w : World} {F : Nat → Prop}
set_option maxRecDepth 100000 in
set_option maxHeartbeats 16000000 in
theorem stay_law (hG : Glob W) (hg : (glC W).holds F w) {v : Value} {l : List Task} (hv : SlTk w v l) :
    Calls Tryd.prog 7 #[v] w fun e w' => e = .returned (.bool true) ∧ Keeps (fun _ => False) w w' := by
  have hfw := few_any hv 40 (by omega)
  have hlen : (l.take 40).length ≤ 40 := by rw [List.length_take]; omega
  generalize l.take 40 = l' at *
  have HSg := hid (St.of (Sts.one hg))
  have Hg := hid hg
  clear hg hv
  go_enter Tryd.func7, Tryd.ntmps7
  go_wp2_with fail
  refine hfw.mono ?_; rintro e w1 ⟨⟨v', rfl, hv⟩, rfl⟩
  obtain ⟨ao, c, rfl, hl1, hl2, hl3, -⟩ := id hv
  have HV := hid hv
  clear hv hfw
  go_wp2_with fail
  refine (new_any (SlIn.blk (b := w.heap.size) (l := [9, 9, 9, 9]) (Blk.new w TI' (intsC [9, 9, 9, 9])) (by simp)) 65536).mono ?_; rintro e w1 hor
  obtain ⟨p, rfl, hS⟩ := new_ok T9_begins (HSg.out.step ((Keeps.refl (fun _ => False) w).alloc (.cells (intsC [9, 9, 9, 9]).toArray TI'))) hor
  have HS2 := hid (show St F w [glC W, tabC p (T9 []), .row TTk 8 (.slice none 0 0) 0 (tasksV [] [])] w1 from hS.add (Keeps.refl (fun _ => False) _) (G := fun _ => False) (c := .row TTk 8 (.slice none 0 0) 0 []) ⟨⟨rfl, .inl ⟨rfl, rfl⟩⟩, fun b => by simp [Value.ownBlock]⟩ (fun _ h => h.elim))
  clear hS hor HSg
  go_wp2_with fail
  go_loopw [6, 5] (fun x y wr => ∃ (k : Nat) (ts : List Task) (nds : List Value), k ≤ l'.length ∧ ts.length ≤ k ∧ x = .int .i64 k ∧ Kept w ts nds ∧ St F w [glC W, tabC p (T9 ts), .row TTk 8 y ts.length (tasksV ts nds)] wr) (fun x _ _ => l'.length - (intOf x).toNat)
  case atStart => exact ⟨0, [], [], Nat.zero_le _, Nat.le_refl _, rfl, Kept.nil w, HS2.out⟩
  case round =>
    clear HS2
    obtain ⟨k, ts, nds, hk, htk, rfl, hkept, hS⟩ := hrel
    obtain ⟨ja, jc, rfl, -⟩ := (hS.own 2).shape
    by_cases hlt : k < l'.length
    · have hx := List.getElem?_eq_getElem hlt
      have hkp := (glob_keeps Hg.out hS).1
      obtain ⟨b, o, na, nc, rfl, ⟨d0, d1, d2, d3, d4, d5, d6, d7⟩, hnd, hl, hf, -, -, -⟩ := (HV.out.new hkp).one hx
      obtain ⟨b', o', na', nc', e1, ⟨-, -, -, g3, -⟩, hnd0, -⟩ := HV.out.one hx
      cases e1
      have hnn : Value.slice na l'[k].needs.length nc = .slice na' l'[k].needs.length nc' := by
        have := cellIn hkp g3
        rw [d3] at this; exact Option.some.inj this
      cases hnn
      generalize l'[k] = x at *
      have b1 : decide (k < l'.length) = true := by simpa using hlt
      have i0 : (0 : Int) ≤ (k : Int) := by omega
      have i1 : (k : Int) < (l'.length : Int) := by omega
      have HSr := hid hS
      have Hnd := hid hnd
      have Hnd0 := hid hnd0
      have Hkept := hid hkept
      have Hx := hid hx
      have D3 := hid g3
      clear hx hkp hS hnd hnd0 hkept g3
      by_cases hcode : 5000 < x.code.size
      · have b2 : decide ((5000 : Int) < (x.code.size : Int)) = true := by simp; omega
        go_wp2_with fail
        exact ⟨⟨k + 1, ts, nds, by omega, by omega, by go_num, Hkept.out, HSr.out⟩, by simp [intOf]; omega⟩
      · have b2 : decide ((5000 : Int) < (x.code.size : Int)) = false := by simp; omega
        by_cases hnl : 40 < x.needs.length
        · have b3 : decide ((40 : Int) < (x.needs.length : Int)) = true := by simp; omega
          go_wp2_with fail
          exact ⟨⟨k + 1, ts, nds, by omega, by omega, by go_num, Hkept.out, HSr.out⟩, by simp [intOf]; omega⟩
        · have b3 : decide ((40 : Int) < (x.needs.length : Int)) = false := by simp; omega
          obtain ⟨E, hE⟩ : ∃ E, (T9 ts).check x = E := ⟨_, rfl⟩
          by_cases h0 : E = 0
          · subst h0
            have hadd : (T9 ts).add x = ((ts.length : Int), 0, T9 (ts ++ [x])) := add_yes hE
            have HA := hid (add_st hG HSr.out x Hnd.out hf hadd)
            unfold taskV at HA
            clear hE hadd
            go_wp2_with fail
            refine HA.out.mono ?_; rintro r w3 ⟨rfl, hS3⟩
            have hkp3 := (glob_keeps Hg.out hS3).1
            obtain ⟨b', o', na', nc', e1, ⟨g0, g1, g2, g3, g4, g5, g6, g7⟩, -⟩ := (HV.out.new hkp3).one Hx.out
            cases e1
            have hnn : Value.slice na x.needs.length nc = .slice na' x.needs.length nc' := by
              have := cellIn hkp3 D3.out
              rw [g3] at this; exact (Option.some.inj this).symm
            cases hnn
            clear d0 d1 d2 d3 d4 d5 d6 d7
            have hS4 := hS3.new TTk [.string x.name, .int .i64 x.level, .int .i64 x.frame, .slice na x.needs.length nc, .string x.code, .int .i64 x.period, .int .i64 x.first, .int .i64 x.gap]
            simp only [Kw.red] at hS4
            have HS4 := hid hS4
            clear hS3 hS4 hkp3 HA HSr
            go_wp2_with (at_builtin; refine wpList_appS 2 3 _ _ TTks TTk (.agg ztask.toArray) 8 96 infoTk Tryd.underlying35 rfl (by decide) rfl rfl HS4.out rfl rfl rfl rfl rfl (task8_one x na nc) (by omega) (by unfold maxLen; omega) (by omega) ?_; intro jg jc w7 hSc hat)
            have HSq := hid (show St F w [glC W, tabC p (T9 (ts ++ [x])), .row TTk 8 (.slice (some ⟨jg, 0, none⟩) (ts ++ [x]).length jc) (ts ++ [x]).length (tasksV (ts ++ [x]) (nds ++ [.slice na x.needs.length nc]))] w7 from by
              rw [tasksV_app x _ Hkept.out.len, show (ts ++ [x]).length = ts.length + 1 by simp]
              exact hSc.sub [0, 1, 2])
            have Hkq := hid (Hkept.out.add Hnd0.out hf)
            have hTl : (ts ++ [x]).length = ts.length + 1 := by simp
            have hTk : (ts ++ [x]).length ≤ k + 1 := by omega
            clear hSc hat Hkept
            generalize (some ⟨jg, 0, none⟩ : Option Addr) = ja at *
            generalize nds ++ [.slice na x.needs.length nc] = N at *
            rw [← hTl]
            generalize ts ++ [x] = T at *
            clear hTl htk
            have HkeptR := hid (show Kept w T N from Hkq.out)
            obtain ⟨yq, hyq⟩ := tab_at 1 HSq.out
            have hlq := tlen_any hyq
            have HSL := hid HSq.out
            rw [show (((T9 T).ts.length : Nat) : Int) = ((T.length : Nat) : Int) from rfl] at hlq
            clear HSq Hkq hyq
            go_wp2_with fail
            refine hlq.mono ?_; rintro r w3 ⟨rfl, rfl⟩
            clear hlq
            go_wp2_with fail
            go_loopw [9] (fun x wr2 => ∃ j : Nat, j ≤ T.length ∧ x = .int .i64 j ∧ St F w [glC W, tabC p (T9 T), .row TTk 8 (.slice ja T.length jc) T.length (tasksV T N)] wr2) (fun x _ => T.length - (intOf x).toNat)
            case atStart => exact ⟨0, Nat.zero_le _, rfl, HSL.out⟩
            case round =>
              clear HSL
              obtain ⟨j, hj, rfl, hS⟩ := hrel
              obtain ⟨y, hy⟩ := tab_at 1 hS
              by_cases hjt : j < T.length
              · have hx := List.getElem?_eq_getElem hjt
                obtain ⟨na, nc, hn1, hn2, -⟩ := HkeptR.out.each j _ hx
                have hget := get_in hy (show (T9 T).ts[j]? = some T[j] from hx)
                have hpl := prog_len T[j]
                obtain ⟨lst, lop, hlst, hl9⟩ := steps_last (hy.tok.ok.fit _ (List.mem_of_getElem? hx)).code
                have h16 := needs_16 hy.tok.ok (List.mem_of_getElem? (show (T9 T).ts[j]? = some T[j] from hx))
                have Hx := hid hx
                generalize T[j] = x at *
                have b4 : decide (j < T.length) = true := by simpa using hjt
                have i0 : (0 : Int) ≤ (j : Int) := by omega
                have i1 : (j : Int) < (T.length : Int) := by omega
                have Hn1 := hid hn1
                have Hn2 := hid hn2
                have HS := hid hS
                have Hl9 := hid hl9
                have Hlst := hid hlst
                unfold taskV at hget
                clear hx hn1 hn2 hS hy hl9 hlst
                go_wp2_with fail
                refine hget.mono ?_; rintro r w4 ⟨g, rfl, hS4⟩
                have hS5 := (HS.out.adds hS4).new TTk [.string x.name, .int .i64 x.level, .int .i64 x.frame, .slice (some ⟨g, 0, none⟩) x.needs.length x.needs.length, .string x.code, .int .i64 x.period, .int .i64 x.first, .int .i64 x.gap]
                simp only [Kw.red] at hS5
                obtain ⟨ga, gcap, e1, -⟩ := (hS5.own 2).form (by omega)
                cases e1
                obtain ⟨d0, d1, d2, d3, d4, d5, d6, d7⟩ := kept_cells (hS5.own 2) Hx.out Hn1.out
                obtain ⟨c0, c1, c2, c3, c4, c5, c6, c7, cz⟩ := cells8 (hS5.blk 4)
                have hkp := (glob_keeps Hg.out hS5).1
                have hsm := same_any x (Rd.blk (n := x.needs.length) (sz := 2) ((hS5.blk 3).drew) (by omega) (needsC_len x.needs)) (Rd.nd (Hn2.out.new hkp.drew))
                have HSm := hid hsm
                have HS5 := hid hS5
                unfold taskV at HSm
                clear hget hS4 hS5 hkp hsm HS
                go_wp2_with fail
                refine wp_region_mix [true, true, true, true, true, true, true, true, false, false, false] 0 (fun _ => False) (by kernel_rfl) (by decide +kernel) ?_
                simp only [front, back, List.take_zero, List.drop_zero]
                repeat ((first | refine wpFront_load rfl ?_ | refine wpFront_other rfl ?_); (first | go_big_quiet_step (fail) | quiet_step (fail)); refine wpQuiet_nil ?_)
                refine wpFront_nil ?_
                simp only [wpSegs]
                go_wp2_with fail
                refine HSm.out.mono ?_; rintro r w5 ⟨rfl, k5⟩
                have HS6 := hid (HS5.out.drew.step k5)
                clear k5 HSm HS5 d0 d1 d2 d3 d4 d5 d6 d7 c0 c1 c2 c3 c4 c5 c6 c7 cz
                go_wp2_with fail
                refine NoPanic.normal ?_
                go_wp2_with fail
                generalize w4.heap.size = xv at *
                go_loopw [12] (fun y w6 => ∃ (n : Nat) (xs : List Value), n ≤ x.needs.length ∧ xs.length = x.needs.length * 2 ∧ y = .int .i64 n ∧ St F w [glC W, tabC p (T9 T), .row TTk 8 (.slice (some ⟨ga, 0, none⟩) T.length jc) T.length (tasksV T N), .pt g TNd xs, .pt xv TTk [.string x.name, .int .i64 x.level, .int .i64 x.frame, .slice (some ⟨g, 0, none⟩) x.needs.length x.needs.length, .string x.code, .int .i64 x.period, .int .i64 x.first, .int .i64 x.gap]] w6) (fun y _ => x.needs.length - (intOf y).toNat)
                case atStart => exact ⟨0, needsC x.needs, Nat.zero_le _, needsC_len _, rfl, HS6.out⟩
                case round =>
                  clear HS6
                  obtain ⟨n, xs, hn, hxs, rfl, hS⟩ := hrel
                  obtain ⟨c0, c1, c2, c3, c4, c5, c6, c7, cz⟩ := cells8 (hS.blk 4)
                  by_cases hnl : n < x.needs.length
                  · have b5 : decide (n < x.needs.length) = true := by simpa using hnl
                    have q0 : (0 : Int) ≤ (n : Int) := by omega
                    have q1 : (n : Int) < (x.needs.length : Int) := by omega
                    have e0 := (hS.blk 3).at (List.getElem?_eq_getElem (l := xs) (i := n * 2) (by omega))
                    have e1 := (hS.blk 3).at (List.getElem?_eq_getElem (l := xs) (i := n * 2 + 1) (by omega))
                    have ez := (hS.blk 3).fz
                    have HS7 := hid ((hS.set 3 (n * 2) (.int .i64 (-5))).set 3 (n * 2 + 1) (.int .i64 0))
                    have Hxs := hid hxs
                    generalize xs[n * 2]'(by omega) = u0 at e0
                    generalize xs[n * 2 + 1]'(by omega) = u1 at e1
                    clear hS hxs
                    go_wp2_with fail
                    go_roundw
                    case rel => exact ⟨n + 1, (xs.set (n * 2) (.int .i64 (-5))).set (n * 2 + 1) (.int .i64 0), by omega, by simp [Hxs.out], by go_num, HS7.out⟩
                    case measure => simp [intOf]; omega
                  · have b5 : decide (n < x.needs.length) = false := by simpa using hnl
                    obtain ⟨y, hy⟩ := tab_at 1 hS
                    have hst := tsteps_in hy (show (T9 T).ts[j]? = some x from Hx.out) hpl
                    have HS7 := hid (hS.sub [0, 1, 2])
                    have hlc := last_cell Hlst.out
                    have hplen : 0 < (prog x).1.length := by rw [Hlst.out]; simp
                    rw [Hl9.out] at hlc
                    have Hlc := hid hlc
                    generalize (prog x).1 = PX at *
                    clear hS hy hlc
                    go_wp2_with fail
                    refine hst.mono ?_; rintro r w7 ⟨g2, rfl, hS7⟩
                    have hS8 := HS7.out.adds hS7
                    simp only [Kw.red] at hS8
                    have f0 := (hS8.blk 3).at Hlc.out
                    have z := (hS8.blk 3).fz
                    have hol : 4 ≤ (opsC PX).length := by rw [opsC_len]; omega
                    have a0 := (hS8.blk 3).at (List.getElem?_eq_getElem (l := opsC PX) (i := 0) (by omega))
                    have a1 := (hS8.blk 3).at (List.getElem?_eq_getElem (l := opsC PX) (i := 1) (by omega))
                    have a2 := (hS8.blk 3).at (List.getElem?_eq_getElem (l := opsC PX) (i := 2) (by omega))
                    have a3 := (hS8.blk 3).at (List.getElem?_eq_getElem (l := opsC PX) (i := 3) (by omega))
                    generalize (opsC PX)[0]'(by omega) = v0 at a0
                    generalize (opsC PX)[1]'(by omega) = v1 at a1
                    generalize (opsC PX)[2]'(by omega) = v2 at a2
                    generalize (opsC PX)[3]'(by omega) = v3 at a3
                    have r0 : ((PX.length : Int) == 0) = false := beq_false_of_ne (by omega)
                    have r1 : (0 : Int) ≤ (PX.length : Int) - 1 := by omega
                    have r2 : (PX.length : Int) - 1 < (PX.length : Int) := by omega
                    have r3 : ((PX.length : Int) - 1).toNat = PX.length - 1 := by omega
                    have r4 : (0 : Int) < (PX.length : Int) := by omega
                    have HS9 := hid (((((hS8.set 3 0 (.int .i64 (-5))).set 3 1 (.int .i64 0)).set 3 2 (.int .i64 0)).set 3 3 (.int .i64 0)).sub [0, 1, 2])
                    clear hst hS7 hS8 HS7
                    go_wp2_with fail
                    go_roundw
                    case rel => exact ⟨j + 1, by omega, by go_num, HS9.out⟩
                    case measure => simp [intOf]; omega
              · have b4 : decide (j < T.length) = false := by simpa using hjt
                have hun := tunits_any hy
                rw [show (T9 T).units = [9, 9, 9, 9] from rfl] at hun
                have HS := hid hS
                clear hS hy
                go_wp2_with fail
                refine hun.mono ?_; rintro r w4 ⟨g, rfl, hS4⟩
                have HS4 := hid (HS.out.adds hS4)
                clear hun hS4 HS
                go_wp2_with fail
                go_loopw [16] (fun y w6 => ∃ (n : Nat) (xs : List Value), n ≤ 4 ∧ xs.length = 4 ∧ y = .int .i64 n ∧ St F w [glC W, tabC p (T9 T), .row TTk 8 (.slice ja T.length jc) T.length (tasksV T N), .pt g TI' xs] w6) (fun y _ => 4 - (intOf y).toNat)
                case atStart => exact ⟨0, intsC [9, 9, 9, 9], by omega, rfl, rfl, HS4.out⟩
                case round =>
                  clear HS4
                  obtain ⟨n, xs, hn, hxs, rfl, hS⟩ := hrel
                  by_cases hnl : n < 4
                  · have b5 : decide ((n : Int) < 4) = true := by simp; omega
                    have q0 : (0 : Int) ≤ (n : Int) := by omega
                    have q1 : (n : Int) < 4 := by omega
                    have e0 := (hS.blk 3).at (List.getElem?_eq_getElem (l := xs) (i := n) (by omega))
                    have ez := (hS.blk 3).fz
                    have HS7 := hid (hS.set 3 n (.int .i64 0))
                    have Hxs := hid hxs
                    generalize xs[n]'(by omega) = u0 at e0
                    clear hS hxs
                    go_wp2_with fail
                    go_roundw
                    case rel => exact ⟨n + 1, xs.set n (.int .i64 0), by omega, by simp [Hxs.out], by go_num, HS7.out⟩
                    case measure => simp [intOf]; omega
                  · have b5 : decide ((n : Int) < 4) = false := by simp; omega
                    have HS7 := hid (hS.sub [0, 1, 2])
                    clear hS
                    go_wp2_with fail
                    go_roundw
                    case rel => exact ⟨k + 1, T, N, by omega, hTk, by go_num, HkeptR.out, HS7.out⟩
                    case measure => simp [intOf]; omega
          · have hadd : (T9 ts).add x = (-1, E, T9 ts) := add_no hE h0
            have bE : (E == 0) = false := by simpa using h0
            have HA := hid (add_st hG HSr.out x Hnd.out hf hadd)
            unfold taskV at HA
            clear hE hadd h0
            go_wp2_with fail
            refine HA.out.mono ?_; rintro r w3 ⟨rfl, hS3⟩
            have HSq := hid hS3
            have Hkq := hid Hkept.out
            have hTk : ts.length ≤ k + 1 := by omega
            clear hS3 HA HSr d0 d1 d2 d3 d4 d5 d6 d7
            have HkeptR := hid (show Kept w ts nds from Hkq.out)
            obtain ⟨yq, hyq⟩ := tab_at 1 HSq.out
            have hlq := tlen_any hyq
            have HSL := hid HSq.out
            rw [show (((T9 ts).ts.length : Nat) : Int) = ((ts.length : Nat) : Int) from rfl] at hlq
            clear HSq Hkq hyq
            go_wp2_with fail
            refine hlq.mono ?_; rintro r w3 ⟨rfl, rfl⟩
            clear hlq
            go_wp2_with fail
            go_loopw [9] (fun x wr2 => ∃ j : Nat, j ≤ ts.length ∧ x = .int .i64 j ∧ St F w [glC W, tabC p (T9 ts), .row TTk 8 (.slice ja ts.length jc) ts.length (tasksV ts nds)] wr2) (fun x _ => ts.length - (intOf x).toNat)
            case atStart => exact ⟨0, Nat.zero_le _, rfl, HSL.out⟩
            case round =>
              clear HSL
              obtain ⟨j, hj, rfl, hS⟩ := hrel
              obtain ⟨y, hy⟩ := tab_at 1 hS
              by_cases hjt : j < ts.length
              · have hx := List.getElem?_eq_getElem hjt
                obtain ⟨na, nc, hn1, hn2, -⟩ := HkeptR.out.each j _ hx
                have hget := get_in hy (show (T9 ts).ts[j]? = some ts[j] from hx)
                have hpl := prog_len ts[j]
                obtain ⟨lst, lop, hlst, hl9⟩ := steps_last (hy.tok.ok.fit _ (List.mem_of_getElem? hx)).code
                have h16 := needs_16 hy.tok.ok (List.mem_of_getElem? (show (T9 ts).ts[j]? = some ts[j] from hx))
                have Hx := hid hx
                generalize ts[j] = x at *
                have b4 : decide (j < ts.length) = true := by simpa using hjt
                have i0 : (0 : Int) ≤ (j : Int) := by omega
                have i1 : (j : Int) < (ts.length : Int) := by omega
                have Hn1 := hid hn1
                have Hn2 := hid hn2
                have HS := hid hS
                have Hl9 := hid hl9
                have Hlst := hid hlst
                unfold taskV at hget
                clear hx hn1 hn2 hS hy hl9 hlst
                go_wp2_with fail
                refine hget.mono ?_; rintro r w4 ⟨g, rfl, hS4⟩
                have hS5 := (HS.out.adds hS4).new TTk [.string x.name, .int .i64 x.level, .int .i64 x.frame, .slice (some ⟨g, 0, none⟩) x.needs.length x.needs.length, .string x.code, .int .i64 x.period, .int .i64 x.first, .int .i64 x.gap]
                simp only [Kw.red] at hS5
                obtain ⟨ga, gcap, e1, -⟩ := (hS5.own 2).form (by omega)
                cases e1
                obtain ⟨d0, d1, d2, d3, d4, d5, d6, d7⟩ := kept_cells (hS5.own 2) Hx.out Hn1.out
                obtain ⟨c0, c1, c2, c3, c4, c5, c6, c7, cz⟩ := cells8 (hS5.blk 4)
                have hkp := (glob_keeps Hg.out hS5).1
                have hsm := same_any x (Rd.blk (n := x.needs.length) (sz := 2) ((hS5.blk 3).drew) (by omega) (needsC_len x.needs)) (Rd.nd (Hn2.out.new hkp.drew))
                have HSm := hid hsm
                have HS5 := hid hS5
                unfold taskV at HSm
                clear hget hS4 hS5 hkp hsm HS
                go_wp2_with fail
                refine wp_region_mix [true, true, true, true, true, true, true, true, false, false, false] 0 (fun _ => False) (by kernel_rfl) (by decide +kernel) ?_
                simp only [front, back, List.take_zero, List.drop_zero]
                repeat ((first | refine wpFront_load rfl ?_ | refine wpFront_other rfl ?_); (first | go_big_quiet_step (fail) | quiet_step (fail)); refine wpQuiet_nil ?_)
                refine wpFront_nil ?_
                simp only [wpSegs]
                go_wp2_with fail
                refine HSm.out.mono ?_; rintro r w5 ⟨rfl, k5⟩
                have HS6 := hid (HS5.out.drew.step k5)
                clear k5 HSm HS5 d0 d1 d2 d3 d4 d5 d6 d7 c0 c1 c2 c3 c4 c5 c6 c7 cz
                go_wp2_with fail
                refine NoPanic.normal ?_
                go_wp2_with fail
                generalize w4.heap.size = xv at *
                go_loopw [12] (fun y w6 => ∃ (n : Nat) (xs : List Value), n ≤ x.needs.length ∧ xs.length = x.needs.length * 2 ∧ y = .int .i64 n ∧ St F w [glC W, tabC p (T9 ts), .row TTk 8 (.slice (some ⟨ga, 0, none⟩) ts.length jc) ts.length (tasksV ts nds), .pt g TNd xs, .pt xv TTk [.string x.name, .int .i64 x.level, .int .i64 x.frame, .slice (some ⟨g, 0, none⟩) x.needs.length x.needs.length, .string x.code, .int .i64 x.period, .int .i64 x.first, .int .i64 x.gap]] w6) (fun y _ => x.needs.length - (intOf y).toNat)
                case atStart => exact ⟨0, needsC x.needs, Nat.zero_le _, needsC_len _, rfl, HS6.out⟩
                case round =>
                  clear HS6
                  obtain ⟨n, xs, hn, hxs, rfl, hS⟩ := hrel
                  obtain ⟨c0, c1, c2, c3, c4, c5, c6, c7, cz⟩ := cells8 (hS.blk 4)
                  by_cases hnl : n < x.needs.length
                  · have b5 : decide (n < x.needs.length) = true := by simpa using hnl
                    have q0 : (0 : Int) ≤ (n : Int) := by omega
                    have q1 : (n : Int) < (x.needs.length : Int) := by omega
                    have e0 := (hS.blk 3).at (List.getElem?_eq_getElem (l := xs) (i := n * 2) (by omega))
                    have e1 := (hS.blk 3).at (List.getElem?_eq_getElem (l := xs) (i := n * 2 + 1) (by omega))
                    have ez := (hS.blk 3).fz
                    have HS7 := hid ((hS.set 3 (n * 2) (.int .i64 (-5))).set 3 (n * 2 + 1) (.int .i64 0))
                    have Hxs := hid hxs
                    generalize xs[n * 2]'(by omega) = u0 at e0
                    generalize xs[n * 2 + 1]'(by omega) = u1 at e1
                    clear hS hxs
                    go_wp2_with fail
                    go_roundw
                    case rel => exact ⟨n + 1, (xs.set (n * 2) (.int .i64 (-5))).set (n * 2 + 1) (.int .i64 0), by omega, by simp [Hxs.out], by go_num, HS7.out⟩
                    case measure => simp [intOf]; omega
                  · have b5 : decide (n < x.needs.length) = false := by simpa using hnl
                    obtain ⟨y, hy⟩ := tab_at 1 hS
                    have hst := tsteps_in hy (show (T9 ts).ts[j]? = some x from Hx.out) hpl
                    have HS7 := hid (hS.sub [0, 1, 2])
                    have hlc := last_cell Hlst.out
                    have hplen : 0 < (prog x).1.length := by rw [Hlst.out]; simp
                    rw [Hl9.out] at hlc
                    have Hlc := hid hlc
                    generalize (prog x).1 = PX at *
                    clear hS hy hlc
                    go_wp2_with fail
                    refine hst.mono ?_; rintro r w7 ⟨g2, rfl, hS7⟩
                    have hS8 := HS7.out.adds hS7
                    simp only [Kw.red] at hS8
                    have f0 := (hS8.blk 3).at Hlc.out
                    have z := (hS8.blk 3).fz
                    have hol : 4 ≤ (opsC PX).length := by rw [opsC_len]; omega
                    have a0 := (hS8.blk 3).at (List.getElem?_eq_getElem (l := opsC PX) (i := 0) (by omega))
                    have a1 := (hS8.blk 3).at (List.getElem?_eq_getElem (l := opsC PX) (i := 1) (by omega))
                    have a2 := (hS8.blk 3).at (List.getElem?_eq_getElem (l := opsC PX) (i := 2) (by omega))
                    have a3 := (hS8.blk 3).at (List.getElem?_eq_getElem (l := opsC PX) (i := 3) (by omega))
                    generalize (opsC PX)[0]'(by omega) = v0 at a0
                    generalize (opsC PX)[1]'(by omega) = v1 at a1
                    generalize (opsC PX)[2]'(by omega) = v2 at a2
                    generalize (opsC PX)[3]'(by omega) = v3 at a3
                    have r0 : ((PX.length : Int) == 0) = false := beq_false_of_ne (by omega)
                    have r1 : (0 : Int) ≤ (PX.length : Int) - 1 := by omega
                    have r2 : (PX.length : Int) - 1 < (PX.length : Int) := by omega
                    have r3 : ((PX.length : Int) - 1).toNat = PX.length - 1 := by omega
                    have r4 : (0 : Int) < (PX.length : Int) := by omega
                    have HS9 := hid (((((hS8.set 3 0 (.int .i64 (-5))).set 3 1 (.int .i64 0)).set 3 2 (.int .i64 0)).set 3 3 (.int .i64 0)).sub [0, 1, 2])
                    clear hst hS7 hS8 HS7
                    go_wp2_with fail
                    go_roundw
                    case rel => exact ⟨j + 1, by omega, by go_num, HS9.out⟩
                    case measure => simp [intOf]; omega
              · have b4 : decide (j < ts.length) = false := by simpa using hjt
                have hun := tunits_any hy
                rw [show (T9 ts).units = [9, 9, 9, 9] from rfl] at hun
                have HS := hid hS
                clear hS hy
                go_wp2_with fail
                refine hun.mono ?_; rintro r w4 ⟨g, rfl, hS4⟩
                have HS4 := hid (HS.out.adds hS4)
                clear hun hS4 HS
                go_wp2_with fail
                go_loopw [16] (fun y w6 => ∃ (n : Nat) (xs : List Value), n ≤ 4 ∧ xs.length = 4 ∧ y = .int .i64 n ∧ St F w [glC W, tabC p (T9 ts), .row TTk 8 (.slice ja ts.length jc) ts.length (tasksV ts nds), .pt g TI' xs] w6) (fun y _ => 4 - (intOf y).toNat)
                case atStart => exact ⟨0, intsC [9, 9, 9, 9], by omega, rfl, rfl, HS4.out⟩
                case round =>
                  clear HS4
                  obtain ⟨n, xs, hn, hxs, rfl, hS⟩ := hrel
                  by_cases hnl : n < 4
                  · have b5 : decide ((n : Int) < 4) = true := by simp; omega
                    have q0 : (0 : Int) ≤ (n : Int) := by omega
                    have q1 : (n : Int) < 4 := by omega
                    have e0 := (hS.blk 3).at (List.getElem?_eq_getElem (l := xs) (i := n) (by omega))
                    have ez := (hS.blk 3).fz
                    have HS7 := hid (hS.set 3 n (.int .i64 0))
                    have Hxs := hid hxs
                    generalize xs[n]'(by omega) = u0 at e0
                    clear hS hxs
                    go_wp2_with fail
                    go_roundw
                    case rel => exact ⟨n + 1, xs.set n (.int .i64 0), by omega, by simp [Hxs.out], by go_num, HS7.out⟩
                    case measure => simp [intOf]; omega
                  · have b5 : decide ((n : Int) < 4) = false := by simp; omega
                    have HS7 := hid (hS.sub [0, 1, 2])
                    clear hS
                    go_wp2_with fail
                    go_roundw
                    case rel => exact ⟨k + 1, ts, nds, by omega, hTk, by go_num, HkeptR.out, HS7.out⟩
                    case measure => simp [intOf]; omega
    · have b1 : decide (k < l'.length) = false := by simpa using hlt
      obtain ⟨yq, hyq⟩ := tab_at 1 hS
      have hun := tunits_any hyq
      rw [show (T9 ts).units = [9, 9, 9, 9] from rfl] at hun
      have HSe := hid hS
      clear hkept hyq hS
      go_wp2_with fail
      refine hun.mono ?_; rintro r w3 ⟨g, rfl, hS3⟩
      have HS3 := hid (HSe.out.adds hS3)
      clear hun hS3 HSe
      go_wp2_with fail
      have hS4 := HS3.out.new TI' (intsC [9, 9, 9, 9])
      simp only [Kw.red] at hS4
      have hsm := sameI_any (xs := [9, 9, 9, 9]) (ys := [9, 9, 9, 9]) (Rd.blk (n := 4) (sz := 1) (hS4.blk 3) (by decide) rfl) (Rd.blk (n := 4) (sz := 1) (hS4.blk 4) (by decide) rfl)
      rw [show decide (([9, 9, 9, 9] : List Int) = [9, 9, 9, 9]) = true by decide] at hsm
      have HS4 := hid hS4
      clear hS4 HS3
      refine hsm.mono ?_; rintro r w4 ⟨rfl, n4, rfl⟩
      clear hsm
      go_wp2_with fail
      refine (runs_any hG (HS4.out.drewN n4 |>.at 0 rfl).choose_spec.1).mono ?_; rintro r w5 ⟨rfl, k5⟩
      go_wp2_with fail
      go_ret
      exact ⟨rfl, ((glob_keeps Hg.out HS4.out).1.drewN n4).trans k5⟩
end
end Go.Proofs.YtkaecdkmalppcaaDoor
