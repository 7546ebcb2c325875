/-
  AdmitAdded, walked.
-/
import Derived.Test.YtdjgijndcjbpiaaGreatDoorBi
namespace Go.Proofs.YtdjgijndcjbpiaaGreatDoor
open Go.RowKit Go.Kw Go.Kreg Go.Tm Go.Ad
set_option linter.unusedSimpArgs false
set_option linter.unusedVariables false

theorem addGood {m : TM} {x : Task} {n : Int} {m' : TM} (h : m.add x = (n, 0, m')) : n = m.ts.length ∧ m' = ⟨m.words, m.units, m.ts ++ [x]⟩ := by
  unfold TM.add at h
  split at h
  · rename_i hc
    simp only [Prod.mk.injEq] at h
    obtain ⟨_, h2, _⟩ := h
    rw [h2] at hc
    simp at hc
  · cases h; exact ⟨rfl, rfl⟩
theorem len_take {q : List Sec} {k : Nat} {s : Sec} (h : q[k]? = some s) (o : Int) (ho : o = gmax (fun _ => true) Sec.len (q.take k)) : gmax (fun _ => true) Sec.len (q.take (k + 1)) = max o ((s.upto : Int) - s.frm) := by
  rw [gmax_take h, ho]; rfl
theorem lev_app {ts : List Task} {x t : Task} {k : Nat} (h : ts[k]? = some t) : (ts ++ [x])[k]? = some t := by
  rw [List.getElem?_append_left (List.getElem?_eq_some_iff.1 h).1]; exact h
/-- What the law asks of a task's two terms. -/
structure Two (TA TB own xl yl : Int) (rb : Bool) (nl : Nat) : Prop where
  a : TA ≤ TB
  b : rb = false → xl < yl → TA < TB → TB ≤ own
  c : rb = false → yl ≤ xl → TB = TA
  d : nl = 0 → TB = TA
theorem two_of {m : TM} {x t : Task} (hm : m.Ok) (hm' : TM.Ok ⟨m.words, m.units, m.ts ++ [x]⟩) {k : Nat} (ht : m.ts[k]? = some t) {rb : Bool} (hr : rb = false → ∀ r : Nat, r < m.units.length → TM.ceilAt ⟨m.words, m.units, m.ts ++ [x]⟩ r 0 ≤ m.ceilAt r 0) :
    Two (term m k) (term ⟨m.words, m.units, m.ts ++ [x]⟩ k) (gmax (fun _ => true) Sec.len (secsOf x)) x.level t.level rb x.needs.length := by
  rw [term_in ht, term_in (m := ⟨m.words, m.units, m.ts ++ [x]⟩) (lev_app ht)]
  have h1 := term_more (x := x) hm hm' t.level
  refine ⟨h1, fun h hl hlt => ?_, fun h hl => ?_, fun h => ?_⟩
  · rcases term_same hm' (lev := t.level) (hr h) with h2 | ⟨h2, s, h3, h4⟩
    · omega
    · rw [h4]; exact gmax_ge (P := fun _ => true) (f := Sec.len) h3 rfl
  · rcases term_same hm' (lev := t.level) (hr h) with h2 | ⟨h2, s, h3, h4⟩
    · omega
    · omega
  · have hn : x.needs = [] := List.length_eq_zero_iff.1 h
    rcases term_same hm' (lev := t.level) (fun r _ => none_ceil hm hm' hn r) with h2 | ⟨h2, s, h3, h4⟩
    · omega
    · rw [none_secs (hm'.fit x (by simp)) hn] at h3; simp at h3

section
variable {W w : World} {F : Nat → Prop}
set_option maxRecDepth 100000 in
set_option maxHeartbeats 8000000 in
theorem addedA_law (hG : Glob W) (hg : (glC W).holds F w) {W0 : Int} {uv tv : Value} {us : List Int} {ts : List Task} (hu : SlIm w uv us) (ht : SlTk w tv ts) (hnm : ∀ x ∈ ts, x.name.size ≤ 9223372036854775807)
    {x : Task} {nd : Value} (hnd : SlNd w nd x.needs) (hxb : big x.level ∧ big x.frame ∧ big x.period ∧ big x.first ∧ big x.gap) (hxn : x.name.size ≤ 9223372036854775807) :
    Calls Tryz.prog 11 #[.agg #[.int .i64 W0, uv, tv], .agg #[.string x.name, .int .i64 x.level, .int .i64 x.frame, nd, .string x.code, .int .i64 x.period, .int .i64 x.first, .int .i64 x.gap]] w fun e w' => e = .returned (.bool true) ∧ Keeps (fun _ => False) w w' := by
  obtain ⟨na, nc, rfl, -⟩ := id hnd
  have hS := ((St.of (Sts.one hg)).new TSet [.int .i64 W0, uv, tv]).new TTk (taskL' x (.slice na x.needs.length nc))
  simp only [World.size_alloc] at hS
  simp only [Kw.red] at hS
  have hk0 := (glob_keeps hg hS).1
  obtain ⟨F1, g1, _, _, bk⟩ := hS.sel [0]
  have g1' : Sts [glC W] F1 _ := g1
  have HT := hid (make_any (W0 := W0) hG (Sts.of_one g1') (hu.new hk0) (ht.new hk0) hnm)
  have hok := setM_ok W0 us ts
  have hlen := setM_len W0 us ts
  obtain ⟨ua, uc, rfl, -⟩ := id hu
  obtain ⟨la, lc, rfl, -⟩ := id ht
  have Hu := hid hu
  have Hl := hid ht
  have Hn := hid hnd
  have Hnm := hid hnm
  obtain ⟨m, hm⟩ : ∃ m, setM W0 us ts = m := ⟨_, rfl⟩
  rw [hm] at hok hlen HT
  have HM := hid hm
  have Hok := hid hok
  have Hg := hid hg
  have HS0 := hid hS
  clear hS g1 g1' hu ht hnd hnm hm hok hg hk0
  go_enter Tryz.func11, Tryz.ntmps11
  go_wp2_with fail
  refine HT.out.mono ?_; rintro e w1 ⟨p, q, rfl, hS⟩
  have hS := bk hS
  simp only [Kw.red] at hS
  have k1 := (glob_keeps Hg.out hS).1
  have c0 := (hS.blk 1).cell 0
  have c1 := (hS.blk 1).cell 1
  have c2 := (hS.blk 1).cell 2
  simp only [List.getElem?_cons_zero, List.getElem?_cons_succ] at c0 c1 c2
  obtain ⟨F2, g2, _, _, bk2⟩ := hS.sel [0]
  have g2' : Sts [glC W] F2 _ := g2
  have ht2 := make_any (W0 := W0) hG (Sts.of_one g2') (Hu.out.new k1) (Hl.out.new k1) Hnm.out
  rw [HM.out] at ht2
  have HT2 := hid ht2
  clear hS g2 g2' ht2 bk HT HS0 k1
  go_wp2_with fail
  refine HT2.out.mono ?_; rintro e w2 ⟨p2, q2, rfl, hS⟩
  have hS := bk2 hS
  simp only [Kw.red] at hS
  have K2 := hid (glob_keeps Hg.out hS).1
  have hX := hS.blk 2
  obtain ⟨d0, d1, d2, d3, d4, d5, d6, d7, dz⟩ := cells8 hX
  have HS2 := hid (hS.sub [0, 5, 2, 3])
  clear hS hX bk2 HT2 HM Hu Hl Hnm c0 c1 c2
  generalize w.heap.size + 1 = xb at *
  by_cases hcode : 4096 < x.code.size
  · have b2 : decide ((4096 : Int) < (x.code.size : Int)) = true := by simp; omega
    clear hcode
    have HC := hid (admitruns_any hG (glob_new Hg.out K2.out))
    go_wp2_with fail
    refine HC.out.mono ?_; rintro e w9 ⟨rfl, k9⟩
    have K9 := hid (K2.out.trans k9)
    clear k9 HC
    go_wp2_with fail
    go_ret
    exact ⟨rfl, K9.out⟩
  · have b2 : decide ((4096 : Int) < (x.code.size : Int)) = false := by simp; omega
    by_cases hnl : 20 < x.needs.length
    · have b3 : decide ((20 : Int) < (x.needs.length : Int)) = true := by simp; omega
      clear hcode hnl
      have HC := hid (admitruns_any hG (glob_new Hg.out K2.out))
      go_wp2_with fail
      refine HC.out.mono ?_; rintro e w9 ⟨rfl, k9⟩
      have K9 := hid (K2.out.trans k9)
      clear k9 HC
      go_wp2_with fail
      go_ret
      exact ⟨rfl, K9.out⟩
    · have b3 : decide ((20 : Int) < (x.needs.length : Int)) = false := by simp; omega
      obtain ⟨⟨n3, e3, m3⟩, hadd⟩ : ∃ r, m.add x = r := ⟨_, rfl⟩
      have hS2 := HS2.out
      simp only [Kw.red] at hS2
      have HA := hid (add_st hG hS2 x (Hn.out.newer Hn.out K2.out fun _ => False.elim) hxb.2.1 hadd)
      have HAdd := hid hadd
      have hok3 := TM.add_ok Hok.out x
      rw [hadd] at hok3
      unfold taskV at HA
      clear hadd hS2 hcode hnl
      go_wp2_with fail
      refine HA.out.mono ?_; rintro r w3 ⟨rfl, hS3⟩
      have K3 := hid (glob_keeps Hg.out hS3).1
      have HS3 := hid hS3
      clear hS3 HA HS2 d0 d1 d2 d3 d4 d5 d6 d7 dz
      by_cases he : e3 = 0
      · subst he
        obtain ⟨hn, hm3⟩ := addGood HAdd.out
        subst hn
        subst hm3
        obtain ⟨y1, hy1⟩ := tab_at 3 HS3.out
        obtain ⟨y2, hy2⟩ := tab_at 1 HS3.out
        have HY1 := hid hy1
        have HY2 := hid hy2
        have Hok3 := hid hok3
        have hX := HS3.out.blk 2
        have xl := hX.cell 1
        have xn := hX.cell 3
        simp only [List.getElem?_cons_zero, List.getElem?_cons_succ] at xl xn
        have XL := hid xl
        have XN := hid xn
        have hlast : (m.ts ++ [x])[m.ts.length]? = some x := by rw [List.getElem?_append_right (Nat.le_refl _), Nat.sub_self]; rfl
        have HSc := hid (sections_in (m := ⟨m.words, m.units, m.ts ++ [x]⟩) HY2.out hlast)
        have hfx := hok3.fit x (by simp)
        have hql : (secsOf x).length ≤ 4096 := Nat.le_trans (secs_ok hfx).few (Cm.prog_le _)
        have hbd : ∀ (i : Nat) s, (secsOf x)[i]? = some s → (s.frm : Int) < s.upto ∧ (s.upto : Int) ≤ 4096 := fun i s hs => lenP_bd (m := ⟨m.words, m.units, m.ts ++ [x]⟩) hok3 hlast (List.mem_of_getElem? hs)
        have hTW := fun (k : Nat) (t : Task) (ht : m.ts[k]? = some t) (rb : Bool) (hr : rb = false → ∀ r : Nat, r < m.units.length → TM.ceilAt ⟨m.words, m.units, m.ts ++ [x]⟩ r 0 ≤ m.ceilAt r 0) => two_of (x := x) Hok.out Hok3.out ht hr
        have hul := (begins_units Hok.out.begins).1
        generalize secsOf x = q at *
        have Hbd := hid hbd
        have HTW := hid hTW
        clear hy1 hy2 hX xl xn hlast hfx hbd hTW HS3 HAdd hok3
        go_wp2_with fail
        refine HSc.out.mono ?_; rintro e w4 ⟨sv, rfl, hS4⟩
        obtain ⟨sa, sc, rfl, -⟩ := (hS4.vec 0).shape
        have HV := hid (hS4.vec 0)
        have K4 := hid hS4.keeps
        clear hS4 HSc
        go_wp2_with fail
        go_loopw [15, 13] (fun y o wr => ∃ (k : Nat) (ow : Int), k ≤ q.length ∧ y = .int .i64 k ∧ o = .int .i64 ow ∧ Hid (ow = gmax (fun _ => true) Sec.len (q.take k)) ∧ 0 ≤ ow ∧ ow ≤ 4096 ∧ Keeps (fun _ => False) w4 wr) (fun y _ _ => q.length - (intOf y).toNat)
        case atStart => exact ⟨0, 0, Nat.zero_le _, rfl, rfl, hid rfl, by omega, by omega, Keeps.refl _ _⟩
        case round =>
          obtain ⟨k, ow, hk, rfl, rfl, How, ho1, ho2, hK⟩ := hrel
          have KR := hid hK
          by_cases hlt : k < q.length
          · have a1 : decide (k < q.length) = true := by simpa using hlt
            have hs := List.getElem?_eq_getElem hlt
            obtain ⟨hb1, hb2⟩ := Hbd.out _ _ hs
            have htk := len_take hs ow How.out
            have hv := HV.out.keeps KR.out (fun _ _ h => h)
            obtain ⟨gs, cs, e1, -, -⟩ := hv.form (by omega)
            cases e1
            obtain ⟨-, -, -, e3, e4⟩ := secsC_at hs
            have s3 := hv.cells' (g := gs) rfl e3
            have s4 := hv.cells' (g := gs) rfl e4
            generalize q[k] = s at *
            have i0 : (0 : Int) ≤ (k : Int) := by omega
            have i1 : (k : Int) < (q.length : Int) := by omega
            have Htk := hid htk
            clear hv e3 e4 hs htk hK
            by_cases hl : ow < (s.upto : Int) - s.frm
            · have c1 : decide (ow < (s.upto : Int) - (s.frm : Int)) = true := by simpa using hl
              go_wp2_with fail
              refine wp_region_keep (by kernel_rfl) (by kernel_rfl) ?_
              repeat (first | go_big_quiet_skip | ((first | refine wpKeep_load rfl ?_ | refine wpKeep_other rfl ?_); (first | go_big_quiet_step (fail) | quiet_step (fail)); refine wpQuiet_nil ?_; refine Shut.mk ?_) | (refine wpQuiet_step (fun K hK => ?_); go_simp; first | (refine hK _ ?_; clear hK K) | (apply Exists.intro; refine ⟨fun w9 k9 => ?_, hK _ ?_⟩; (fail); clear hK K)))
              refine wpQuiet_nil ?_
              intro w9 k9
              have s3 := cellIn k9 s3
              have s4 := cellIn k9 s4
              have K9 := hid (KR.out.trans k9)
              clear k9
              go_wp2_with fail
              refine wp_region_keep (by kernel_rfl) (by kernel_rfl) ?_
              repeat (first | go_big_quiet_skip | ((first | refine wpKeep_load rfl ?_ | refine wpKeep_other rfl ?_); (first | go_big_quiet_step (fail) | quiet_step (fail)); refine wpQuiet_nil ?_; refine Shut.mk ?_) | (refine wpQuiet_step (fun K hK => ?_); go_simp; first | (refine hK _ ?_; clear hK K) | (apply Exists.intro; refine ⟨fun w9 k9 => ?_, hK _ ?_⟩; (fail); clear hK K)))
              refine wpQuiet_nil ?_
              intro w9 k9
              have K10 := hid (K9.out.trans k9)
              clear k9
              go_wp2_with fail
              go_roundw
              case rel => exact ⟨k + 1, (s.upto : Int) - s.frm, by omega, by go_num, rfl, hid (by rw [Htk.out]; omega), by omega, by omega, K10.out⟩
              case measure => simp [intOf]; omega
            · have c1 : decide (ow < (s.upto : Int) - (s.frm : Int)) = false := by simpa using hl
              go_wp2_with fail
              refine wp_region_keep (by kernel_rfl) (by kernel_rfl) ?_
              repeat (first | go_big_quiet_skip | ((first | refine wpKeep_load rfl ?_ | refine wpKeep_other rfl ?_); (first | go_big_quiet_step (fail) | quiet_step (fail)); refine wpQuiet_nil ?_; refine Shut.mk ?_) | (refine wpQuiet_step (fun K hK => ?_); go_simp; first | (refine hK _ ?_; clear hK K) | (apply Exists.intro; refine ⟨fun w9 k9 => ?_, hK _ ?_⟩; (fail); clear hK K)))
              refine wpQuiet_nil ?_
              intro w9 k9
              have K9 := hid (KR.out.trans k9)
              clear k9
              go_wp2_with fail
              go_roundw
              case rel => exact ⟨k + 1, ow, by omega, by go_num, rfl, hid (by rw [Htk.out]; omega), by omega, by omega, K9.out⟩
              case measure => simp [intOf]; omega
          · have a1 : decide (k < q.length) = false := by simpa using hlt
            rw [List.take_of_length_le (show q.length ≤ k by omega)] at How
            rw [← How.out] at HTW
            clear hK hlt
            go_wp2_with fail
            go_loopw [16] (fun y wx => ∃ i : Nat, i ≤ m.ts.length ∧ y = .int .i64 i ∧ Keeps (fun _ => False) w3 wx) (fun y _ => m.ts.length - (intOf y).toNat)
            case atStart => exact ⟨0, Nat.zero_le _, rfl, K4.out.trans KR.out⟩
            case round =>
              clear KR
              obtain ⟨i, hi, rfl, hK⟩ := hrel
              have KR := hid hK
              have HLn := hid (tlen_any (HY1.out.keeps hK))
              clear hK
              go_wp2_with fail
              refine HLn.out.mono ?_; rintro e w5 ⟨rfl, rfl⟩
              clear HLn
              by_cases hil : i < m.ts.length
              · have a2 : decide (i < m.ts.length) = true := by simpa using hil
                have ht := List.getElem?_eq_getElem hil
                have HG := hid (get_in (HY1.out.keeps KR.out) ht)
                have htw := HTW.out i _ ht
                generalize m.ts[i] = t at *
                have Htw := hid htw
                unfold taskV at HG
                clear ht htw
                go_wp2_with fail
                refine HG.out.mono ?_; rintro e w6 ⟨gt, rfl, hS6⟩
                have hb6 := Blk.new w6 TTk [.string t.name, .int .i64 t.level, .int .i64 t.frame, .slice (some ⟨gt, 0, none⟩) t.needs.length t.needs.length, .string t.code, .int .i64 t.period, .int .i64 t.first, .int .i64 t.gap]
                have tl := hb6.cell 1
                simp only [List.getElem?_cons_zero, List.getElem?_cons_succ] at tl
                have K6 := hid ((KR.out.trans hS6.keeps).alloc (.cells #[.string t.name, .int .i64 t.level, .int .i64 t.frame, .slice (some ⟨gt, 0, none⟩) t.needs.length t.needs.length, .string t.code, .int .i64 t.period, .int .i64 t.first, .int .i64 t.gap] TTk))
                have TL := hid tl
                have HTa := hid (term_any (HY1.out.keeps K6.out) i)
                have HTb := hid (fun (w9 : World) (k9 : Keeps (fun _ => False) w3 w9) => term_any (HY2.out.keeps k9) i)
                clear hS6 HG hb6 tl KR
                go_wp2_with fail
                refine HTa.out.mono ?_; rintro e w7 ⟨rfl, k7⟩
                have K7 := hid (K6.out.trans k7)
                have TL7 := hid (cellIn k7 TL.out)
                clear k7 HTa TL
                go_wp2_with fail
                generalize w6.heap.size = tb at *
                refine (HTb.out _ K7.out).mono ?_; rintro e w8 ⟨rfl, k8⟩
                have K8 := hid (K7.out.trans k8)
                have TL8 := hid (cellIn k8 TL7.out)
                generalize term m i = TA at *
                generalize term ⟨m.words, m.units, m.ts ++ [x]⟩ i = TB at *
                clear k8 HTb TL7 K7
                go_wp2_with fail
                go_loopw [22, 21] (fun y b wz => ∃ (r : Nat) (rb : Bool), r ≤ m.units.length ∧ y = .int .i64 r ∧ b = .bool rb ∧ Hid (rb = false → ∀ r' : Nat, r' < r → TM.ceilAt ⟨m.words, m.units, m.ts ++ [x]⟩ r' 0 ≤ m.ceilAt r' 0) ∧ Keeps (fun _ => False) w8 wz) (fun y _ _ => m.units.length - (intOf y).toNat)
                case atStart => exact ⟨0, false, Nat.zero_le _, rfl, rfl, hid (fun _ r' h => by omega), Keeps.refl _ _⟩
                case round =>
                  obtain ⟨r, rb, hr, rfl, rfl, Hrb, hK⟩ := hrel
                  have KZ := hid (K8.out.trans hK)
                  have KW := hid hK
                  have HUn := hid (tunits_any (HY1.out.keeps KZ.out))
                  clear hK
                  go_wp2_with fail
                  refine HUn.out.mono ?_; rintro e wa ⟨ug, rfl, hSa⟩
                  have KW2 := hid (KW.out.trans hSa.keeps)
                  have KZ2 := hid (KZ.out.trans hSa.keeps)
                  clear hSa HUn KW KZ
                  by_cases hrl : r < m.units.length
                  · have a3 : decide (r < m.units.length) = true := by simpa using hrl
                    cases rb with
                    | true =>
                      go_wp2_with fail
                      go_roundw
                      case rel => exact ⟨r + 1, true, by omega, by go_num, rfl, hid (fun h => by cases h), KW2.out⟩
                      case measure => simp [intOf]; omega
                    | false =>
                      have HMa := hid (max_any (HY2.out.keeps KZ2.out) r)
                      have HMb := hid (fun (w9 : World) (k9 : Keeps (fun _ => False) w3 w9) => max_any (HY1.out.keeps k9) r)
                      have Hce := hid (show ∀ CB CA, TM.ceilAt ⟨m.words, m.units, m.ts ++ [x]⟩ r 0 = CB → m.ceilAt r 0 = CA → CB ≤ CA → ∀ r' : Nat, r' < r + 1 → TM.ceilAt ⟨m.words, m.units, m.ts ++ [x]⟩ r' 0 ≤ m.ceilAt r' 0 from fun CB CA h1 h2 h3 r' hr' => by
                        by_cases e : r' = r
                        · subst e; omega
                        · exact Hrb.out rfl r' (by omega))
                      obtain ⟨CB, hCB⟩ : ∃ CB, TM.ceilAt ⟨m.words, m.units, m.ts ++ [x]⟩ r 0 = CB := ⟨_, rfl⟩
                      obtain ⟨CA, hCA⟩ : ∃ CA, m.ceilAt r 0 = CA := ⟨_, rfl⟩
                      rw [hCB] at HMa
                      rw [hCA] at HMb
                      have Hce2 := hid (Hce.out CB CA hCB hCA)
                      clear hCB hCA Hce
                      go_wp2_with fail
                      refine HMa.out.mono ?_; rintro e wb ⟨rfl, kb⟩
                      have KW3 := hid (KW2.out.trans kb)
                      have KZ3 := hid (KZ2.out.trans kb)
                      clear kb HMa
                      go_wp2_with fail
                      refine (HMb.out _ KZ3.out).mono ?_; rintro e wd ⟨rfl, kd⟩
                      have KW4 := hid (KW3.out.trans kd)
                      clear kd HMb
                      by_cases hc : CA < CB
                      · have c1 : decide (CA < CB) = true := by simpa using hc
                        go_wp2_with fail
                        go_roundw
                        case rel => exact ⟨r + 1, true, by omega, by go_num, rfl, hid (fun h => by cases h), KW4.out⟩
                        case measure => simp [intOf]; omega
                      · have c1 : decide (CA < CB) = false := by simpa using hc
                        go_wp2_with fail
                        go_roundw
                        case rel => exact ⟨r + 1, false, by omega, by go_num, rfl, hid (fun _ => Hce2.out (by omega)), KW4.out⟩
                        case measure => simp [intOf]; omega
                  · have a3 : decide (r < m.units.length) = false := by simpa using hrl
                    obtain ⟨t1, t2, t3, t4⟩ := Htw.out rb (fun h r' hr' => Hrb.out h r' (by omega))
                    have tl := cellIn KW2.out TL8.out
                    have xl := cellIn KZ2.out XL.out
                    have xn := cellIn KZ2.out XN.out
                    clear hrl
                    have cz : decide (TB < TA) = false := decide_eq_false (by omega)
                    go_upto_region 28 with fail
                    go_cut [21, 179] (fun _ y wx => y = .bool false ∧ wx = wa)
                    case first =>
                      cases rb with
                      | true =>
                        by_cases hn0 : x.needs.length = 0
                        · have n0 : ((x.needs.length : Int) == 0) = true := by rw [hn0]; rfl
                          have n1 : (TB != TA) = false := by rw [t4 hn0]; simp
                          clear hn0 t1 t2 t3 t4
                          go_wp2_with fail
                          go_meet
                          case rel => exact ⟨rfl, rfl⟩
                        · have n0 : ((x.needs.length : Int) == 0) = false := by rw [beq_eq_false_iff_ne]; omega
                          clear hn0 t1 t2 t3 t4
                          go_wp2_with fail
                          go_meet
                          case rel => exact ⟨rfl, rfl⟩
                      | false =>
                        by_cases hlv : x.level < t.level
                        · have l1 : decide (x.level < t.level) = true := by simpa using hlv
                          have l2 : decide (t.level ≤ x.level) = false := decide_eq_false (by omega)
                          by_cases hab : TA < TB
                          · have l3 : decide (TA < TB) = true := by simpa using hab
                            have l4 : decide (ow < TB) = false := decide_eq_false (by have := t2 rfl hlv hab; omega)
                            clear hlv hab
                            by_cases hn0 : x.needs.length = 0
                            · have n0 : ((x.needs.length : Int) == 0) = true := by rw [hn0]; rfl
                              have n1 : (TB != TA) = false := by rw [t4 hn0]; simp
                              clear hn0 t1 t2 t3 t4
                              go_wp2_with fail
                              go_meet
                              case rel => exact ⟨rfl, rfl⟩
                            · have n0 : ((x.needs.length : Int) == 0) = false := by rw [beq_eq_false_iff_ne]; omega
                              clear hn0 t1 t2 t3 t4
                              go_wp2_with fail
                              go_meet
                              case rel => exact ⟨rfl, rfl⟩
                          · have l3 : decide (TA < TB) = false := by simpa using hab
                            clear hlv hab
                            by_cases hn0 : x.needs.length = 0
                            · have n0 : ((x.needs.length : Int) == 0) = true := by rw [hn0]; rfl
                              have n1 : (TB != TA) = false := by rw [t4 hn0]; simp
                              clear hn0 t1 t2 t3 t4
                              go_wp2_with fail
                              go_meet
                              case rel => exact ⟨rfl, rfl⟩
                            · have n0 : ((x.needs.length : Int) == 0) = false := by rw [beq_eq_false_iff_ne]; omega
                              clear hn0 t1 t2 t3 t4
                              go_wp2_with fail
                              go_meet
                              case rel => exact ⟨rfl, rfl⟩
                        · have l1 : decide (x.level < t.level) = false := by simpa using hlv
                          have l2 : decide (t.level ≤ x.level) = true := decide_eq_true (by omega)
                          have l3 : (TB != TA) = false := by rw [t3 rfl (by omega)]; simp
                          clear hlv
                          by_cases hn0 : x.needs.length = 0
                          · have n0 : ((x.needs.length : Int) == 0) = true := by rw [hn0]; rfl
                            have n1 : (TB != TA) = false := by rw [t4 hn0]; simp
                            clear hn0 t1 t2 t3 t4
                            go_wp2_with fail
                            go_meet
                            case rel => exact ⟨rfl, rfl⟩
                          · have n0 : ((x.needs.length : Int) == 0) = false := by rw [beq_eq_false_iff_ne]; omega
                            clear hn0 t1 t2 t3 t4
                            go_wp2_with fail
                            go_meet
                            case rel => exact ⟨rfl, rfl⟩
                    case rest =>
                      obtain ⟨rfl, hwc⟩ := hcut
                      have hwc := hwc.symm
                      subst hwc
                      clear t1 t2 t3 t4 tl xl xn cz
                      go_wp2_with fail
                      go_roundw
                      case rel => exact ⟨i + 1, by omega, by go_num, KZ2.out⟩
                      case measure => simp [intOf]; omega
              · have a2 : decide (i < m.ts.length) = false := by simpa using hil
                have KQ := hid (K3.out.trans KR.out)
                clear hil
                have HC := hid (admitruns_any hG (glob_new Hg.out KQ.out))
                go_wp2_with fail
                refine HC.out.mono ?_; rintro e w9 ⟨rfl, k9⟩
                have K9 := hid (KQ.out.trans k9)
                clear k9 HC
                go_wp2_with fail
                go_ret
                exact ⟨rfl, K9.out⟩
      · have b4 : (e3 != 0) = true := by simpa using he
        clear he
        have HC := hid (admitruns_any hG (glob_new Hg.out K3.out))
        go_wp2_with fail
        refine HC.out.mono ?_; rintro e w9 ⟨rfl, k9⟩
        have K9 := hid (K3.out.trans k9)
        clear k9 HC
        go_wp2_with fail
        go_ret
        exact ⟨rfl, K9.out⟩
end
end Go.Proofs.YtdjgijndcjbpiaaGreatDoor
