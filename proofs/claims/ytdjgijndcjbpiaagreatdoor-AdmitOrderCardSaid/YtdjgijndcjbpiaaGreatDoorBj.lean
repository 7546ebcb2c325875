/-
  AdmitOrder, walked.
-/
import Derived.Test.YtdjgijndcjbpiaaGreatDoorBi
namespace Go.Proofs.YtdjgijndcjbpiaaGreatDoor
open Go.RowKit Go.Kw Go.Kreg Go.Tm Go.Ad
set_option linter.unusedSimpArgs false
set_option linter.unusedVariables false

theorem sure_in {m : TM} {i : Nat} {t : Task} (ht : m.ts[i]? = some t) : sure m i = sureL m t.level := by
  unfold sure; rw [lev_in ht]
theorem sure_bd {m : TM} (hm : m.Ok) {lev : Int} (h : (sureL m lev).2 = true) : 0 ≤ (sureL m lev).1.frm ∧ (sureL m lev).1.frm < (sureL m lev).1.upto ∧ (sureL m lev).1.upto ≤ 4096 := by
  obtain ⟨j, t, s, h1, h2, h3, h4, h5⟩ := sure_is h
  rw [h5]
  obtain ⟨a, b⟩ := lenP_bd hm h1 h3
  exact ⟨by simp only; omega, by simp only; omega, by simp only; omega⟩
/-- What the law asks of a section of a list. -/
structure SecFact (nd : Int → Int) (P : List Cm.Op) (s : Sec) : Prop where
  e1 : decide ((s.frm : Int) < 0) = false
  e2 : decide (s.upto ≤ s.frm) = false
  e3 : decide (P.length ≤ s.upto) = false
  bd : s.frm < P.length ∧ s.upto < P.length
  at1 : ∃ x, P[s.frm]? = some x ∧ (x.kind != 1) = false ∧ (x.res != s.res) = false ∧ (x.n != s.units) = false
  at2 : ∃ x, P[s.upto]? = some x ∧ ((x.kind != 9) = false ∨ (x.kind != 9) = true ∧ (x.kind != 2) = false ∧ (x.res != s.res) = false)
  e4 : decide (s.held < s.units) = false
  e5 : decide (nd s.res < s.held) = false
theorem sec_fact {nd : Int → Int} {P : List Cm.Op} {q : List Sec} (h : SecsOk nd P q) {k : Nat} {s : Sec} (hs : q[k]? = some s) : SecFact nd P s := by
  obtain ⟨h1, h2, h3⟩ := h.each k s hs
  obtain ⟨x, x1, x2, x3, x4⟩ := h1.lock
  obtain ⟨z, z1, z2⟩ := h2.at_
  have h4 := h2.lt
  have h5 := (List.getElem?_eq_some_iff.1 x1).1
  refine ⟨decide_eq_false (by omega), decide_eq_false (by omega), decide_eq_false (by omega), ⟨h5, h3⟩, ⟨x, x1, by rw [x2]; rfl, by rw [x3]; simp, by rw [x4]; simp⟩, ⟨z, z1, ?_⟩, decide_eq_false (by have := h1.units; omega), decide_eq_false (by have := h1.held; omega)⟩
  rcases z2 with z2 | ⟨z2, z3⟩
  · left; rw [z2]; rfl
  · right; rw [z2, z3]; exact ⟨rfl, rfl, by simp⟩
section
variable {W w : World} {F : Nat → Prop}
set_option maxRecDepth 100000 in
set_option maxHeartbeats 8000000 in
theorem order_law (hG : Glob W) (hg : (glC W).holds F w) {W0 : Int} {uv tv : Value} {us : List Int} {ts : List Task} (hu : SlIm w uv us) (ht : SlTk w tv ts) (hnm : ∀ x ∈ ts, x.name.size ≤ 9223372036854775807) (a : Int) (ha : big a) :
    Calls Tryz.prog 10 #[.agg #[.int .i64 W0, uv, tv], .int .i64 a] w fun e w' => e = .returned (.bool true) ∧ Keeps (fun _ => False) w w' := by
  have hk0 := (Keeps.refl (fun _ => False) w).alloc (.cells #[.int .i64 W0, uv, tv] TSet)
  have HT := hid (made (W0 := W0) hG hg hu ht hnm hk0)
  have hok := setM_ok W0 us ts
  have hlen := setM_len W0 us ts
  obtain ⟨m, hm⟩ : ∃ m, setM W0 us ts = m := ⟨_, rfl⟩
  rw [hm] at hok hlen HT
  have Hg := hid hg
  have Hok := hid hok
  obtain ⟨ua, uc, rfl, -⟩ := id hu
  obtain ⟨la, lc, rfl, -⟩ := id ht
  clear hg hu ht hnm hk0 hm hok
  go_enter Tryz.func10, Tryz.ntmps10
  go_wp2_with fail
  refine HT.out.mono ?_; rintro e w1 ⟨p, q, rfl, hS⟩
  have K1 := hid (glob_keeps Hg.out hS).1
  obtain ⟨y, hy⟩ := tab_at 1 hS
  have Hy := hid hy
  have HS1 := hid hS
  have HL := hid (tlen_any hy)
  clear hS hy HT
  go_wp2_with fail
  by_cases h0 : m.ts.length = 0
  · have b0 : ((m.ts.length : Int) == 0) = true := by rw [h0]; rfl
    have HC := hid (admitruns_any hG (glob_new Hg.out K1.out))
    clear h0
    go_wp2_with fail
    refine HL.out.mono ?_; rintro e w2 ⟨rfl, rfl⟩
    go_wp2_with fail
    refine HC.out.mono ?_; rintro e w2 ⟨rfl, k2⟩
    have K2 := hid (K1.out.trans k2)
    clear k2 HC HL
    go_wp2_with fail
    go_ret
    exact ⟨rfl, K2.out⟩
  · have b0 : ((m.ts.length : Int) == 0) = false := by rw [beq_eq_false_iff_ne]; omega
    go_wp2_with fail
    refine HL.out.mono ?_; rintro e w2 ⟨rfl, rfl⟩
    have hlow : 0 < m.ts.length := by omega
    obtain ⟨i, x, hwi, hx⟩ := within_at a hlow
    have hwa := fun w => within_any w a 0 ((m.ts.length : Int) - 1) (by omega) (by omega) (by omega) ha.1 ha.2
    rw [hwi] at hwa
    have HL2 := hid (tlen_any Hy.out)
    clear hwi h0
    go_wp2_with fail
    refine HL2.out.mono ?_; rintro e w2 ⟨rfl, rfl⟩
    go_wp2_with fail
    refine (hwa _).mono ?_; rintro e w2 ⟨rfl, rfl⟩
    have HU := hid (sure_any Hy.out i)
    have hx64 : i < m.ts.length := (List.getElem?_eq_some_iff.1 hx).1
    have hR1 := fun h => sure_term (m := m) Hok.out (lev := x.level) h
    have hR2 := fun h => sure_bd (m := m) Hok.out (lev := x.level) h
    rw [← sure_in hx, ← term_in hx] at hR1
    rw [← sure_in hx] at hR2
    have hTL := term_le_long (m := m) x.level
    rw [← term_in hx, ← long_in hx] at hTL
    have hTG := greatest_ge (m := m) hx64
    have hT0 : 0 ≤ term m i := by rw [term_in hx]; exact gmax_ge0 _
    obtain ⟨R, hR⟩ : ∃ R, sure m i = R := ⟨_, rfl⟩
    rw [hR] at HU hR1 hR2
    have HX := hid hx
    clear hwa HL HL2 hR
    go_wp2_with fail
    refine HU.out.mono ?_; rintro e w2 ⟨rfl, k2⟩
    have HS2 := hid ((HS1.out.step k2).new THit [.int .i64 R.1.task, .int .i64 R.1.frm, .int .i64 R.1.upto])
    have K2 := hid (k2.alloc (.cells #[.int .i64 R.1.task, .int .i64 R.1.frm, .int .i64 R.1.upto] THit))
    have HTa := hid (term_any (Hy.out.keeps K2.out) i)
    obtain ⟨T, hT⟩ : ∃ T, term m i = T := ⟨_, rfl⟩
    obtain ⟨L, hL⟩ : ∃ L, longest m i = L := ⟨_, rfl⟩
    obtain ⟨G, hGr⟩ : ∃ G, greatest m = G := ⟨_, rfl⟩
    rw [hT] at hR1 hTL hTG hT0 HTa
    rw [hL] at hTL
    rw [hGr] at hTG
    have HLr := hid hL
    have HGr := hid hGr
    clear hT hL hGr k2 HU
    go_wp2_with fail
    refine HTa.out.mono ?_; rintro e w3 ⟨rfl, k3⟩
    generalize w2.heap.size = xb at *
    have HS3 := hid (HS2.out.step k3)
    have K3 := hid (K2.out.trans k3)
    have u1 := (HS3.out.blk 3).cell 1
    have u2 := (HS3.out.blk 3).cell 2
    simp only [List.getElem?_cons_zero, List.getElem?_cons_succ] at u1 u2
    clear k3 HTa HS2 K2
    go_upto_region 7 with fail
    have KA := hid (Keeps.refl (fun _ => False) w3)
    have hy4 := Hy.out.keeps K3.out
    have HY := hid hy4
    clear hy4
    go_cut [9, 82] (fun _ y wx => y = .bool false ∧ Keeps (fun _ => False) w3 wx)
    case first =>
      as_aux_lemma =>
        have c3 : decide (L < T) = false := decide_eq_false (by omega)
        have c4 : decide (T < 0) = false := decide_eq_false (by omega)
        have c5 : decide (G < T) = false := decide_eq_false (by omega)
        have HLa := fun (w9 : World) (k9 : Keeps (fun _ => False) w3 w9) => longest_any (HY.out.keeps k9) i
        have HGa := fun (w9 : World) (k9 : Keeps (fun _ => False) w3 w9) => greatest_any (HY.out.keeps k9)
        rw [HLr.out] at HLa
        rw [HGr.out] at HGa
        have HLa := hid HLa
        have HGa := hid HGa
        cases hR : R.2 with
        | false =>
          clear hR1 hR2
          go_wp2_with fail
          refine (HLa.out _ KA.out).mono ?_; rintro e w5 ⟨rfl, k⟩
          have K5 := hid (KA.out.trans k)
          clear k KA
          go_wp2_with fail
          refine (HGa.out _ K5.out).mono ?_; rintro e w6 ⟨rfl, k⟩
          have K6 := hid (K5.out.trans k)
          clear k K5
          go_wp2_with fail
          go_meet
          case rel => exact ⟨rfl, K6.out⟩
        | true =>
          obtain ⟨r1, r2⟩ := hR1 hR
          obtain ⟨r3, r4, r5⟩ := hR2 hR
          have c1 : decide (T < R.1.upto - R.1.frm) = false := decide_eq_false (by omega)
          have c2 : decide (R.1.upto ≤ R.1.frm) = false := decide_eq_false (by omega)
          clear hR1 hR2
          go_wp2_with fail
          refine (HLa.out _ KA.out).mono ?_; rintro e w5 ⟨rfl, k⟩
          have K5 := hid (KA.out.trans k)
          clear k KA
          go_wp2_with fail
          refine (HGa.out _ K5.out).mono ?_; rintro e w6 ⟨rfl, k⟩
          have K6 := hid (K5.out.trans k)
          clear k K5
          go_wp2_with fail
          go_meet
          case rel => exact ⟨rfl, K6.out⟩
    case rest =>
      as_aux_lemma =>
        obtain ⟨rfl, hK⟩ := hcut
        have KC := hid hK
        have hfit := Hok.out.fit x (List.mem_of_getElem? HX.out)
        have hso := secs_ok hfit
        have hPl : (prog x).1.length ≤ 4096 := Cm.prog_le _
        have HSt := hid (tsteps_in (HY.out.keeps KC.out) HX.out hPl)
        have HSe := hid (fun (w9 : World) (k9 : Keeps (fun _ => False) w3 w9) => sections_in (HY.out.keeps k9) HX.out)
        have HCo := hid (fun (w9 : World) (k9 : Keeps (fun _ => False) w3 w9) => cost_any (HY.out.keeps k9) i)
        have hco : cost m.ts i = (prog x).1.length := by
          unfold cost; rw [if_neg (by omega), Int.toNat_natCast, HX.out]
        rw [hco] at HCo
        have HNd := fun (w9 : World) (k9 : Keeps (fun _ => False) w3 w9) (r : Int) => need_any (HY.out.keeps k9) i r
        have hneed : ∀ r, Tm.need m.ts i r = needOf x.needs r := fun r => by unfold Tm.need; rw [if_neg (by omega), Int.toNat_natCast, HX.out]
        simp only [hneed] at HNd
        have HNd := hid HNd
        generalize (prog x).1 = P at *
        generalize secsOf x = q at *
        generalize needOf x.needs = nd at *
        have Hso := hid hso
        clear hK hfit hso hco hneed hR1 hR2 u1 u2
        go_wp2_with fail
        refine HSt.out.mono ?_; rintro e w4 ⟨sg, rfl, hS4⟩
        have K4 := hid (KC.out.trans hS4.keeps)
        have HP := hid (hS4.blk 0)
        clear hS4 HSt KC
        go_wp2_with fail
        refine (HSe.out _ K4.out).mono ?_; rintro e w5 ⟨sv, rfl, hS5⟩
        have K5 := hid (K4.out.trans hS5.keeps)
        have HP5 := hid (hS5.keeps.blk HP.out (fun h => h))
        have HV := hid (hS5.vec 0)
        obtain ⟨sa, sc, rfl, -⟩ := (hS5.vec 0).shape
        clear hS5 HSe HP K4
        go_wp2_with fail
        refine (HCo.out _ K5.out).mono ?_; rintro e w6 ⟨rfl, k6⟩
        have K6 := hid (K5.out.trans k6)
        have HP6 := hid (k6.blk HP5.out (fun h => h))
        have HV6 := hid (HV.out.keeps k6 (fun _ _ h => h))
        clear k6 HCo K5 HP5 HV
        have q1 : ((P.length : Int) != (P.length : Int)) = false := by simp
        have hql := Hso.out.few
        go_wp2_with fail
        go_loopw [14] (fun y wr => ∃ k : Nat, k ≤ q.length ∧ y = .int .i64 k ∧ Keeps (fun _ => False) w6 wr) (fun y _ => q.length - (intOf y).toNat)
        case atStart => exact ⟨0, Nat.zero_le _, rfl, Keeps.refl _ _⟩
        case round =>
          as_aux_lemma =>
            obtain ⟨k, hk, rfl, hK⟩ := hrel
            have KR := hid hK
            clear hK
            by_cases hlt : k < q.length
            · have a1 : decide (k < q.length) = true := by simpa using hlt
              have hs := List.getElem?_eq_getElem hlt
              obtain ⟨f1, f2, f3, ⟨bd1, bd2⟩, ⟨y1, hy1, g1, g2, g3⟩, ⟨y2, hy2, g4⟩, f4, f5⟩ := sec_fact Hso.out hs
              have hv := HV6.out.keeps KR.out (fun _ _ h => h)
              obtain ⟨gs, cs, e1, -, -⟩ := hv.form (by omega)
              cases e1
              obtain ⟨e0, e1, e2, e3, e4⟩ := secsC_at hs
              have s0 := hv.cells' (g := gs) rfl e0
              have s1 := hv.cells' (g := gs) rfl e1
              have s2 := hv.cells' (g := gs) rfl e2
              have s3 := hv.cells' (g := gs) rfl e3
              have s4 := hv.cells' (g := gs) rfl e4
              have hp := KR.out.blk HP6.out (fun h => h)
              obtain ⟨z0, z1, z2, z3⟩ := opsC_at hy1
              obtain ⟨v0, v1, v2, v3⟩ := opsC_at hy2
              have d0 := hp.at z0
              have d1 := hp.at z1
              have d2 := hp.at z2
              have d3 := hp.at z3
              have p0 := hp.at v0
              have p1 := hp.at v1
              have p2 := hp.at v2
              have p3 := hp.at v3
              generalize q[k] = s at *
              have Hs := hid hs
              have i0 : (0 : Int) ≤ (k : Int) := by omega
              have i1 : (k : Int) < (q.length : Int) := by omega
              have j0 : (0 : Int) ≤ (s.frm : Int) := by omega
              have j1 : (s.frm : Int) < (P.length : Int) := by omega
              have j2 : (0 : Int) ≤ (s.upto : Int) := by omega
              have j3 : (s.upto : Int) < (P.length : Int) := by omega
              clear hv hp hs e0 e1 e2 e3 e4 z0 z1 z2 z3 hy1 hy2 p0 p1 p2 p3
              go_wp2_with fail
              generalize hwx : wr.alloc (.cells #[.int .i64 s.res, .int .i64 s.units, .int .i64 s.held, .int .i64 s.frm, .int .i64 s.upto] TSe) = wx at *
              have hkx : Keeps (fun _ => False) wr wx := by rw [← hwx]; exact (Keeps.refl _ _).alloc _
              have hbx : Blk wx wr.heap.size TSe [.int .i64 s.res, .int .i64 s.units, .int .i64 s.held, .int .i64 s.frm, .int .i64 s.upto] := by rw [← hwx]; exact Blk.new wr TSe _
              generalize wr.heap.size = ab at *
              have KX := hid (KR.out.trans hkx)
              have HB := hid hbx
              have t0 := hbx.cell 0
              have t1 := hbx.cell 1
              have t2 := hbx.cell 2
              have t3 := hbx.cell 3
              have t4 := hbx.cell 4
              simp only [List.getElem?_cons_zero, List.getElem?_cons_succ] at t0 t1 t2 t3 t4
              have d0 := cellIn hkx d0
              have d1 := cellIn hkx d1
              have d2 := cellIn hkx d2
              have HNd2 := hid (fun w9 (k9 : Keeps (fun _ => False) wx w9) => HNd.out w9 (K6.out.trans (KX.out.trans k9)) s.res)
              clear hwx hkx hbx s0 s1 s2 s3 s4
              refine wp_region_keep (by kernel_rfl) (by kernel_rfl) ?_
              repeat (first | go_big_quiet_skip | ((first | refine wpKeep_load rfl ?_ | refine wpKeep_other rfl ?_); (first | go_big_quiet_step (fail) | quiet_step (fail)); refine wpQuiet_nil ?_; refine Shut.mk ?_) | (refine wpQuiet_step (fun K hK => ?_); go_simp; first | (refine hK _ ?_; clear hK K) | (apply Exists.intro; refine ⟨fun w9 k9 => ?_, hK _ ?_⟩; (exact (HNd2.out w9 k9).mono fun e w' h => ⟨h.1, k9.trans h.2⟩); clear hK K)))
              refine wpQuiet_nil ?_
              intro w9 k9
              have K9 := hid (KX.out.trans k9)
              have HB9 := hid (k9.blk HB.out (fun h => h))
              have t0 := cellIn k9 t0
              have t3 := cellIn k9 t3
              have t4 := cellIn k9 t4
              have hp := K9.out.blk HP6.out (fun h => h)
              have p0 := hp.at v0
              have p1 := hp.at v1
              have p2 := hp.at v2
              have p3 := hp.at v3
              clear hp v0 v1 v2 v3 k9 HNd2 HB KX d0 d1 d2 d3 t1 t2
              go_upto_region 20 with fail
              generalize hwx : w9.alloc (.cells #[.int .i64 y2.kind, .int .i64 y2.res, .int .i64 y2.n, .int .i64 y2.v] TOp) = wy at *
              have hkx : Keeps (fun _ => False) w9 wy := by rw [← hwx]; exact (Keeps.refl _ _).alloc _
              have hbx : Blk wy w9.heap.size TOp [.int .i64 y2.kind, .int .i64 y2.res, .int .i64 y2.n, .int .i64 y2.v] := by rw [← hwx]; exact Blk.new w9 TOp _
              generalize w9.heap.size = eb at *
              have KY := hid (K9.out.trans hkx)
              have T0 := hid (cellIn hkx t0)
              have T3 := hid (cellIn hkx t3)
              have T4 := hid (cellIn hkx t4)
              have l0 := hbx.cell 0
              have l1 := hbx.cell 1
              simp only [List.getElem?_cons_zero, List.getElem?_cons_succ] at l0 l1
              have G4 := hid g4
              have G := hid (show (∀ (j : Nat) sj, j < k → q[j]? = some sj → sj.frm < s.frm ∧ (sj.upto ≤ s.frm ∨ s.upto ≤ sj.upto)) from fun j sj hj hsj => ⟨Hso.out.rise j k sj s hj hsj Hs.out, Hso.out.nest j k sj s hj hsj Hs.out⟩)
              clear hwx hkx hbx t0 t3 t4 p0 p1 p2 p3 g1 g2 g3 g4 f1 f2 f3 f4 f5 K9 HB9
              go_cut [192] (fun y wx => y = .bool false ∧ wx = wy)
              case first =>
                as_aux_lemma =>
                  have t0 := T0.out
                  rcases G4.out with g4 | ⟨g4, g5, g6⟩
                  · go_wp2_with fail
                    go_meet
                    case rel => exact ⟨rfl, rfl⟩
                  · go_wp2_with fail
                    go_meet
                    case rel => exact ⟨rfl, rfl⟩
              case rest =>
                as_aux_lemma =>
                  obtain ⟨rfl, hwc⟩ := hcut
                  have hwc := hwc.symm
                  subst hwc
                  clear l0 l1
                  go_wp2_with fail
                  go_loopw [17] (fun y wz => ∃ j : Nat, j ≤ k ∧ y = .int .i64 j ∧ Keeps (fun _ => False) wy wz) (fun y _ => k - (intOf y).toNat)
                  case atStart => exact ⟨0, Nat.zero_le _, rfl, Keeps.refl _ _⟩
                  case round =>
                    as_aux_lemma =>
                      obtain ⟨j, hj, rfl, hK⟩ := hrel
                      have KZ := hid (KY.out.trans hK)
                      by_cases hjk : j < k
                      · have a2 : decide (j < k) = true := by simpa using hjk
                        have hjl : j < q.length := by omega
                        have hs := List.getElem?_eq_getElem hjl
                        obtain ⟨r1, r2⟩ := G.out j _ hjk hs
                        have hv := HV6.out.keeps KZ.out (fun _ _ h => h)
                        obtain ⟨gs, cs, e1, -, -⟩ := hv.form (by omega)
                        cases e1
                        obtain ⟨-, -, -, e3, e4⟩ := secsC_at hs
                        have s3 := hv.cells' (g := gs) rfl e3
                        have s4 := hv.cells' (g := gs) rfl e4
                        have t3 := cellIn hK T3.out
                        have t4 := cellIn hK T4.out
                        generalize q[j] = sj at *
                        have m0 : (0 : Int) ≤ (j : Int) := by omega
                        have m1 : (j : Int) < (q.length : Int) := by omega
                        have c1 : decide (s.frm ≤ sj.frm) = false := decide_eq_false (by omega)
                        have hcs : decide (s.frm < sj.upto) = false ∨ (decide (s.frm < sj.upto) = true ∧ decide (sj.upto < s.upto) = false) := by
                          by_cases h : s.frm < sj.upto
                          · exact .inr ⟨decide_eq_true h, decide_eq_false (by omega)⟩
                          · exact .inl (decide_eq_false h)
                        have HK := hid hK
                        clear hv e3 e4 hs r1 r2 hK
                        rcases hcs with c2 | ⟨c2, c3⟩
                        · go_wp2_with fail
                          refine wp_region_keep (by kernel_rfl) (by kernel_rfl) ?_
                          repeat (first | go_big_quiet_skip | ((first | refine wpKeep_load rfl ?_ | refine wpKeep_other rfl ?_); (first | go_big_quiet_step (fail) | quiet_step (fail)); refine wpQuiet_nil ?_; refine Shut.mk ?_) | (refine wpQuiet_step (fun K hK => ?_); go_simp; first | (refine hK _ ?_; clear hK K) | (apply Exists.intro; refine ⟨fun w9 k9 => ?_, hK _ ?_⟩; (fail); clear hK K)))
                          refine wpQuiet_nil ?_
                          intro w9 k9
                          have KW := hid (HK.out.trans k9)
                          clear k9
                          go_wp2_with fail
                          go_roundw
                          case rel => exact ⟨j + 1, by omega, by go_num, KW.out⟩
                          case measure => simp [intOf]; omega
                        · go_wp2_with fail
                          refine wp_region_keep (by kernel_rfl) (by kernel_rfl) ?_
                          repeat (first | go_big_quiet_skip | ((first | refine wpKeep_load rfl ?_ | refine wpKeep_other rfl ?_); (first | go_big_quiet_step (fail) | quiet_step (fail)); refine wpQuiet_nil ?_; refine Shut.mk ?_) | (refine wpQuiet_step (fun K hK => ?_); go_simp; first | (refine hK _ ?_; clear hK K) | (apply Exists.intro; refine ⟨fun w9 k9 => ?_, hK _ ?_⟩; (fail); clear hK K)))
                          refine wpQuiet_nil ?_
                          intro w9 k9
                          have KW := hid (HK.out.trans k9)
                          clear k9
                          go_wp2_with fail
                          go_roundw
                          case rel => exact ⟨j + 1, by omega, by go_num, KW.out⟩
                          case measure => simp [intOf]; omega
                      · have a2 : decide (j < k) = false := by simpa using hjk
                        clear hjk
                        go_wp2_with fail
                        go_roundw
                        case rel => exact ⟨k + 1, by omega, by go_num, KZ.out⟩
                        case measure => simp [intOf]; omega
            · have a1 : decide (k < q.length) = false := by simpa using hlt
              have HC := hid (admitruns_any hG (glob_new Hg.out (K1.out.trans (K3.out.trans (K6.out.trans KR.out)))))
              go_wp2_with fail
              refine HC.out.mono ?_; rintro e w7 ⟨rfl, k7⟩
              have K7 := hid ((K1.out.trans (K3.out.trans (K6.out.trans KR.out))).trans k7)
              clear k7 HC
              go_wp2_with fail
              go_ret
              exact ⟨rfl, K7.out⟩
end
end Go.Proofs.YtdjgijndcjbpiaaGreatDoor
