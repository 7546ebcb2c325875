/-
  CeilFalls, walked.
-/
import Derived.Test.YtdjgijndcjbpiaaGreatDoorUf
import Derived.Test.YtdjgijndcjbpiaaGreatDoorKk
import Derived.Deep.Cut
import Derived.Deep.DeepCutAuto
namespace Go.Proofs.YtdjgijndcjbpiaaGreatDoor
open Go.RowKit Go.Kw Go.Kreg Go.Tm
set_option linter.unusedSimpArgs false
set_option linter.unusedVariables false

def fndB (C r : Int) (k : Nat) (ts : List Task) : Bool := decide (C = 0) || ts.any fun t => decide ((k : Int) < needOf t.needs r) && decide (t.level = C)
theorem fndB_take {C r : Int} {k i : Nat} {ts : List Task} {t : Task} (h : ts[i]? = some t) : fndB C r k (ts.take (i + 1)) = (fndB C r k (ts.take i) || (decide ((k : Int) < needOf t.needs r) && decide (t.level = C))) := by
  obtain ⟨hk, rfl⟩ := List.getElem?_eq_some_iff.1 h
  unfold fndB
  rw [List.take_succ_eq_append_getElem hk, List.any_append]
  simp [Bool.or_assoc]
theorem fndB_all {m : TM} (r : Int) (k : Nat) : fndB (ceil0 m.ts r k) r k m.ts = true := by
  unfold fndB
  rcases ceil0_is m.ts r k with h | ⟨t, h1, h2, h3⟩
  · simp [h]
  · simp only [Bool.or_eq_true, List.any_eq_true]
    exact .inr ⟨t, h1, by simp [h2, h3]⟩
theorem ceilRow_at {m : TM} {r : Int} (hh : m.has r) {j : Nat} (hj : j ≤ (m.unitsOf r).toNat) : (m.ceilRow r)[j]? = some (ceil0 m.ts r j) := by
  unfold TM.ceilRow
  rw [if_pos hh, List.getElem?_map, List.getElem?_range (by omega)]; rfl
theorem ceilRow_n {m : TM} {r : Int} (hh : m.has r) : (m.ceilRow r).length = (m.unitsOf r).toNat + 1 := by
  unfold TM.ceilRow
  rw [if_pos hh, List.length_map, List.length_range]
theorem fndB_nil (C r : Int) (k : Nat) (ts : List Task) : fndB C r k (ts.take 0) = (C == 0) := by
  unfold fndB; simp; rfl
section
variable {W w : World} {F : Nat → Prop}
set_option maxRecDepth 100000 in
set_option maxHeartbeats 8000000 in
theorem falls_law (hG : Glob W) (hg : (glC W).holds F w) {uv lv : Value} {us : List Int} {l : List Task} (hu : SlIn w uv us) (hub : ∀ x ∈ us, big x) (hl : SlTk w lv l) (hnm : ∀ x ∈ l, x.name.size ≤ 9223372036854775807) (res : Int) (hr : big res) :
    Calls Tryz.prog 6 #[uv, lv, .int .i64 res] w fun e w' => e = .returned (.bool true) ∧ Keeps (fun _ => False) w w' := by
  have HT := hid (table_any hG hg hu hl hnm)
  obtain ⟨ua, uc, rfl, -⟩ := id hu
  obtain ⟨la, lc, rfl, -⟩ := id hl
  have hfew := tableM_few us l
  generalize tableM us l = m at *
  have Hg := hid hg
  clear hg hu hl hnm hub
  by_cases hz : m.units.length = 0
  · have bz : ((m.units.length : Int) == 0) = true := by simp [hz]
    have Hz := hid hz
    clear hz
    go_enter Tryz.func6, Tryz.ntmps6
    go_wp2_with fail
    refine HT.out.mono ?_; rintro e w1 ⟨p, q, rfl, hS⟩
    have K1 := hid (glob_keeps Hg.out hS).1
    obtain ⟨y, hy⟩ := ref_at 2 hS
    obtain ⟨c0, c1, c2, cz⟩ := hy.cells
    obtain ⟨ra, rc, euv⟩ := ref_ushape hy
    rw [euv] at c1
    have HC := hid (ceilruns_any hG (glob_new Hg.out K1.out))
    clear hS hy HT euv
    go_wp2_with fail
    refine HC.out.mono ?_; rintro e w3 ⟨rfl, k3⟩
    have K3 := hid (K1.out.trans k3)
    clear k3
    go_wp2_with fail
    go_ret
    exact ⟨rfl, K3.out⟩
  · have bz : ((m.units.length : Int) == 0) = false := by rw [beq_eq_false_iff_ne]; omega
    have hpos : 0 < m.units.length := by omega
    have hwb := within_bd res 0 ((m.units.length : Int) - 1) (by omega)
    have hwi := fun w => within_any w res 0 ((m.units.length : Int) - 1) (by omega) (by omega) (by have := hfew; omega) hr.1 hr.2
    generalize within res 0 ((m.units.length : Int) - 1) = R at *
    obtain ⟨r, rfl⟩ := Int.eq_ofNat_of_zero_le hwb.1
    have hrl : r < m.units.length := by omega
    have hh : m.has r := by unfold TM.has; omega
    clear hr hz hwb
    go_enter Tryz.func6, Tryz.ntmps6
    go_wp2_with fail
    refine HT.out.mono ?_; rintro e w1 ⟨p, q, rfl, hS⟩
    have K1 := hid (glob_keeps Hg.out hS).1
    obtain ⟨x, hx⟩ := tab_at 1 hS
    obtain ⟨y, hy⟩ := ref_at 2 hS
    have Hx := hid hx
    obtain ⟨c0, c1, c2, cz⟩ := hy.cells
    obtain ⟨ra, rc, euv⟩ := ref_ushape hy
    rw [euv] at c1
    have hok := hx.tok.ok
    have hub := unitsOf_bd hok hh
    have hun := hy.units
    rw [euv] at hun
    obtain ⟨ug, ucap, e, -⟩ := hun.form (by omega)
    cases e
    have hur : m.units[r]? = some (m.unitsOf r) := by
      unfold TM.unitsOf
      rw [Int.toNat_natCast, List.getD_eq_getElem?_getD, List.getElem?_eq_getElem hrl]; rfl
    have du := hun.cells' (g := ug) rfl (intsC_at hur)
    have C1 := hid c1
    have DU := hid du
    have Hr := hid hur
    clear hS hx hy HT euv hun hur du
    go_wp2_with fail
    refine (hwi _).mono ?_; rintro e w2 ⟨rfl, rfl⟩
    clear hwi
    go_wp2_with fail
    refine (crow_any Hx.out r).mono ?_; rintro e w2 ⟨rv, rfl, hS2⟩
    have hlen := ceilRow_n hh
    have hat := fun j hj => ceilRow_at (m := m) hh (j := j) hj
    have hce := fun f => ceilAt_eq hok r f
    have Hbig := hid (show m.ceilAt r 4611686018427387904 = 0 by rw [ceilAt_eq hok]; exact ceil_all hok (by omega) (by omega))
    have hall := ceil_all hok (res := r) (free := m.unitsOf r) (by omega) (by omega)
    obtain ⟨N, hN⟩ : ∃ N : Nat, m.unitsOf r = N := ⟨(m.unitsOf r).toNat, by omega⟩
    have du := DU.out
    rw [hN] at du hlen hat hub hall
    rw [Int.toNat_natCast] at hlen hat
    have ho := hS2.own 0
    rw [hlen] at ho
    obtain ⟨rg, rcap, e, -⟩ := ho.form (by omega)
    subst e
    have hrow : ∀ j, j ≤ N → w2.cell? ⟨rg, j, none⟩ = some (.int .i64 (ceil0 m.ts r j)) := fun j hj => ho.cells' (g := rg) rfl (intsC_at (hat j hj))
    have Hrow := hid hrow
    have Hce := hid hce
    have Hall := hid hall
    have HX2 := hid (Hx.out.keeps hS2.keeps)
    have K2 := hid (K1.out.trans hS2.keeps)
    have c1 := cellIn hS2.keeps C1.out
    have du := cellIn hS2.keeps du
    have d0 := hrow 0 (by omega)
    have dn := hrow N (by omega)
    rw [hall] at dn
    rw [show ((0 : Nat) : Int) = 0 from rfl] at d0
    have e0 : m.ceilAt r 0 = ceil0 m.ts r 0 := by rw [hce]; rfl
    have hmx : ∀ w9, Keeps (fun _ => False) w2 w9 → Calls Tryz.prog 38 #[.pointer (some ⟨p, 0, none⟩), .int .i64 r] w9 fun e w' => e = .returned (.int .i64 (ceil0 m.ts r 0)) ∧ Keeps (fun _ => False) w9 w' := fun w9 k9 => by
      have := max_any (HX2.out.keeps k9) r
      rw [e0] at this
      exact this
    have HM := hid hmx
    clear hS2 hlen hat hce hall ho hrow e0 hmx hN C1 DU Hr Hx
    generalize ceil0 m.ts r 0 = C0 at *
    have q1 : ((N : Int) + 1 != (N : Int) + 1) = false := by simp
    have q2 : ((((N : Int) + 1 - 1).toNat)) = N := by omega
    have j0 : (0 : Int) ≤ (N : Int) + 1 - 1 := by omega
    have j1 : (N : Int) + 1 - 1 < (N : Int) + 1 := by omega
    have i0 : (0 : Int) ≤ (r : Int) := by omega
    have i1 : (r : Int) < (m.units.length : Int) := by omega
    have z0 : (0 : Int) < (N : Int) + 1 := by omega
    go_wp2_with fail
    refine wp_region_keep (by kernel_rfl) (by kernel_rfl) ?_
    repeat (first | go_big_quiet_skip | ((first | refine wpKeep_load rfl ?_ | refine wpKeep_other rfl ?_); (first | go_big_quiet_step (fail) | quiet_step (fail)); refine wpQuiet_nil ?_; refine Shut.mk ?_) | (refine wpQuiet_step (fun K hK => ?_); go_simp; first | (refine hK _ ?_; clear hK K) | (apply Exists.intro; refine ⟨fun w9 k9 => ?_, hK _ ?_⟩; (exact (HM.out w9 k9).mono fun e w' h => ⟨h.1, k9.trans h.2⟩); clear hK K)))
    refine wpQuiet_nil ?_
    intro w9 k9
    have K9 := hid k9
    clear k9 d0 dn c1 du
    go_wp2_with fail
    clear HM q1 q2 j0 j1 z0 i0 i1
    go_loopw [10] (fun i wr => ∃ k : Nat, k ≤ N + 1 ∧ i = .int .i64 k ∧ Keeps (fun _ => False) w2 wr) (fun i _ => (N + 1) - (intOf i).toNat)
    case atStart => exact ⟨0, by omega, rfl, K9.out⟩
    case round =>
      clear K9
      obtain ⟨k, hk, rfl, hK⟩ := hrel
      by_cases hlt : k < N + 1
      · have b1 : decide ((k : Int) < (N : Int) + 1) = true := by simp; omega
        have i2 : (0 : Int) ≤ (k : Int) := by omega
        have i3 : (k : Int) < (N : Int) + 1 := by omega
        have KR := hid hK
        have Hdk := hid (Hrow.out k (by omega))
        have dk := cellIn hK Hdk.out
        have hat : ∀ w9, Keeps (fun _ => False) wr w9 → Calls Tryz.prog 37 #[.pointer (some ⟨p, 0, none⟩), .int .i64 r, .int .i64 k] w9 fun e w' => e = .returned (.int .i64 (ceil0 m.ts r k)) ∧ Keeps (fun _ => False) w9 w' := fun w9 k9 => by
          have := at_any (HX2.out.keeps (KR.out.trans k9)) r k
          rw [Hce.out, show max (k : Int) 0 = (k : Int) by omega] at this
          exact this
        have HA := hid hat
        have HFA := hid (fndB_all (m := m) r k)
        have HLV := hid (fun t (ht : t ∈ m.ts) (hf : (k : Int) < needOf t.needs r) => ceil0_lev (res := r) (free := k) ht hf)
        obtain ⟨cp, hcp1, hcp2⟩ : ∃ cp : Int, (0 < k → wr.cell? ⟨rg, k - 1, none⟩ = some (.int .i64 cp)) ∧ (0 < k → decide (cp < ceil0 m.ts r k) = false) := by
          refine ⟨ceil0 m.ts r ((k - 1 : Nat) : Int), fun h0 => cellIn hK (Hrow.out (k - 1) (by omega)), fun h0 => decide_eq_false ?_⟩
          have := ceil0_anti (ts := m.ts) (res := r) (f := ((k - 1 : Nat) : Int)) (g := (k : Int)) (by omega)
          omega
        generalize ceil0 m.ts r k = C at *
        have HP1 := hid hcp1
        have HP2 := hid hcp2
        clear hK hat hcp1 hcp2
        rcases Nat.eq_zero_or_pos k with h0 | h0
        · have b2 : decide ((0 : Int) < (k : Int)) = false := by simp; omega
          have b2' : decide (0 < k) = false := by simp; omega
          clear h0 HP1 HP2
          go_wp2_with fail
          refine wp_region_keep (by kernel_rfl) (by kernel_rfl) ?_
          repeat (first | go_big_quiet_skip | ((first | refine wpKeep_load rfl ?_ | refine wpKeep_other rfl ?_); (first | go_big_quiet_step (fail) | quiet_step (fail)); refine wpQuiet_nil ?_; refine Shut.mk ?_) | (refine wpQuiet_step (fun K hK => ?_); go_simp; first | (refine hK _ ?_; clear hK K) | (apply Exists.intro; refine ⟨fun w9 k9 => ?_, hK _ ?_⟩; (exact (HA.out w9 k9).mono fun e w' h => ⟨h.1, k9.trans h.2⟩); clear hK K)))
          refine wpQuiet_nil ?_
          intro w9 k9
          have KC := hid (KR.out.trans k9)
          have hfewT := HX2.out.few
          have dk := cellIn k9 dk
          clear k9 HA
          go_wp2_with fail
          go_loopw [12, 11] (fun i z wx => ∃ j : Nat, j ≤ m.ts.length ∧ i = .int .i64 j ∧ z = .bool (fndB C r k (m.ts.take j)) ∧ Keeps (fun _ => False) w2 wx) (fun i _ _ => m.ts.length - (intOf i).toNat)
          case atStart => exact ⟨0, Nat.zero_le _, rfl, by rw [fndB_nil], KC.out⟩
          case round =>
            clear KC dk
            obtain ⟨j, hj, rfl, rfl, hK⟩ := hrel
            have KJ := hid hK
            have hln := tlen_any (HX2.out.keeps hK)
            have HL := hid hln
            by_cases hjl : j < m.ts.length
            · have c1 : decide (j < m.ts.length) = true := by simpa using hjl
              have ht := List.getElem?_eq_getElem hjl
              have hft := fndB_take (C := C) (r := r) (k := k) ht
              have hlv := HLV.out _ (List.getElem_mem hjl)
              have hnk : Tm.need m.ts j r = needOf (m.ts[j]).needs r := by unfold Tm.need; rw [if_neg (by omega), Int.toNat_natCast, ht]
              have hget := get_in (HX2.out.keeps hK) ht
              generalize m.ts[j] = t at *
              have HG := hid hget
              have Hft := hid hft
              have Hlv := hid hlv
              have Hnk := hid hnk
              unfold taskV at HG
              clear hK hln hget hft hlv hnk ht
              go_wp2_with fail
              refine HL.out.mono ?_; rintro e w4 ⟨rfl, rfl⟩
              clear HL
              go_wp2_with fail
              refine HG.out.mono ?_; rintro e w5 ⟨gn, rfl, hS⟩
              have hB := Blk.new w5 TTk (taskL' t (.slice (some ⟨gn, 0, none⟩) t.needs.length t.needs.length))
              have hkx := (KJ.out.trans hS.keeps).trans ((Keeps.refl (fun _ => False) w5).alloc (.cells (taskL' t (.slice (some ⟨gn, 0, none⟩) t.needs.length t.needs.length)).toArray TTk))
              have hxl := hB.cell 1
              have dk := cellIn hkx Hdk.out
              simp only [List.getElem?_cons_succ, List.getElem?_cons_zero] at hxl
              have KX := hid hkx
              have HXL := hid hxl
              have DK := hid dk
              clear hS hB hkx hxl HG KJ dk
              go_wp2_with fail
              have dk := DK.out
              have dx := HXL.out
              generalize World.alloc w5 _ = wx at *
              generalize w5.heap.size = xb at *
              have hnd : ∀ w9, Keeps (fun _ => False) wx w9 → Calls Tryz.prog 51 #[.pointer (some ⟨p, 0, none⟩), .int .i64 j, .int .i64 r] w9 fun e w' => e = .returned (.int .i64 (needOf t.needs r)) ∧ Keeps (fun _ => False) w9 w' := fun w9 k9 => by
                have := need_any (HX2.out.keeps (KX.out.trans k9)) j r
                rw [Hnk.out] at this
                exact this
              have HN := hid hnd
              clear hnd Hnk
              generalize needOf t.needs r = NT at *
              generalize hfv : fndB C r k (m.ts.take j) = fv at *
              have Hfv := hid hfv
              clear hfv
              have hlv := Hlv.out
              clear Hlv
              by_cases hN : (k : Int) < NT
              · have n1 : decide ((k : Int) < NT) = true := by simpa using hN
                have n2 : decide (C < t.level) = false := by have := hlv hN; simp; omega
                have HNT := hid hN
                clear hlv hN
                refine wp_region_keep (by kernel_rfl) (by kernel_rfl) ?_
                repeat (first | go_big_quiet_skip | ((first | refine wpKeep_load rfl ?_ | refine wpKeep_other rfl ?_); (first | go_big_quiet_step (fail) | quiet_step (fail)); refine wpQuiet_nil ?_; refine Shut.mk ?_) | (refine wpQuiet_step (fun K hK => ?_); go_simp; first | (refine hK _ ?_; clear hK K) | (apply Exists.intro; refine ⟨fun w9 k9 => ?_, hK _ ?_⟩; (exact (HN.out w9 k9).mono fun e w' h => ⟨h.1, k9.trans h.2⟩); clear hK K)))
                refine wpQuiet_nil ?_
                intro w9 k9
                have KY := hid k9
                have dk := cellIn k9 dk
                have dx := cellIn k9 dx
                clear k9 n2
                go_wp2_with fail
                cases fv with
                | true =>
                  refine wp_region_keep (by kernel_rfl) (by kernel_rfl) ?_
                  repeat (first | go_big_quiet_skip | ((first | refine wpKeep_load rfl ?_ | refine wpKeep_other rfl ?_); (first | go_big_quiet_step (fail) | quiet_step (fail)); refine wpQuiet_nil ?_; refine Shut.mk ?_) | (refine wpQuiet_step (fun K hK => ?_); go_simp; first | (refine hK _ ?_; clear hK K) | (apply Exists.intro; refine ⟨fun w9 k9 => ?_, hK _ ?_⟩; (exact (HN.out w9 (KY.out.trans k9)).mono fun e w' h => ⟨h.1, k9.trans h.2⟩); clear hK K)))
                  refine wpQuiet_nil ?_
                  intro w9 k9
                  have KZ := hid ((KX.out.trans KY.out).trans k9)
                  clear k9
                  go_wp2_with fail
                  go_roundw
                  case rel => exact ⟨j + 1, by omega, by go_num, by rw [Hft.out]; rfl, KZ.out⟩
                  case measure => simp [intOf]; omega
                | false =>
                  refine wp_region_keep (by kernel_rfl) (by kernel_rfl) ?_
                  repeat (first | go_big_quiet_skip | ((first | refine wpKeep_load rfl ?_ | refine wpKeep_other rfl ?_); (first | go_big_quiet_step (fail) | quiet_step (fail)); refine wpQuiet_nil ?_; refine Shut.mk ?_) | (refine wpQuiet_step (fun K hK => ?_); go_simp; first | (refine hK _ ?_; clear hK K) | (apply Exists.intro; refine ⟨fun w9 k9 => ?_, hK _ ?_⟩; (exact (HN.out w9 (KY.out.trans k9)).mono fun e w' h => ⟨h.1, k9.trans h.2⟩); clear hK K)))
                  refine wpQuiet_nil ?_
                  intro w9 k9
                  have KZ := hid ((KX.out.trans KY.out).trans k9)
                  clear k9
                  go_wp2_with fail
                  go_roundw
                  case rel => exact ⟨j + 1, by omega, by go_num, by rw [Hft.out, decide_eq_true (show (k : Int) < NT by have := HNT.out; omega)]; rfl, KZ.out⟩
                  case measure => simp [intOf]; omega
              · have n1 : decide ((k : Int) < NT) = false := by simpa using hN
                have HNT := hid hN
                clear hlv hN
                refine wp_region_keep (by kernel_rfl) (by kernel_rfl) ?_
                repeat (first | go_big_quiet_skip | ((first | refine wpKeep_load rfl ?_ | refine wpKeep_other rfl ?_); (first | go_big_quiet_step (fail) | quiet_step (fail)); refine wpQuiet_nil ?_; refine Shut.mk ?_) | (refine wpQuiet_step (fun K hK => ?_); go_simp; first | (refine hK _ ?_; clear hK K) | (apply Exists.intro; refine ⟨fun w9 k9 => ?_, hK _ ?_⟩; (exact (HN.out w9 k9).mono fun e w' h => ⟨h.1, k9.trans h.2⟩); clear hK K)))
                refine wpQuiet_nil ?_
                intro w9 k9
                have KY := hid k9
                have dk := cellIn k9 dk
                have dx := cellIn k9 dx
                clear k9
                go_wp2_with fail
                cases fv with
                | true =>
                  refine wp_region_keep (by kernel_rfl) (by kernel_rfl) ?_
                  repeat (first | go_big_quiet_skip | ((first | refine wpKeep_load rfl ?_ | refine wpKeep_other rfl ?_); (first | go_big_quiet_step (fail) | quiet_step (fail)); refine wpQuiet_nil ?_; refine Shut.mk ?_) | (refine wpQuiet_step (fun K hK => ?_); go_simp; first | (refine hK _ ?_; clear hK K) | (apply Exists.intro; refine ⟨fun w9 k9 => ?_, hK _ ?_⟩; (exact (HN.out w9 (KY.out.trans k9)).mono fun e w' h => ⟨h.1, k9.trans h.2⟩); clear hK K)))
                  refine wpQuiet_nil ?_
                  intro w9 k9
                  have KZ := hid ((KX.out.trans KY.out).trans k9)
                  clear k9
                  go_wp2_with fail
                  go_roundw
                  case rel => exact ⟨j + 1, by omega, by go_num, by rw [Hft.out]; rfl, KZ.out⟩
                  case measure => simp [intOf]; omega
                | false =>
                  refine wp_region_keep (by kernel_rfl) (by kernel_rfl) ?_
                  repeat (first | go_big_quiet_skip | ((first | refine wpKeep_load rfl ?_ | refine wpKeep_other rfl ?_); (first | go_big_quiet_step (fail) | quiet_step (fail)); refine wpQuiet_nil ?_; refine Shut.mk ?_) | (refine wpQuiet_step (fun K hK => ?_); go_simp; first | (refine hK _ ?_; clear hK K) | (apply Exists.intro; refine ⟨fun w9 k9 => ?_, hK _ ?_⟩; (exact (HN.out w9 (KY.out.trans k9)).mono fun e w' h => ⟨h.1, k9.trans h.2⟩); clear hK K)))
                  refine wpQuiet_nil ?_
                  intro w9 k9
                  have KZ := hid ((KX.out.trans KY.out).trans k9)
                  clear k9
                  go_wp2_with fail
                  go_roundw
                  case rel => exact ⟨j + 1, by omega, by go_num, by rw [Hft.out, decide_eq_false (show ¬ (k : Int) < NT by have := HNT.out; omega)]; rfl, KZ.out⟩
                  case measure => simp [intOf]; omega
            · have c1 : decide (j < m.ts.length) = false := by simpa using hjl
              rw [List.take_of_length_le (by omega), HFA.out]
              clear hK hln
              go_wp2_with fail
              refine HL.out.mono ?_; rintro e w4 ⟨rfl, rfl⟩
              go_wp2_with fail
              go_roundw
              case rel => exact ⟨k + 1, by omega, by go_num, KJ.out⟩
              case measure => simp [intOf]; omega
        · have b2 : decide ((0 : Int) < (k : Int)) = true := by simp; omega
          have b2' : decide (0 < k) = true := by simpa using h0
          have d2 := HP1.out h0
          have b3 := HP2.out h0
          have j2 : (0 : Int) ≤ (k : Int) - 1 := by omega
          have j3 : (k : Int) - 1 < (N : Int) + 1 := by omega
          have j4 : ((k : Int) - 1).toNat = k - 1 := by omega
          clear h0 HP1 HP2
          go_wp2_with fail
          refine wp_region_keep (by kernel_rfl) (by kernel_rfl) ?_
          repeat (first | go_big_quiet_skip | ((first | refine wpKeep_load rfl ?_ | refine wpKeep_other rfl ?_); (first | go_big_quiet_step (fail) | quiet_step (fail)); refine wpQuiet_nil ?_; refine Shut.mk ?_) | (refine wpQuiet_step (fun K hK => ?_); go_simp; first | (refine hK _ ?_; clear hK K) | (apply Exists.intro; refine ⟨fun w9 k9 => ?_, hK _ ?_⟩; (exact (HA.out w9 k9).mono fun e w' h => ⟨h.1, k9.trans h.2⟩); clear hK K)))
          refine wpQuiet_nil ?_
          intro w9 k9
          clear d2 b3 j2 j3 j4
          have KC := hid (KR.out.trans k9)
          have hfewT := HX2.out.few
          have dk := cellIn k9 dk
          clear k9 HA
          go_wp2_with fail
          go_loopw [12, 11] (fun i z wx => ∃ j : Nat, j ≤ m.ts.length ∧ i = .int .i64 j ∧ z = .bool (fndB C r k (m.ts.take j)) ∧ Keeps (fun _ => False) w2 wx) (fun i _ _ => m.ts.length - (intOf i).toNat)
          case atStart => exact ⟨0, Nat.zero_le _, rfl, by rw [fndB_nil], KC.out⟩
          case round =>
            clear KC dk
            obtain ⟨j, hj, rfl, rfl, hK⟩ := hrel
            have KJ := hid hK
            have hln := tlen_any (HX2.out.keeps hK)
            have HL := hid hln
            by_cases hjl : j < m.ts.length
            · have c1 : decide (j < m.ts.length) = true := by simpa using hjl
              have ht := List.getElem?_eq_getElem hjl
              have hft := fndB_take (C := C) (r := r) (k := k) ht
              have hlv := HLV.out _ (List.getElem_mem hjl)
              have hnk : Tm.need m.ts j r = needOf (m.ts[j]).needs r := by unfold Tm.need; rw [if_neg (by omega), Int.toNat_natCast, ht]
              have hget := get_in (HX2.out.keeps hK) ht
              generalize m.ts[j] = t at *
              have HG := hid hget
              have Hft := hid hft
              have Hlv := hid hlv
              have Hnk := hid hnk
              unfold taskV at HG
              clear hK hln hget hft hlv hnk ht
              go_wp2_with fail
              refine HL.out.mono ?_; rintro e w4 ⟨rfl, rfl⟩
              clear HL
              go_wp2_with fail
              refine HG.out.mono ?_; rintro e w5 ⟨gn, rfl, hS⟩
              have hB := Blk.new w5 TTk (taskL' t (.slice (some ⟨gn, 0, none⟩) t.needs.length t.needs.length))
              have hkx := (KJ.out.trans hS.keeps).trans ((Keeps.refl (fun _ => False) w5).alloc (.cells (taskL' t (.slice (some ⟨gn, 0, none⟩) t.needs.length t.needs.length)).toArray TTk))
              have hxl := hB.cell 1
              have dk := cellIn hkx Hdk.out
              simp only [List.getElem?_cons_succ, List.getElem?_cons_zero] at hxl
              have KX := hid hkx
              have HXL := hid hxl
              have DK := hid dk
              clear hS hB hkx hxl HG KJ dk
              go_wp2_with fail
              have dk := DK.out
              have dx := HXL.out
              generalize World.alloc w5 _ = wx at *
              generalize w5.heap.size = xb at *
              have hnd : ∀ w9, Keeps (fun _ => False) wx w9 → Calls Tryz.prog 51 #[.pointer (some ⟨p, 0, none⟩), .int .i64 j, .int .i64 r] w9 fun e w' => e = .returned (.int .i64 (needOf t.needs r)) ∧ Keeps (fun _ => False) w9 w' := fun w9 k9 => by
                have := need_any (HX2.out.keeps (KX.out.trans k9)) j r
                rw [Hnk.out] at this
                exact this
              have HN := hid hnd
              clear hnd Hnk
              generalize needOf t.needs r = NT at *
              generalize hfv : fndB C r k (m.ts.take j) = fv at *
              have Hfv := hid hfv
              clear hfv
              have hlv := Hlv.out
              clear Hlv
              by_cases hN : (k : Int) < NT
              · have n1 : decide ((k : Int) < NT) = true := by simpa using hN
                have n2 : decide (C < t.level) = false := by have := hlv hN; simp; omega
                have HNT := hid hN
                clear hlv hN
                refine wp_region_keep (by kernel_rfl) (by kernel_rfl) ?_
                repeat (first | go_big_quiet_skip | ((first | refine wpKeep_load rfl ?_ | refine wpKeep_other rfl ?_); (first | go_big_quiet_step (fail) | quiet_step (fail)); refine wpQuiet_nil ?_; refine Shut.mk ?_) | (refine wpQuiet_step (fun K hK => ?_); go_simp; first | (refine hK _ ?_; clear hK K) | (apply Exists.intro; refine ⟨fun w9 k9 => ?_, hK _ ?_⟩; (exact (HN.out w9 k9).mono fun e w' h => ⟨h.1, k9.trans h.2⟩); clear hK K)))
                refine wpQuiet_nil ?_
                intro w9 k9
                have KY := hid k9
                have dk := cellIn k9 dk
                have dx := cellIn k9 dx
                clear k9 n2
                go_wp2_with fail
                cases fv with
                | true =>
                  refine wp_region_keep (by kernel_rfl) (by kernel_rfl) ?_
                  repeat (first | go_big_quiet_skip | ((first | refine wpKeep_load rfl ?_ | refine wpKeep_other rfl ?_); (first | go_big_quiet_step (fail) | quiet_step (fail)); refine wpQuiet_nil ?_; refine Shut.mk ?_) | (refine wpQuiet_step (fun K hK => ?_); go_simp; first | (refine hK _ ?_; clear hK K) | (apply Exists.intro; refine ⟨fun w9 k9 => ?_, hK _ ?_⟩; (exact (HN.out w9 (KY.out.trans k9)).mono fun e w' h => ⟨h.1, k9.trans h.2⟩); clear hK K)))
                  refine wpQuiet_nil ?_
                  intro w9 k9
                  have KZ := hid ((KX.out.trans KY.out).trans k9)
                  clear k9
                  go_wp2_with fail
                  go_roundw
                  case rel => exact ⟨j + 1, by omega, by go_num, by rw [Hft.out]; rfl, KZ.out⟩
                  case measure => simp [intOf]; omega
                | false =>
                  refine wp_region_keep (by kernel_rfl) (by kernel_rfl) ?_
                  repeat (first | go_big_quiet_skip | ((first | refine wpKeep_load rfl ?_ | refine wpKeep_other rfl ?_); (first | go_big_quiet_step (fail) | quiet_step (fail)); refine wpQuiet_nil ?_; refine Shut.mk ?_) | (refine wpQuiet_step (fun K hK => ?_); go_simp; first | (refine hK _ ?_; clear hK K) | (apply Exists.intro; refine ⟨fun w9 k9 => ?_, hK _ ?_⟩; (exact (HN.out w9 (KY.out.trans k9)).mono fun e w' h => ⟨h.1, k9.trans h.2⟩); clear hK K)))
                  refine wpQuiet_nil ?_
                  intro w9 k9
                  have KZ := hid ((KX.out.trans KY.out).trans k9)
                  clear k9
                  go_wp2_with fail
                  go_roundw
                  case rel => exact ⟨j + 1, by omega, by go_num, by rw [Hft.out, decide_eq_true (show (k : Int) < NT by have := HNT.out; omega)]; rfl, KZ.out⟩
                  case measure => simp [intOf]; omega
              · have n1 : decide ((k : Int) < NT) = false := by simpa using hN
                have HNT := hid hN
                clear hlv hN
                refine wp_region_keep (by kernel_rfl) (by kernel_rfl) ?_
                repeat (first | go_big_quiet_skip | ((first | refine wpKeep_load rfl ?_ | refine wpKeep_other rfl ?_); (first | go_big_quiet_step (fail) | quiet_step (fail)); refine wpQuiet_nil ?_; refine Shut.mk ?_) | (refine wpQuiet_step (fun K hK => ?_); go_simp; first | (refine hK _ ?_; clear hK K) | (apply Exists.intro; refine ⟨fun w9 k9 => ?_, hK _ ?_⟩; (exact (HN.out w9 k9).mono fun e w' h => ⟨h.1, k9.trans h.2⟩); clear hK K)))
                refine wpQuiet_nil ?_
                intro w9 k9
                have KY := hid k9
                have dk := cellIn k9 dk
                have dx := cellIn k9 dx
                clear k9
                go_wp2_with fail
                cases fv with
                | true =>
                  refine wp_region_keep (by kernel_rfl) (by kernel_rfl) ?_
                  repeat (first | go_big_quiet_skip | ((first | refine wpKeep_load rfl ?_ | refine wpKeep_other rfl ?_); (first | go_big_quiet_step (fail) | quiet_step (fail)); refine wpQuiet_nil ?_; refine Shut.mk ?_) | (refine wpQuiet_step (fun K hK => ?_); go_simp; first | (refine hK _ ?_; clear hK K) | (apply Exists.intro; refine ⟨fun w9 k9 => ?_, hK _ ?_⟩; (exact (HN.out w9 (KY.out.trans k9)).mono fun e w' h => ⟨h.1, k9.trans h.2⟩); clear hK K)))
                  refine wpQuiet_nil ?_
                  intro w9 k9
                  have KZ := hid ((KX.out.trans KY.out).trans k9)
                  clear k9
                  go_wp2_with fail
                  go_roundw
                  case rel => exact ⟨j + 1, by omega, by go_num, by rw [Hft.out]; rfl, KZ.out⟩
                  case measure => simp [intOf]; omega
                | false =>
                  refine wp_region_keep (by kernel_rfl) (by kernel_rfl) ?_
                  repeat (first | go_big_quiet_skip | ((first | refine wpKeep_load rfl ?_ | refine wpKeep_other rfl ?_); (first | go_big_quiet_step (fail) | quiet_step (fail)); refine wpQuiet_nil ?_; refine Shut.mk ?_) | (refine wpQuiet_step (fun K hK => ?_); go_simp; first | (refine hK _ ?_; clear hK K) | (apply Exists.intro; refine ⟨fun w9 k9 => ?_, hK _ ?_⟩; (exact (HN.out w9 (KY.out.trans k9)).mono fun e w' h => ⟨h.1, k9.trans h.2⟩); clear hK K)))
                  refine wpQuiet_nil ?_
                  intro w9 k9
                  have KZ := hid ((KX.out.trans KY.out).trans k9)
                  clear k9
                  go_wp2_with fail
                  go_roundw
                  case rel => exact ⟨j + 1, by omega, by go_num, by rw [Hft.out, decide_eq_false (show ¬ (k : Int) < NT by have := HNT.out; omega)]; rfl, KZ.out⟩
                  case measure => simp [intOf]; omega
            · have c1 : decide (j < m.ts.length) = false := by simpa using hjl
              rw [List.take_of_length_le (by omega), HFA.out]
              clear hK hln
              go_wp2_with fail
              refine HL.out.mono ?_; rintro e w4 ⟨rfl, rfl⟩
              go_wp2_with fail
              go_roundw
              case rel => exact ⟨k + 1, by omega, by go_num, KJ.out⟩
              case measure => simp [intOf]; omega
      · have b1 : decide ((k : Int) < (N : Int) + 1) = false := by simp; omega
        have hcr := ceilruns_any hG (glob_new Hg.out (K2.out.trans hK))
        have hbg := at_any (HX2.out.keeps hK) r 4611686018427387904
        rw [Hbig.out] at hbg
        have HC := hid hcr
        have HB := hid hbg
        have KR := hid hK
        clear hcr hbg hK
        go_wp2_with fail
        refine HB.out.mono ?_; rintro e w3 ⟨rfl, k3⟩
        have HC := hid (ceilruns_any hG (glob_new Hg.out ((K2.out.trans KR.out).trans k3)))
        have K3 := hid ((K2.out.trans KR.out).trans k3)
        clear k3
        go_wp2_with fail
        refine HC.out.mono ?_; rintro e w4 ⟨rfl, k4⟩
        have K4 := hid (K3.out.trans k4)
        clear k4
        go_wp2_with fail
        go_ret
        exact ⟨rfl, K4.out⟩
end
end Go.Proofs.YtdjgijndcjbpiaaGreatDoor
