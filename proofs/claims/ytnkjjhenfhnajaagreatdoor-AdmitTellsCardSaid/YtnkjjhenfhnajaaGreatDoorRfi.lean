/-
  keelref3.fits and Check, walked.
-/
import Derived.Test.YtnkjjhenfhnajaaGreatDoorG17
import Derived.Test.YtnkjjhenfhnajaaGreatDoorG17
import Derived.Test.YtnkjjhenfhnajaaGreatDoorG19
import Derived.Test.YtnkjjhenfhnajaaGreatDoorG20
namespace Go.Proofs.YtnkjjhenfhnajaaGreatDoor
open Go.RowKit Go.Kw Go.Kreg Go.Cm
set_option linter.unusedSimpArgs false
set_option linter.unusedVariables false

theorem eqOpB (w : World) (x y : Cm.Op) : (binOp .eql TOp (.agg #[.int .i64 x.kind, .int .i64 x.res, .int .i64 x.n, .int .i64 x.v]) (.agg #[.int .i64 y.kind, .int .i64 y.res, .int .i64 y.n, .int .i64 y.v])).run Tryz.prog w = .ok (.bool (decide (x = y))) w := by
  have h := eqOp w x y
  simp only [binOp]
  simp [Op.equal, Op.maxDepth, h]
def okB (c : UInt8) (o : Cm.Op) : Bool := if c = 82 then okP .r o.res else if c = 78 then okP .u o.n else if c = 83 then okP .s o.n else true
def stepW (c : UInt8) (o want : Cm.Op) : Cm.Op := if c = 82 then { want with res := o.res } else if c = 78 ∨ c = 83 then { want with n := o.n } else if c = 86 then { want with v := o.v } else want
def fitsFrom (o : Cm.Op) : List UInt8 → Cm.Op → Bool
  | [], want => decide (o = want)
  | c :: l, want => if okB c o then fitsFrom o l (stepW c o want) else false
theorem fitsFrom_eq (o : Cm.Op) (K : Nat) (h1 : 1 ≤ K) (h2 : K ≤ 11) (hK : o.kind = K) : fitsFrom o (formS K) ⟨K, 0, 0, 0⟩ = fieldsOk o := by
  have hfk : fieldsOk o = fieldsH (rowH K) o := by unfold fieldsOk; rw [if_neg (by omega), hK]; rfl
  rw [hfk]
  obtain ⟨a, b, c, d⟩ := o
  obtain rfl : a = K := hK
  obtain rfl | rfl | rfl | rfl | rfl | rfl | rfl | rfl | rfl | rfl | rfl : K = 1 ∨ K = 2 ∨ K = 3 ∨ K = 4 ∨ K = 5 ∨ K = 6 ∨ K = 7 ∨ K = 8 ∨ K = 9 ∨ K = 10 ∨ K = 11 := by omega
  all_goals
    simp only [formS, fitsFrom, okB, stepW, rowH, fieldsH, okP]
    rw [Bool.eq_iff_iff]
    simp
    try omega
theorem formS_in (K : Nat) : ∀ c ∈ formS K, c = 82 ∨ c = 78 ∨ c = 83 ∨ c = 86 ∨ c = 66 := by
  intro c hc
  unfold formS at hc
  split at hc <;> simp at hc <;> first | (rcases hc with rfl | rfl <;> simp) | (subst hc; simp)
theorem formS_len (K : Nat) : (formS K).length ≤ 2 := by
  unfold formS
  split <;> simp
section
variable {w : World}
set_option maxRecDepth 100000 in
set_option maxHeartbeats 8000000 in
theorem fits_any (o : Cm.Op) : Calls Tryz.prog 198 #[opV o] w fun e w' => e = .returned (.bool (fieldsOk o)) ∧ Keeps (fun _ => False) w w' := by
  generalize hR : fieldsOk o = R
  have HR := hid hR.symm
  have HS := hid ((St.start w).new TOp (opC o))
  obtain ⟨c0, c1, c2, c3, cz⟩ := cells4 (HS.out.blk 0)
  unfold opV
  clear hR
  by_cases h1 : o.kind < 1
  · have b1 : decide (o.kind < 1) = true := by simpa using h1
    have hR : R = false := by rw [HR.out]; unfold fieldsOk; rw [if_pos (.inl h1)]
    subst hR
    clear h1
    go_enter Tryz.func198, Tryz.ntmps198
    go_wp2_with fail
    go_ret
    exact ⟨rfl, HS.out.keeps⟩
  · have b1 : decide (o.kind < 1) = false := by simpa using h1
    by_cases h2 : 11 < o.kind
    · have b2 : decide (11 < o.kind) = true := by simpa using h2
      have hR : R = false := by rw [HR.out]; unfold fieldsOk; rw [if_pos (.inr h2)]
      subst hR
      clear h1 h2
      go_enter Tryz.func198, Tryz.ntmps198
      go_wp2_with fail
      go_ret
      exact ⟨rfl, HS.out.keeps⟩
    · have b2 : decide (11 < o.kind) = false := by simpa using h2
      obtain ⟨K, hK⟩ : ∃ K : Nat, o.kind = K := ⟨o.kind.toNat, by omega⟩
      have hK1 : 1 ≤ K := by omega
      have hK2 : K ≤ 11 := by omega
      have hform := fun w => formR_any w K (by omega)
      rw [hK] at b1 b2 c0
      have hfin := formS_in K
      have hfl := formS_len K
      have hq := (fitsFrom_eq o K hK1 hK2 hK).trans HR.out.symm
      obtain ⟨P, hP⟩ : ∃ P, formS K = P := ⟨_, rfl⟩
      rw [hP] at hform hfin hfl hq
      obtain ⟨s, hs⟩ : ∃ s : ByteArray, s = ⟨P.toArray⟩ := ⟨_, rfl⟩
      rw [← hs] at hform
      have hsz : s.size = P.length := by rw [hs]; simp [ByteArray.size]
      have hsg : ∀ (k : Nat) (h : k < s.size) (h' : k < P.length), s[k] = P[k] := by subst hs; intro k h h'; rfl
      have HQ := hid hq
      have Hsz := hid hsz
      have Hsg := hid hsg
      have Hin := hid hfin
      have hs2 : s.size ≤ 2 := by omega
      have hokind := hid hK
      clear h1 h2 HR hq hsz hsg hfin hfl hP hs
      rw [hK]
      clear hK
      have HS2 := hid (show St (fun _ => False) w [.pt w.heap.size TOp [.int .i64 K, .int .i64 o.res, .int .i64 o.n, .int .i64 o.v], .pt (w.heap.size + 1) TOp [.int .i64 K, .int .i64 0, .int .i64 0, .int .i64 0]] _ from by
        have h := ((St.start w).new TOp [.int .i64 K, .int .i64 o.res, .int .i64 o.n, .int .i64 o.v]).new TOp [.int .i64 K, .int .i64 0, .int .i64 0, .int .i64 0]
        simp only [World.size_alloc] at h
        exact h)
      clear HS
      go_enter Tryz.func198, Tryz.ntmps198
      go_wp2_with fail
      refine (hform _).mono ?_; rintro e w2 ⟨rfl, k2⟩
      have HS3 := hid (HS2.out.step k2)
      obtain ⟨c0, c1, c2, c3, cz⟩ := cells4 (HS3.out.blk 0)
      clear k2 HS2 hform
      generalize w.heap.size = b0 at *
      go_wp2_with fail
      go_loopw [5] (fun x wr => ∃ (k : Nat) (want : Cm.Op), x = .int .i64 k ∧ k ≤ s.size ∧ Hid (fitsFrom o (P.drop k) want = R) ∧ St (fun _ => False) w [.pt b0 TOp [.int .i64 K, .int .i64 o.res, .int .i64 o.n, .int .i64 o.v], .pt (b0 + 1) TOp (opC want)] wr) (fun x _ => s.size - (intOf x).toNat)
      case atStart => exact ⟨0, ⟨K, 0, 0, 0⟩, rfl, Nat.zero_le _, HQ, HS3.out⟩
      case round =>
        clear HS3 HQ c0 c1 c2 c3 cz
        obtain ⟨k, want, rfl, hk, HQ, hS⟩ := hrel
        obtain ⟨c0, c1, c2, c3, cz⟩ := cells4 (hS.blk 0)
        obtain ⟨d0, d1, d2, d3, dz⟩ := cells4 (hS.blk 1)
        have HS := hid hS
        clear hS
        by_cases hlt : k < s.size
        · have a1 : decide (k < s.size) = true := by simpa using hlt
          have a2 : decide ((k : Int) < (s.size : Int)) = true := decide_eq_true (by omega)
          have j0 : (0 : Int) ≤ (k : Int) := by omega
          have j1 : (k : Int) < (s.size : Int) := by omega
          have hlp : k < P.length := by have := Hsz.out; omega
          have hq := HQ.out
          rw [List.drop_eq_getElem_cons hlp] at hq
          have hcs := Hin.out _ (List.getElem_mem hlp)
          rw [← Hsg.out k hlt hlp] at hcs hq
          unfold fitsFrom at hq
          have hbn := fun w n => boundR_any w .u n
          have hbs := fun w n => boundR_any w .s n
          have hbr := fun w n => boundR_any w .r n
          simp only [placeB] at hbn hbs hbr
          rcases hcs with hc | hc | hc | hc | hc
          · have e1 : ((s[k].toNat : Int) == 82) = true := by rw [hc]; rfl
            rw [hc] at hq
            simp only [okB, stepW, if_true] at hq
            by_cases hb : okP .r o.res = true
            · rw [hb] at hq
              rw [if_pos rfl] at hq
              have Hq := hid hq
              have hcall := fun w => hbr w o.res
              rw [hb] at hcall
              clear hq hc HQ hb hbn hbs hbr
              go_wp2_with fail
              refine (hcall _).mono ?_; rintro e w3 ⟨rfl, rfl⟩
              go_wp2_with fail
              go_roundw
              case rel => exact ⟨k + 1, { want with res := o.res }, by go_num, by omega, Hq, by have := HS.out.set 1 1 (.int .i64 o.res); simp only [Kw.red] at this; exact this⟩
              case measure => simp [intOf]; omega
            · have hb : okP .r o.res = false := by simpa using hb
              rw [hb] at hq
              rw [if_neg (by decide)] at hq
              subst hq
              have hcall := fun w => hbr w o.res
              rw [hb] at hcall
              clear hc HQ hb hbn hbs hbr
              go_wp2_with fail
              refine (hcall _).mono ?_; rintro e w3 ⟨rfl, rfl⟩
              go_wp2_with fail
              go_ret
              exact ⟨rfl, HS.out.keeps⟩
          · have e1 : ((s[k].toNat : Int) == 82) = false := by rw [hc]; rfl
            have e2 : ((s[k].toNat : Int) == 78) = true := by rw [hc]; rfl
            have e9 : (s[k].toNat : Int) = 78 := by rw [hc]; rfl
            rw [hc] at hq
            simp (decide := true) only [okB, stepW, if_true, if_false, true_or] at hq
            rw [← e9] at hbn
            clear e9
            by_cases hb : okP .u o.n = true
            · rw [hb] at hq
              rw [if_pos rfl] at hq
              have Hq := hid hq
              have hcall := fun w => hbn w o.n
              rw [hb] at hcall
              clear hq hc HQ hb hbn hbs hbr
              go_wp2_with fail
              go_quiet (exact (hcall _).mono fun e w' h => ⟨h.1, _, h.2.symm⟩)
              revert nq; intro n1
              go_wp2_with fail
              go_roundw
              case rel => exact ⟨k + 1, { want with n := o.n }, by go_num, by omega, Hq, by have := (HS.out.drewN n1).set 1 2 (.int .i64 o.n); simp only [Kw.red] at this; exact this⟩
              case measure => simp [intOf]; omega
            · have hb : okP .u o.n = false := by simpa using hb
              rw [hb] at hq
              rw [if_neg (by decide)] at hq
              subst hq
              have hcall := fun w => hbn w o.n
              rw [hb] at hcall
              clear hc HQ hb hbn hbs hbr
              go_wp2_with fail
              go_quiet (exact (hcall _).mono fun e w' h => ⟨h.1, _, h.2.symm⟩)
              revert nq; intro n1
              go_wp2_with fail
              go_ret
              exact ⟨rfl, (HS.out.drewN n1).keeps⟩
          · have e1 : ((s[k].toNat : Int) == 82) = false := by rw [hc]; rfl
            have e2 : ((s[k].toNat : Int) == 78) = false := by rw [hc]; rfl
            have e3 : ((s[k].toNat : Int) == 83) = true := by rw [hc]; rfl
            have e9 : (s[k].toNat : Int) = 83 := by rw [hc]; rfl
            rw [hc] at hq
            simp (decide := true) only [okB, stepW, if_true, if_false, or_true] at hq
            rw [← e9] at hbs
            clear e9
            by_cases hb : okP .s o.n = true
            · rw [hb] at hq
              rw [if_pos rfl] at hq
              have Hq := hid hq
              have hcall := fun w => hbs w o.n
              rw [hb] at hcall
              clear hq hc HQ hb hbn hbs hbr
              go_wp2_with fail
              go_quiet (exact (hcall _).mono fun e w' h => ⟨h.1, _, h.2.symm⟩)
              revert nq; intro n1
              go_wp2_with fail
              go_roundw
              case rel => exact ⟨k + 1, { want with n := o.n }, by go_num, by omega, Hq, by have := (HS.out.drewN n1).set 1 2 (.int .i64 o.n); simp only [Kw.red] at this; exact this⟩
              case measure => simp [intOf]; omega
            · have hb : okP .s o.n = false := by simpa using hb
              rw [hb] at hq
              rw [if_neg (by decide)] at hq
              subst hq
              have hcall := fun w => hbs w o.n
              rw [hb] at hcall
              clear hc HQ hb hbn hbs hbr
              go_wp2_with fail
              go_quiet (exact (hcall _).mono fun e w' h => ⟨h.1, _, h.2.symm⟩)
              revert nq; intro n1
              go_wp2_with fail
              go_ret
              exact ⟨rfl, (HS.out.drewN n1).keeps⟩
          · have e1 : ((s[k].toNat : Int) == 82) = false := by rw [hc]; rfl
            have e2 : ((s[k].toNat : Int) == 78) = false := by rw [hc]; rfl
            have e3 : ((s[k].toNat : Int) == 83) = false := by rw [hc]; rfl
            have e4 : ((s[k].toNat : Int) == 86) = true := by rw [hc]; rfl
            rw [hc] at hq
            simp (decide := true) only [okB, stepW, if_true, if_false, or_false] at hq
            have Hq := hid hq
            clear hq hc HQ
            go_wp2_with fail
            go_roundw
            case rel => exact ⟨k + 1, { want with v := o.v }, by go_num, by omega, Hq, by have := HS.out.set 1 3 (.int .i64 o.v); simp only [Kw.red] at this; exact this⟩
            case measure => simp [intOf]; omega
          · have e1 : ((s[k].toNat : Int) == 82) = false := by rw [hc]; rfl
            have e2 : ((s[k].toNat : Int) == 78) = false := by rw [hc]; rfl
            have e3 : ((s[k].toNat : Int) == 83) = false := by rw [hc]; rfl
            have e4 : ((s[k].toNat : Int) == 86) = false := by rw [hc]; rfl
            rw [hc] at hq
            simp (decide := true) only [okB, stepW, if_true, if_false, or_false] at hq
            have Hq := hid hq
            clear hq hc HQ
            go_wp2_with fail
            go_roundw
            case rel => exact ⟨k + 1, want, by go_num, by omega, Hq, HS.out⟩
            case measure => simp [intOf]; omega
        · have a1 : decide (k < s.size) = false := by simpa using hlt
          have a2 : decide ((k : Int) < (s.size : Int)) = false := decide_eq_false (by omega)
          have hq := HQ.out
          rw [List.drop_eq_nil_of_le (by have := Hsz.out; omega)] at hq
          unfold fitsFrom at hq
          have heq := fun w => eqOpB w o want
          rw [hokind.out, hq] at heq
          clear hq HQ
          go_wp2_with fail
          go_ret
          exact ⟨rfl, HS.out.keeps⟩
end
end Go.Proofs.YtnkjjhenfhnajaaGreatDoor
