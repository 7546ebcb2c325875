/-
  keelref3.Parse, walked.
-/
import Derived.Test.YtnkjjhenfhnajaaGreatDoorRp
import Derived.Test.YtnkjjhenfhnajaaGreatDoorRo
import Derived.Test.YtnkjjhenfhnajaaGreatDoorG05
import Derived.Test.YtnkjjhenfhnajaaGreatDoorG08
import Derived.Test.YtnkjjhenfhnajaaGreatDoorRfi
import Derived.Deep.Cut
import Derived.Deep.DeepCutAuto
namespace Go.Proofs.YtnkjjhenfhnajaaGreatDoor
open Go.RowKit Go.Kw Go.Kreg Go.Cm
set_option linter.unusedSimpArgs false
set_option linter.unusedVariables false

def plc (c : UInt8) : Cm.Place := if c = 82 then .r else if c = 78 then .u else if c = 83 then .s else .v
/-- The fields behind a word, letter by letter. -/
def readL (len : Int) : List UInt8 → Cm.Op → List Tok → Res (Cm.Op × List Tok)
  | [], o, ts => .ok (o, ts)
  | _ :: _, _, [] => .err len 31
  | c :: cs, o, (i, w) :: ts => if c = 66 then (if w = [123] then readL len cs o ts else .err i 30) else
    match number w with
    | some n => if okP (plc c) n then readL len cs (put (plc c) o n) ts else .err i 30
    | none => .err i 30
theorem readL_one (len : Int) (K : Nat) (hK : K ≤ 11) (ts : List Tok) : readL len (formS K) ⟨K, 0, 0, 0⟩ ts = one len K ts := by
  obtain rfl | rfl | rfl | rfl | rfl | rfl | rfl | rfl | rfl | rfl | rfl | rfl : K = 0 ∨ K = 1 ∨ K = 2 ∨ K = 3 ∨ K = 4 ∨ K = 5 ∨ K = 6 ∨ K = 7 ∨ K = 8 ∨ K = 9 ∨ K = 10 ∨ K = 11 := by omega
  all_goals
    rcases ts with _ | ⟨⟨i, w⟩, _ | ⟨⟨j, u⟩, ts⟩⟩
    all_goals
      simp [readL, one, readF, formS, places, placesH, rowH, plc, brace]
      try (cases number w with
        | none => simp
        | some n =>
          simp
          try (split <;> simp)
          try (cases number u with
            | none => simp
            | some m => simp; try (split <;> simp))
          try (split <;> simp))
      try (cases number w with
        | none => rfl
        | some n =>
          simp only []
          by_cases h1 : okP .r n = true
          · simp only [h1, if_true]
            cases number u with
            | none => rfl
            | some m =>
              simp only []
              by_cases h2 : okP .u m = true <;> simp [h2]
          · simp [h1])
def contR (len : Int) (f : Nat) (ops : List Cm.Op) (nopn : Int) : Res (Cm.Op × List Tok) → Res (List Cm.Op)
  | .err i e => .err i e
  | .ok (o, ts) => parseT len f ts (ops ++ [o]) nopn
theorem parseT_contR (len : Int) (f i : Nat) (w : List UInt8) (ts : List Tok) (ops : List Cm.Op) (opn : Int) : parseT len (f + 1) ((i, w) :: ts) ops opn =
    if begins (kindOf w) ops.length opn ≠ 0 then .err i (begins (kindOf w) ops.length opn)
    else contR len f ops (nextOpen (kindOf w) opn) (one len (kindOf w) ts) := by
  rw [parseT_cons]
  split
  · rfl
  · unfold contR
    cases one len (kindOf w) ts with
    | err i e => rfl
    | ok r => rfl
theorem words_cell {w : World} {g cap : Nat} {T : List Tok} {k : Nat} {t : Tok} (h : Own w TWd 2 (.slice (some ⟨g, 0, none⟩) T.length cap) T.length (wordsV T)) (hx : T[k]? = some t) :
    w.cell? ⟨g, k * 2, none⟩ = some (.int .i64 t.1) ∧ w.cell? ⟨g, k * 2 + 1, none⟩ = some (.string ⟨t.2.toArray⟩) := by
  obtain ⟨x0, x1⟩ := wordsV_at hx
  exact ⟨h.cells' (g := g) rfl x0, h.cells' (g := g) rfl x1⟩
theorem wordsC_at {k : Nat} (h : k < 12) : wordsC[k]? = some (.string ⟨(rowW k).toArray⟩) := by
  unfold wordsC; rw [List.getElem?_map, List.getElem?_range h]; rfl
theorem str_eq (a b : List UInt8) : ((⟨a.toArray⟩ : ByteArray).toList == (⟨b.toArray⟩ : ByteArray).toList) = decide (a = b) := by
  rw [ByteArray.toList_eq, ByteArray.toList_eq]
  by_cases h : a = b
  · subst h; simp
  · rw [decide_eq_false h]; simpa using h
theorem toks_few (l : List UInt8) : (toksAt l 0).length ≤ l.length + 1 := by
  have key : ∀ (f i : Nat), (toks l f i).length ≤ f := by
    intro f
    induction f with
    | zero => intro i; simp [toks]
    | succ f ih =>
      intro i
      unfold toks
      split
      · simp
      · simp only [List.length_cons]; have := ih (wordAt l i).2.2; omega
  have := key (l.length + 1 - 0) 0
  unfold toksAt
  omega
theorem toks_word (l : List UInt8) : ∀ (f i : Nat), ∀ t ∈ toks l f i, t.2.length ≤ l.length := by
  intro f
  induction f with
  | zero => intro i t ht; simp [toks] at ht
  | succ f ih =>
    intro i t ht
    unfold toks at ht
    split at ht
    · simp at ht
    · rcases List.mem_cons.1 ht with rfl | ht
      · simp only [wordAt, piece, List.length_take, List.length_drop]; omega
      · exact ih _ t ht
section
set_option maxRecDepth 100000 in
set_option maxHeartbeats 16000000 in
theorem parseR_any (w : World) (s : ByteArray) : Calls Tryz.prog 166 #[.string s] w fun e w' =>
    (∃ (at_ e1 : Int), e = .returned (.tuple #[.slice none 0 0, .int .i64 at_, .int .i64 e1]) ∧ Hid (parse s.data.toList = .err at_ e1) ∧ Keeps (fun _ => False) w w') ∨
    (∃ (ops : List Cm.Op) (ov : Value), e = .returned (.tuple #[ov, .int .i64 0, .int .i64 0]) ∧ Hid (parse s.data.toList = .ok ops ∧ ops.length ≤ 256) ∧ St (fun _ => False) w [.row TOp 4 ov ops.length (opsC ops)] w') := by
  have hsl : s.data.toList.length = s.size := Array.length_toList
  by_cases hs : s.size ≤ 4096
  · have b1 : decide ((4096 : Int) < (s.size : Int)) = false := by simp; omega
    have hR : parse s.data.toList = parseT s.size (toksAt s.data.toList 0).length (toksAt s.data.toList 0) [] 0 := by unfold parse; rw [if_neg (by omega), hsl]
    have htf := toks_few s.data.toList
    have hwt := wordsT_any w s hs
    have htw : ∀ t ∈ toksAt s.data.toList 0, t.2.length ≤ s.data.toList.length := toks_word _ _ _
    generalize toksAt s.data.toList 0 = T at *
    generalize hRR : parseT s.size T.length T [] 0 = R at *
    have HRR := hid (show parseT s.size T.length (T.drop 0) [] 0 = R from hRR)
    have HR := hid hR
    have hTl : T.length ≤ 5000 := by omega
    have HW := hid hwt
    have HTw := hid (show ∀ t ∈ T, t.2.length ≤ 4096 from fun t ht => by have := htw t ht; omega)
    clear hR hRR hsl htf hwt htw
    go_enter Tryz.func166, Tryz.ntmps166
    go_wp2_with fail
    refine HW.out.mono ?_; rintro e w1 ⟨lv, rfl, hS⟩
    have hwr := wordsR_any w1
    obtain ⟨la, lc, rfl, -⟩ := (hS.own 0).shape
    have HS := hid hS
    have HW2 := hid hwr
    clear hS hwr HW
    go_wp2_with fail
    refine HW2.out.mono ?_; rintro e w2 ⟨gn, rfl, hS2⟩
    have hS3 := (HS.out.adds hS2).add (Keeps.refl (fun _ => False) _) (G := fun _ => False) (c := .row TOp 4 (.slice none 0 0) 0 (opsC [])) ⟨⟨rfl, .inl ⟨rfl, rfl⟩⟩, fun b => by simp [Value.ownBlock]⟩ (fun b hb => hb.elim)
    simp only [Kw.red] at hS3
    have HS3 := hid hS3
    clear hS2 hS3 HW2 HS
    go_wp2_with fail
    go_loopw [9, 8, 7] (fun x y z wr => ∃ (k : Nat) (ops : List Cm.Op) (opn : Int) (f : Nat), x = .int .i64 k ∧ y = .int .i64 opn ∧ k ≤ T.length ∧ ops.length ≤ 256 ∧ 0 ≤ opn ∧ opn ≤ 4 ∧ Hid (parseT s.size f (T.drop k) ops opn = R ∧ (T.drop k).length ≤ f) ∧ St (fun _ => False) w [.row TWd 2 (.slice la T.length lc) T.length (wordsV T), .pt gn 9 wordsC, .row TOp 4 z ops.length (opsC ops)] wr) (fun x _ _ _ => T.length - (intOf x).toNat)
    case atStart => exact ⟨0, [], 0, T.length, rfl, rfl, Nat.zero_le _, by simp, by omega, by omega, hid ⟨HRR.out, by simp⟩, HS3.out⟩
    case round =>
      clear HS3 HRR
      obtain ⟨k, ops, opn, f, rfl, rfl, hk, hol, hop0, hop4, HQ, hS⟩ := hrel
      obtain ⟨oa, oc, rfl, -⟩ := (hS.own 2).shape
      have HS := hid hS
      clear hS
      by_cases hlt : k < T.length
      · have a1 : decide (k < T.length) = true := by simpa using hlt
        have a2 : decide ((k : Int) < (T.length : Int)) = true := decide_eq_true (by omega)
        have hx := List.getElem?_eq_getElem hlt
        have hdr : T.drop k = T[k] :: T.drop (k + 1) := List.drop_eq_getElem_cons hlt
        generalize T[k] = t at *
        obtain ⟨at_, wd⟩ := t
        have hf := HQ.out.2
        have hdl : (T.drop (k + 1)).length = T.length - (k + 1) := List.length_drop
        rw [hdr] at hf
        simp only [List.length_cons] at hf
        obtain ⟨f', rfl⟩ : ∃ f', f = f' + 1 := ⟨f - 1, by omega⟩
        have hq := HQ.out.1
        rw [hdr, parseT_contR] at hq
        obtain ⟨g, cap, e, _⟩ := (HS.out.own 0).form (by omega)
        cases e
        obtain ⟨d0, d1⟩ := words_cell (HS.out.own 0) hx
        have i0 : (0 : Int) ≤ (k : Int) := by omega
        have i1 : (k : Int) < (T.length : Int) := by omega
        have hf' : T.length - (k + 1) ≤ f' := by omega
        have hkl := kindOf_le wd
        have hkt := kindTo_eq wd
        generalize kindOf wd = K at *
        have Hx := hid hx
        have Hkt := hid hkt
        clear HQ hdr hf hdl hx hkt
        by_cases h256 : ops.length = 256
        · have c1 : ((ops.length : Int) == 256) = true := beq_iff_eq.2 (by omega)
          have hB : begins K ops.length opn = 4 := by unfold begins; rw [if_pos h256]
          rw [hB, if_pos (by decide)] at hq
          have Hp := hid (show parse s.data.toList = .err at_ 4 by rw [HR.out, ← hq])
          clear hq hB h256
          go_wp2_with fail
          go_quiet (fail)
          revert nq; intro n1
          go_wp2_with fail
          go_ret3
          exact .inl ⟨_, _, rfl, Hp, (HS.out.drewN n1).keeps⟩
        · have c1 : ((ops.length : Int) == 256) = false := beq_false_of_ne (by omega)
          have Hq := hid hq
          clear hq
          go_wp2_with fail
          go_loopw [11, 10] (fun x y wr2 => ∃ kk : Nat, x = .int .i64 kk ∧ 1 ≤ kk ∧ kk ≤ 12 ∧ y = .int .i64 (kindTo wd kk) ∧ St (fun _ => False) w [.row TWd 2 (.slice (some ⟨g, 0, none⟩) T.length lc) T.length (wordsV T), .pt gn 9 wordsC, .row TOp 4 (.slice oa ops.length oc) ops.length (opsC ops)] wr2) (fun x _ _ => 12 - (intOf x).toNat)
          case atStart => exact ⟨1, rfl, by omega, by omega, rfl, HS.out⟩
          case round =>
            clear HS d0 d1
            obtain ⟨kk, rfl, hk1, hk12, rfl, hS⟩ := hrel
            have HS := hid hS
            obtain ⟨d0, d1⟩ := words_cell (hS.own 0) Hx.out
            clear hS
            by_cases hkk : kk < 12
            · have a3 : decide ((kk : Int) < 12) = true := decide_eq_true (by omega)
              have n0 := (HS.out.blk 1).at (wordsC_at hkk)
              have j0 : (0 : Int) ≤ (kk : Int) := by omega
              have j1 : (kk : Int) < 12 := by omega
              have heq := str_eq (rowW kk) wd
              rw [show (⟨wd.toArray⟩ : ByteArray).toList = wd by rw [ByteArray.toList_eq]] at heq
              have hst : kindTo wd (kk + 1) = if 1 ≤ kk ∧ rowW kk = wd then kk else kindTo wd kk := rfl
              generalize (⟨(rowW kk).toArray⟩ : ByteArray) = ra at *
              by_cases hw : rowW kk = wd
              · rw [decide_eq_true hw] at heq
                rw [if_pos ⟨hk1, hw⟩] at hst
                have Hst := hid hst
                clear hw hst
                go_wp2_with fail
                go_quiet (fail)
                revert nq; intro n1
                go_wp2_with fail
                go_roundw
                case rel => exact ⟨kk + 1, by go_num, by omega, by omega, by rw [Hst.out], HS.out.drewN n1⟩
                case measure => simp [intOf]; omega
              · rw [decide_eq_false hw] at heq
                rw [if_neg (fun e => hw e.2)] at hst
                have Hst := hid hst
                clear hw hst
                go_wp2_with fail
                go_quiet (fail)
                revert nq; intro n1
                go_wp2_with fail
                go_roundw
                case rel => exact ⟨kk + 1, by go_num, by omega, by omega, by rw [Hst.out], HS.out.drewN n1⟩
                case measure => simp [intOf]; omega
            · have a3 : decide ((kk : Int) < 12) = false := decide_eq_false (by omega)
              obtain rfl : kk = 12 := by omega
              rw [Hkt.out]
              have hq := Hq.out
              clear hk1 hk12 hkk
              have Hq2 := hid hq
              clear hq Hq Hkt
              go_upto_region 17 with fail
              go_cut [61] (fun y wx => y = .bool (decide (K = 0 ∨ K = 11 ∧ opn = 0)) ∧ wx = wr)
              case first =>
                by_cases hK0 : K = 0
                · have e1 : ((K : Int) == 0) = true := beq_iff_eq.2 (by omega)
                  have e9 : decide (K = 0 ∨ K = 11 ∧ opn = 0) = true := decide_eq_true (.inl hK0)
                  clear hK0
                  go_wp2_with fail
                  go_meet
                  case rel => exact ⟨by rw [e9], rfl⟩
                · have e1 : ((K : Int) == 0) = false := beq_false_of_ne (by omega)
                  by_cases hK11 : K = 11
                  · have e2 : ((K : Int) == 11) = true := beq_iff_eq.2 (by omega)
                    by_cases ho0 : opn = 0
                    · have e3 : (opn == 0) = true := by simpa using ho0
                      have e9 : decide (K = 0 ∨ K = 11 ∧ opn = 0) = true := decide_eq_true (.inr ⟨hK11, ho0⟩)
                      clear hK0 hK11 ho0
                      go_wp2_with fail
                      go_meet
                      case rel => exact ⟨by rw [e9], rfl⟩
                    · have e3 : (opn == 0) = false := by simpa using ho0
                      have e9 : decide (K = 0 ∨ K = 11 ∧ opn = 0) = false := decide_eq_false (fun h => h.elim hK0 (fun h => ho0 h.2))
                      clear hK0 hK11 ho0
                      go_wp2_with fail
                      go_meet
                      case rel => exact ⟨by rw [e9], rfl⟩
                  · have e2 : ((K : Int) == 11) = false := beq_false_of_ne (by omega)
                    have e9 : decide (K = 0 ∨ K = 11 ∧ opn = 0) = false := decide_eq_false (fun h => h.elim hK0 (fun h => hK11 h.1))
                    clear hK0 hK11
                    go_wp2_with fail
                    go_meet
                    case rel => exact ⟨by rw [e9], rfl⟩
              case rest =>
                obtain ⟨rfl, rfl⟩ := hcut
                by_cases hbad : K = 0 ∨ K = 11 ∧ opn = 0
                · have hB : begins K ops.length opn = 30 := by unfold begins; rw [if_neg h256, if_pos hbad]
                  have hq := Hq2.out
                  rw [hB, if_pos (by decide)] at hq
                  have Hp := hid (show parse s.data.toList = .err at_ 30 by rw [HR.out, ← hq])
                  rw [decide_eq_true hbad]
                  clear hq hB hbad Hq2
                  go_wp2_with fail
                  go_quiet (fail)
                  revert nq; intro n1
                  go_wp2_with fail
                  go_ret3
                  exact .inl ⟨_, _, rfl, Hp, (HS.out.drewN n1).keeps⟩
                · rw [decide_eq_false hbad]
                  have Hbad := hid hbad
                  clear hbad
                  go_upto_if 68 with fail
                  go_cut [8] (fun y wx => y = .int .i64 (if K = 10 then opn + 1 else opn) ∧ wx = wc ∧ ¬ (K = 10 ∧ opn = 4))
                  case first =>
                    by_cases hK10 : K = 10
                    · have e4 : ((K : Int) == 10) = true := beq_iff_eq.2 (by omega)
                      by_cases ho4 : opn = 4
                      · have e3 : (opn == 4) = true := by simpa using ho4
                        have hB : begins K ops.length opn = 32 := by unfold begins; rw [if_neg h256, if_neg Hbad.out, if_pos ⟨hK10, ho4⟩]
                        have hq := Hq2.out
                        rw [hB, if_pos (by decide)] at hq
                        have Hp := hid (show parse s.data.toList = .err at_ 32 by rw [HR.out, ← hq])
                        clear hq hB hK10 ho4 Hq2
                        go_wp2_with fail
                        go_quiet (fail)
                        revert nq; intro n1
                        go_wp2_with fail
                        go_ret3
                        exact .inl ⟨_, _, rfl, Hp, (HS.out.drewN n1).keeps⟩
                      · have e3 : (opn == 4) = false := by simpa using ho4
                        have e9 : (if K = 10 then opn + 1 else opn) = opn + 1 := if_pos hK10
                        have Ho4 := hid ho4
                        clear hK10 ho4
                        go_wp2_with fail
                        go_meet
                        case rel => exact ⟨by rw [e9], rfl, fun h => Ho4.out h.2⟩
                    · have e4 : ((K : Int) == 10) = false := beq_false_of_ne (by omega)
                      have e9 : (if K = 10 then opn + 1 else opn) = opn := if_neg hK10
                      have HK10 := hid hK10
                      clear hK10
                      go_wp2_with fail
                      go_meet
                      case rel => exact ⟨by rw [e9], rfl, fun h => HK10.out h.1⟩
                  case rest =>
                    obtain ⟨rfl, rfl, h104⟩ := hcut
                    have hK0 : K ≠ 0 := fun h => Hbad.out (.inl h)
                    have hB : begins K ops.length opn = 0 := by unfold begins; rw [if_neg h256, if_neg Hbad.out, if_neg h104]
                    have hq := Hq2.out
                    rw [hB, if_neg (by decide), ← readL_one _ _ hkl] at hq
                    have hno : 0 ≤ nextOpen K opn ∧ nextOpen K opn ≤ 4 := by
                      unfold nextOpen
                      split
                      · rename_i h; have : opn ≠ 4 := fun e => h104 ⟨h, e⟩; omega
                      · split
                        · rename_i h; have : opn ≠ 0 := fun e => Hbad.out (.inr ⟨h, e⟩); omega
                        · omega
                    have hNx : (if K = 11 then (if K = 10 then opn + 1 else opn) - 1 else (if K = 10 then opn + 1 else opn)) = nextOpen K opn := by unfold nextOpen; split <;> split <;> omega
                    have hb2 : 0 ≤ (if K = 10 then opn + 1 else opn) ∧ (if K = 10 then opn + 1 else opn) ≤ 5 := by split <;> omega
                    generalize nextOpen K opn = nopn at *
                    generalize (if K = 10 then opn + 1 else opn) = opn1 at *
                    have HNx := hid hNx
                    have Hq3 := hid hq
                    clear hq hB h104 hNx Hq2 Hbad
                    go_upto_if 79 with fail
                    go_cut [8] (fun y wx => y = .int .i64 nopn ∧ wx = wc)
                    case first =>
                      by_cases hK11 : K = 11
                      · have e2 : ((K : Int) == 11) = true := beq_iff_eq.2 (by omega)
                        have e9 := HNx.out
                        rw [if_pos hK11] at e9
                        have e8 := hid e9
                        clear hK11 e9
                        go_wp2_with fail
                        go_meet
                        case rel => exact ⟨by rw [e8.out], rfl⟩
                      · have e2 : ((K : Int) == 11) = false := beq_false_of_ne (by omega)
                        have e9 := HNx.out
                        rw [if_neg hK11] at e9
                        have e8 := hid e9
                        clear hK11 e9
                        go_wp2_with fail
                        go_meet
                        case rel => exact ⟨by rw [e8.out], rfl⟩
                    case rest =>
                      obtain ⟨rfl, rfl⟩ := hcut
                      have Hq2 := Hq3
                      clear Hq3 HNx hb2
                      have hform := fun w => formR_any w K (by omega)
                      have hfin := formS_in K
                      have hfl := formS_len K
                      have hq := Hq2.out
                      obtain ⟨P, hP⟩ : ∃ P, formS K = P := ⟨_, rfl⟩
                      rw [hP] at hform hfin hfl hq
                      obtain ⟨sf, hs'⟩ : ∃ sf : ByteArray, sf = ⟨P.toArray⟩ := ⟨_, rfl⟩
                      rw [← hs'] at hform
                      have hsz : sf.size = P.length := by rw [hs']; simp [ByteArray.size]
                      have hsg : ∀ (k : Nat) (h : k < sf.size) (h' : k < P.length), sf[k] = P[k] := by subst hs'; intro k h h'; rfl
                      have HQ := hid hq
                      have Hsz := hid hsz
                      have Hsg := hid hsg
                      have Hin := hid hfin
                      have hs2 : sf.size ≤ 2 := by omega
                      have Hf' := hid hf'
                      clear hq hsz hsg hfin hfl hP hs' Hq2
                      go_wp2_with fail
                      refine (hform _).mono ?_; rintro e w3 ⟨rfl, k3⟩
                      have hS4 := (HS.out.new TOp (opC ⟨K, 0, 0, 0⟩)).step k3
                      simp only [Kw.red] at hS4
                      have HS4 := hid hS4
                      clear hS4 k3 HS hform
                      generalize wc.heap.size = ob at *
                      go_wp2_with fail
                      go_loopw [14, 9] (fun x y wr3 => ∃ (j i2 : Nat) (o2 : Cm.Op), x = .int .i64 j ∧ y = .int .i64 i2 ∧ j ≤ sf.size ∧ k + 1 ≤ i2 ∧ i2 ≤ T.length ∧ Hid (contR s.size f' ops (nopn) (readL s.size (P.drop j) o2 (T.drop i2)) = R) ∧ St (fun _ => False) w [.row TWd 2 (.slice (some ⟨g, 0, none⟩) T.length lc) T.length (wordsV T), .pt gn 9 wordsC, .row TOp 4 (.slice oa ops.length oc) ops.length (opsC ops), .pt ob TOp (opC o2)] wr3) (fun x _ _ => sf.size - (intOf x).toNat)
                      case atStart => exact ⟨0, k + 1, ⟨K, 0, 0, 0⟩, rfl, by go_num, by omega, by omega, by omega, HQ, HS4.out⟩
                      case round =>
                        clear HS4 HQ d0 d1
                        obtain ⟨j, i2, o2, rfl, rfl, hj, hi1, hi2, HQ, hS⟩ := hrel
                        obtain ⟨c0, c1, c2, c3, cz⟩ := cells4 (hS.blk 3)
                        have HS := hid hS
                        clear hS
                        by_cases hlt2 : j < sf.size
                        · have a3 : decide (j < sf.size) = true := by simpa using hlt2
                          have a4 : decide ((j : Int) < (sf.size : Int)) = true := decide_eq_true (by omega)
                          have j0 : (0 : Int) ≤ (j : Int) := by omega
                          have j1 : (j : Int) < (sf.size : Int) := by omega
                          have hlp : j < P.length := by have := Hsz.out; omega
                          have hq := HQ.out
                          rw [List.drop_eq_getElem_cons hlp] at hq
                          have hcs := Hin.out _ (List.getElem_mem hlp)
                          rw [← Hsg.out j hlt2 hlp] at hcs hq
                          by_cases hiT : i2 = T.length
                          · have a5 : ((i2 : Int) == (T.length : Int)) = true := beq_iff_eq.2 (by omega)
                            rw [List.drop_eq_nil_of_le (show T.length ≤ i2 by omega)] at hq
                            have Hp := hid (show parse s.data.toList = .err s.size 31 by rw [HR.out, ← hq]; rfl)
                            clear hq HQ hcs hiT
                            go_wp2_with fail
                            go_ret3
                            exact .inl ⟨_, _, rfl, Hp, HS.out.keeps⟩
                          · have a5 : ((i2 : Int) == (T.length : Int)) = false := beq_false_of_ne (by omega)
                            have hi3 : i2 < T.length := by omega
                            have hx2 := List.getElem?_eq_getElem hi3
                            rw [List.drop_eq_getElem_cons hi3] at hq
                            have hwl := HTw.out _ (List.getElem_mem hi3)
                            generalize T[i2] = t2 at *
                            obtain ⟨at2, wd2⟩ := t2
                            obtain ⟨d0, d1⟩ := words_cell (HS.out.own 0) hx2
                            have j2 : (0 : Int) ≤ (i2 : Int) := by omega
                            have j3 : (i2 : Int) < (T.length : Int) := by omega
                            clear hx2
                            unfold readL at hq
                            simp only [] at hwl
                            rcases hcs with hc | hc | hc | hc | hc
                            · have e9 : (sf[j].toNat : Int) = 82 := by rw [hc]; rfl
                              have e1 : ((sf[j].toNat : Int) == 66) = false := by rw [hc]; rfl
                              have e2 : ((sf[j].toNat : Int) == 82) = true := by rw [hc]; rfl
                              rw [hc] at hq
                              clear hc
                              rw [if_neg (by decide)] at hq
                              have hnr := numberR_any wr ⟨wd2.toArray⟩ (by show (wd2.toArray).size ≤ _; simp; omega)
                              rw [show (⟨wd2.toArray⟩ : ByteArray).data.toList = wd2 by simp, ← number_numR] at hnr
                              have hbd := fun w n => boundR_any w (plc 82) n
                              rw [show placeB (plc 82) = (82 : Int) from rfl, ← e9] at hbd
                              cases hnm : number wd2 with
                              | none =>
                                rw [hnm] at hnr hq
                                have Hn := hid hnr
                                simp only [] at hq
                                have Hp := hid (show parse s.data.toList = .err at2 30 by rw [HR.out, ← hq]; rfl)
                                clear hq HQ hnr hnm hbd e9
                                go_wp2_with fail
                                refine Hn.out.mono ?_; rintro e w4 ⟨rfl, rfl⟩
                                clear Hn
                                simp only [Option.getD_none, Option.isSome_none]
                                go_wp2_with fail
                                go_quiet (fail)
                                revert nq; intro n1
                                go_wp2_with fail
                                go_ret3
                                exact .inl ⟨_, _, rfl, Hp, (HS.out.drewN n1).keeps⟩
                              | some n =>
                                rw [hnm] at hnr hq
                                simp only [] at hq
                                have Hn := hid hnr
                                by_cases hok : okP (plc 82) n = true
                                · have hbd := fun w => hbd w n
                                  rw [hok] at hbd
                                  rw [if_pos hok] at hq
                                  have Hq3 := hid (show contR s.size f' ops _ (readL s.size (P.drop (j + 1)) { o2 with res := n } (T.drop (i2 + 1))) = R from hq)
                                  clear hq HQ hnr hnm hok e9
                                  go_wp2_with fail
                                  refine Hn.out.mono ?_; rintro e w4 ⟨rfl, rfl⟩
                                  clear Hn
                                  simp only [Option.getD_some, Option.isSome_some]
                                  go_wp2_with fail
                                  refine (hbd _).mono ?_; rintro e w4 ⟨rfl, rfl⟩
                                  go_wp2_with fail
                                  go_roundw
                                  case rel => exact ⟨j + 1, i2 + 1, { o2 with res := n }, by go_num, by go_num, by omega, by omega, by omega, Hq3, by have := HS.out.set 3 1 (.int .i64 n); simp only [Kw.red] at this; exact this⟩
                                  case measure => simp [intOf]; omega
                                · have hok : okP (plc 82) n = false := by simpa using hok
                                  have hbd := fun w => hbd w n
                                  rw [hok] at hbd
                                  rw [if_neg (by rw [hok]; decide)] at hq
                                  have Hp := hid (show parse s.data.toList = .err at2 30 by rw [HR.out, ← hq]; rfl)
                                  clear hq HQ hnr hnm hok e9
                                  go_wp2_with fail
                                  refine Hn.out.mono ?_; rintro e w4 ⟨rfl, rfl⟩
                                  clear Hn
                                  simp only [Option.getD_some, Option.isSome_some]
                                  go_wp2_with fail
                                  refine (hbd _).mono ?_; rintro e w4 ⟨rfl, rfl⟩
                                  go_wp2_with fail
                                  go_quiet (fail)
                                  revert nq; intro n1
                                  go_wp2_with fail
                                  go_ret3
                                  exact .inl ⟨_, _, rfl, Hp, (HS.out.drewN n1).keeps⟩
                            · have e9 : (sf[j].toNat : Int) = 78 := by rw [hc]; rfl
                              have e1 : ((sf[j].toNat : Int) == 66) = false := by rw [hc]; rfl
                              have e2 : ((sf[j].toNat : Int) == 82) = false := by rw [hc]; rfl
                              have e3 : ((sf[j].toNat : Int) == 86) = false := by rw [hc]; rfl
                              rw [hc] at hq
                              clear hc
                              rw [if_neg (by decide)] at hq
                              have hnr := numberR_any wr ⟨wd2.toArray⟩ (by show (wd2.toArray).size ≤ _; simp; omega)
                              rw [show (⟨wd2.toArray⟩ : ByteArray).data.toList = wd2 by simp, ← number_numR] at hnr
                              have hbd := fun w n => boundR_any w (plc 78) n
                              rw [show placeB (plc 78) = (78 : Int) from rfl, ← e9] at hbd
                              cases hnm : number wd2 with
                              | none =>
                                rw [hnm] at hnr hq
                                have Hn := hid hnr
                                simp only [] at hq
                                have Hp := hid (show parse s.data.toList = .err at2 30 by rw [HR.out, ← hq]; rfl)
                                clear hq HQ hnr hnm hbd e9
                                go_wp2_with fail
                                refine Hn.out.mono ?_; rintro e w4 ⟨rfl, rfl⟩
                                clear Hn
                                simp only [Option.getD_none, Option.isSome_none]
                                go_wp2_with fail
                                go_quiet (fail)
                                revert nq; intro n1
                                go_wp2_with fail
                                go_ret3
                                exact .inl ⟨_, _, rfl, Hp, (HS.out.drewN n1).keeps⟩
                              | some n =>
                                rw [hnm] at hnr hq
                                simp only [] at hq
                                have Hn := hid hnr
                                by_cases hok : okP (plc 78) n = true
                                · have hbd := fun w => hbd w n
                                  rw [hok] at hbd
                                  rw [if_pos hok] at hq
                                  have Hq3 := hid (show contR s.size f' ops _ (readL s.size (P.drop (j + 1)) { o2 with n := n } (T.drop (i2 + 1))) = R from hq)
                                  clear hq HQ hnr hnm hok e9
                                  go_wp2_with fail
                                  refine Hn.out.mono ?_; rintro e w4 ⟨rfl, rfl⟩
                                  clear Hn
                                  simp only [Option.getD_some, Option.isSome_some]
                                  go_wp2_with fail
                                  refine (hbd _).mono ?_; rintro e w4 ⟨rfl, rfl⟩
                                  go_wp2_with fail
                                  go_roundw
                                  case rel => exact ⟨j + 1, i2 + 1, { o2 with n := n }, by go_num, by go_num, by omega, by omega, by omega, Hq3, by have := HS.out.set 3 2 (.int .i64 n); simp only [Kw.red] at this; exact this⟩
                                  case measure => simp [intOf]; omega
                                · have hok : okP (plc 78) n = false := by simpa using hok
                                  have hbd := fun w => hbd w n
                                  rw [hok] at hbd
                                  rw [if_neg (by rw [hok]; decide)] at hq
                                  have Hp := hid (show parse s.data.toList = .err at2 30 by rw [HR.out, ← hq]; rfl)
                                  clear hq HQ hnr hnm hok e9
                                  go_wp2_with fail
                                  refine Hn.out.mono ?_; rintro e w4 ⟨rfl, rfl⟩
                                  clear Hn
                                  simp only [Option.getD_some, Option.isSome_some]
                                  go_wp2_with fail
                                  refine (hbd _).mono ?_; rintro e w4 ⟨rfl, rfl⟩
                                  go_wp2_with fail
                                  go_quiet (fail)
                                  revert nq; intro n1
                                  go_wp2_with fail
                                  go_ret3
                                  exact .inl ⟨_, _, rfl, Hp, (HS.out.drewN n1).keeps⟩
                            · have e9 : (sf[j].toNat : Int) = 83 := by rw [hc]; rfl
                              have e1 : ((sf[j].toNat : Int) == 66) = false := by rw [hc]; rfl
                              have e2 : ((sf[j].toNat : Int) == 82) = false := by rw [hc]; rfl
                              have e3 : ((sf[j].toNat : Int) == 86) = false := by rw [hc]; rfl
                              rw [hc] at hq
                              clear hc
                              rw [if_neg (by decide)] at hq
                              have hnr := numberR_any wr ⟨wd2.toArray⟩ (by show (wd2.toArray).size ≤ _; simp; omega)
                              rw [show (⟨wd2.toArray⟩ : ByteArray).data.toList = wd2 by simp, ← number_numR] at hnr
                              have hbd := fun w n => boundR_any w (plc 83) n
                              rw [show placeB (plc 83) = (83 : Int) from rfl, ← e9] at hbd
                              cases hnm : number wd2 with
                              | none =>
                                rw [hnm] at hnr hq
                                have Hn := hid hnr
                                simp only [] at hq
                                have Hp := hid (show parse s.data.toList = .err at2 30 by rw [HR.out, ← hq]; rfl)
                                clear hq HQ hnr hnm hbd e9
                                go_wp2_with fail
                                refine Hn.out.mono ?_; rintro e w4 ⟨rfl, rfl⟩
                                clear Hn
                                simp only [Option.getD_none, Option.isSome_none]
                                go_wp2_with fail
                                go_quiet (fail)
                                revert nq; intro n1
                                go_wp2_with fail
                                go_ret3
                                exact .inl ⟨_, _, rfl, Hp, (HS.out.drewN n1).keeps⟩
                              | some n =>
                                rw [hnm] at hnr hq
                                simp only [] at hq
                                have Hn := hid hnr
                                by_cases hok : okP (plc 83) n = true
                                · have hbd := fun w => hbd w n
                                  rw [hok] at hbd
                                  rw [if_pos hok] at hq
                                  have Hq3 := hid (show contR s.size f' ops _ (readL s.size (P.drop (j + 1)) { o2 with n := n } (T.drop (i2 + 1))) = R from hq)
                                  clear hq HQ hnr hnm hok e9
                                  go_wp2_with fail
                                  refine Hn.out.mono ?_; rintro e w4 ⟨rfl, rfl⟩
                                  clear Hn
                                  simp only [Option.getD_some, Option.isSome_some]
                                  go_wp2_with fail
                                  refine (hbd _).mono ?_; rintro e w4 ⟨rfl, rfl⟩
                                  go_wp2_with fail
                                  go_roundw
                                  case rel => exact ⟨j + 1, i2 + 1, { o2 with n := n }, by go_num, by go_num, by omega, by omega, by omega, Hq3, by have := HS.out.set 3 2 (.int .i64 n); simp only [Kw.red] at this; exact this⟩
                                  case measure => simp [intOf]; omega
                                · have hok : okP (plc 83) n = false := by simpa using hok
                                  have hbd := fun w => hbd w n
                                  rw [hok] at hbd
                                  rw [if_neg (by rw [hok]; decide)] at hq
                                  have Hp := hid (show parse s.data.toList = .err at2 30 by rw [HR.out, ← hq]; rfl)
                                  clear hq HQ hnr hnm hok e9
                                  go_wp2_with fail
                                  refine Hn.out.mono ?_; rintro e w4 ⟨rfl, rfl⟩
                                  clear Hn
                                  simp only [Option.getD_some, Option.isSome_some]
                                  go_wp2_with fail
                                  refine (hbd _).mono ?_; rintro e w4 ⟨rfl, rfl⟩
                                  go_wp2_with fail
                                  go_quiet (fail)
                                  revert nq; intro n1
                                  go_wp2_with fail
                                  go_ret3
                                  exact .inl ⟨_, _, rfl, Hp, (HS.out.drewN n1).keeps⟩
                            · have e9 : (sf[j].toNat : Int) = 86 := by rw [hc]; rfl
                              have e1 : ((sf[j].toNat : Int) == 66) = false := by rw [hc]; rfl
                              have e2 : ((sf[j].toNat : Int) == 82) = false := by rw [hc]; rfl
                              have e3 : ((sf[j].toNat : Int) == 86) = true := by rw [hc]; rfl
                              rw [hc] at hq
                              clear hc
                              rw [if_neg (by decide)] at hq
                              have hnr := numberR_any wr ⟨wd2.toArray⟩ (by show (wd2.toArray).size ≤ _; simp; omega)
                              rw [show (⟨wd2.toArray⟩ : ByteArray).data.toList = wd2 by simp, ← number_numR] at hnr
                              have hbd := fun w n => boundR_any w (plc 86) n
                              rw [show placeB (plc 86) = (86 : Int) from rfl, ← e9] at hbd
                              cases hnm : number wd2 with
                              | none =>
                                rw [hnm] at hnr hq
                                have Hn := hid hnr
                                simp only [] at hq
                                have Hp := hid (show parse s.data.toList = .err at2 30 by rw [HR.out, ← hq]; rfl)
                                clear hq HQ hnr hnm hbd e9
                                go_wp2_with fail
                                refine Hn.out.mono ?_; rintro e w4 ⟨rfl, rfl⟩
                                clear Hn
                                simp only [Option.getD_none, Option.isSome_none]
                                go_wp2_with fail
                                go_quiet (fail)
                                revert nq; intro n1
                                go_wp2_with fail
                                go_ret3
                                exact .inl ⟨_, _, rfl, Hp, (HS.out.drewN n1).keeps⟩
                              | some n =>
                                rw [hnm] at hnr hq
                                simp only [] at hq
                                have Hn := hid hnr
                                by_cases hok : okP (plc 86) n = true
                                · have hbd := fun w => hbd w n
                                  rw [hok] at hbd
                                  rw [if_pos hok] at hq
                                  have Hq3 := hid (show contR s.size f' ops _ (readL s.size (P.drop (j + 1)) { o2 with v := n } (T.drop (i2 + 1))) = R from hq)
                                  clear hq HQ hnr hnm hok e9
                                  go_wp2_with fail
                                  refine Hn.out.mono ?_; rintro e w4 ⟨rfl, rfl⟩
                                  clear Hn
                                  simp only [Option.getD_some, Option.isSome_some]
                                  go_wp2_with fail
                                  refine (hbd _).mono ?_; rintro e w4 ⟨rfl, rfl⟩
                                  go_wp2_with fail
                                  go_roundw
                                  case rel => exact ⟨j + 1, i2 + 1, { o2 with v := n }, by go_num, by go_num, by omega, by omega, by omega, Hq3, by have := HS.out.set 3 3 (.int .i64 n); simp only [Kw.red] at this; exact this⟩
                                  case measure => simp [intOf]; omega
                                · have hok : okP (plc 86) n = false := by simpa using hok
                                  have hbd := fun w => hbd w n
                                  rw [hok] at hbd
                                  rw [if_neg (by rw [hok]; decide)] at hq
                                  have Hp := hid (show parse s.data.toList = .err at2 30 by rw [HR.out, ← hq]; rfl)
                                  clear hq HQ hnr hnm hok e9
                                  go_wp2_with fail
                                  refine Hn.out.mono ?_; rintro e w4 ⟨rfl, rfl⟩
                                  clear Hn
                                  simp only [Option.getD_some, Option.isSome_some]
                                  go_wp2_with fail
                                  refine (hbd _).mono ?_; rintro e w4 ⟨rfl, rfl⟩
                                  go_wp2_with fail
                                  go_quiet (fail)
                                  revert nq; intro n1
                                  go_wp2_with fail
                                  go_ret3
                                  exact .inl ⟨_, _, rfl, Hp, (HS.out.drewN n1).keeps⟩
                            · have e1 : ((sf[j].toNat : Int) == 66) = true := by rw [hc]; rfl
                              rw [hc, if_pos rfl] at hq
                              clear hc
                              have hse : ((⟨wd2.toArray⟩ : ByteArray).toList == [123]) = decide (wd2 = [123]) := by
                                rw [ByteArray.toList_eq]
                                by_cases h : wd2 = [123]
                                · subst h; simp
                                · rw [decide_eq_false h]; simpa using h
                              by_cases hw : wd2 = [123]
                              · rw [decide_eq_true hw] at hse
                                rw [if_pos hw] at hq
                                have Hq3 := hid hq
                                generalize (⟨wd2.toArray⟩ : ByteArray) = sw at *
                                clear hq HQ hw
                                go_wp2_with fail
                                go_roundw
                                case rel => exact ⟨j + 1, i2 + 1, o2, by go_num, by go_num, by omega, by omega, by omega, Hq3, HS.out⟩
                                case measure => simp [intOf]; omega
                              · rw [decide_eq_false hw] at hse
                                rw [if_neg hw] at hq
                                generalize (⟨wd2.toArray⟩ : ByteArray) = sw at *
                                clear hw
                                have Hp := hid (show parse s.data.toList = .err at2 30 by rw [HR.out, ← hq]; rfl)
                                clear hq HQ
                                go_wp2_with fail
                                go_quiet (fail)
                                revert nq; intro n1
                                go_wp2_with fail
                                go_ret3
                                exact .inl ⟨_, _, rfl, Hp, (HS.out.drewN n1).keeps⟩
                        · have a3 : decide (j < sf.size) = false := by simpa using hlt2
                          have a4 : decide ((j : Int) < (sf.size : Int)) = false := decide_eq_false (by omega)
                          have hq := HQ.out
                          rw [List.drop_eq_nil_of_le (by have := Hsz.out; omega)] at hq
                          have Hq3 := hid (show parseT s.size f' (T.drop i2) (ops ++ [o2]) (nopn) = R from hq)
                          have hS5 := HS.out.new TOp (opC o2)
                          simp only [Kw.red] at hS5
                          have HS5 := hid hS5
                          have hl1 : ops.length + 1 ≤ 256 := by omega
                          clear hq HQ hS5 HS
                          go_wp2_with (at_builtin; refine wpList_appS 2 4 _ _ TOps TOp (.agg #[.int .i64 0, .int .i64 0, .int .i64 0, .int .i64 0]) 4 32 infoOp Tryz.underlying133 rfl (by decide) rfl rfl HS5.out rfl rfl rfl rfl rfl (opC_one o2) (by omega) (by unfold maxLen; omega) (by omega) ?_; intro gb gc w7 hSc hat)
                          go_roundw
                          case rel =>
                            refine ⟨i2, ops ++ [o2], nopn, f', rfl, rfl, hi2, by simp; omega, hno.1, hno.2, hid ⟨Hq3.out, by rw [List.length_drop]; have := Hf'.out; omega⟩, ?_⟩
                            have h := hSc.sub [0, 1, 2]
                            simp only [Kw.red] at h
                            rw [show opsC (ops ++ [o2]) = opsC ops ++ opC o2 by simp [opsC], List.length_append, List.length_singleton]
                            exact h
                          case measure => simp [intOf]; omega
      · have a1 : decide (k < T.length) = false := by simpa using hlt
        have a2 : decide ((k : Int) < (T.length : Int)) = false := decide_eq_false (by omega)
        have hq := HQ.out.1
        rw [List.drop_eq_nil_of_le (by omega)] at hq
        by_cases hpos : 0 < opn
        · have b6 : decide (0 < opn) = true := by simpa using hpos
          have Hp := hid (show parse s.data.toList = .err s.size 31 by rw [HR.out, ← hq]; unfold parseT; cases f <;> simp [hpos])
          clear hq HQ
          go_wp2_with fail
          go_ret3
          exact .inl ⟨_, _, rfl, Hp, HS.out.keeps⟩
        · have b6 : decide (0 < opn) = false := by simpa using hpos
          have hp : parse s.data.toList = .ok ops := by rw [HR.out, ← hq]; unfold parseT; cases f <;> simp [hpos]
          have Hp := hid (And.intro hp hol)
          clear hq HQ hp
          go_wp2_with fail
          go_ret3
          exact .inr ⟨ops, _, rfl, Hp, HS.out.sub [2]⟩
  · have b1 : decide ((4096 : Int) < (s.size : Int)) = true := by simp; omega
    have hp : parse s.data.toList = .err 0 5 := by unfold parse; rw [if_pos (by omega)]
    have Hp := hid hp
    clear hp
    go_enter Tryz.func166, Tryz.ntmps166
    go_wp2_with fail
    go_ret3
    exact .inl ⟨_, _, rfl, Hp, Keeps.refl _ _⟩
end
end Go.Proofs.YtnkjjhenfhnajaaGreatDoor
