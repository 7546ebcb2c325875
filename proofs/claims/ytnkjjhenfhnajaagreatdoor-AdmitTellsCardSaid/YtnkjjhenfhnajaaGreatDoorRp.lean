/-
  keelref3.Words, walked.
-/
import Derived.Test.YtnkjjhenfhnajaaGreatDoorG05
import Derived.Test.YtnkjjhenfhnajaaGreatDoorG17
namespace Go.Proofs.YtnkjjhenfhnajaaGreatDoor
open Go.RowKit Go.Kw Go.Kreg Go.Cm

abbrev TWd : Nat := 292
abbrev TWds : Nat := 287
theorem infoWd : (Tryz.prog.info? TWd).map (fun i => (i.zero, i.size, i.bytes)) = some (some (.agg #[.int .i64 0, .string ⟨#[]⟩]), 2, 24) := by kernel_rfl
def wordsV (l : List Tok) : List Value := l.flatMap fun t => [.int .i64 t.1, .string ⟨t.2.toArray⟩]
theorem wordsV_len (l : List Tok) : (wordsV l).length = l.length * 2 := by
  induction l with
  | nil => rfl
  | cons n l ih => simp only [wordsV, List.flatMap_cons, List.length_append, List.length_cons, List.length_nil] at *; omega
theorem wordsV_at {l : List Tok} {i : Nat} {n : Tok} (h : l[i]? = some n) : (wordsV l)[i * 2]? = some (.int .i64 n.1) ∧ (wordsV l)[i * 2 + 1]? = some (.string ⟨n.2.toArray⟩) := by
  have hs : l = l.take i ++ (n :: l.drop (i + 1)) := by
    have := (List.getElem?_eq_some_iff.1 h)
    rw [← this.2, List.getElem_cons_drop, List.take_append_drop]
  have hl : (wordsV (l.take i)).length = i * 2 := by
    rw [wordsV_len, List.length_take]; have := (List.getElem?_eq_some_iff.1 h).1; omega
  have e : wordsV l = wordsV (l.take i) ++ ([.int .i64 n.1, .string ⟨n.2.toArray⟩] ++ wordsV (l.drop (i + 1))) := by
    conv => lhs; rw [hs]
    simp [wordsV]
  rw [e]
  constructor
  all_goals
    rw [List.getElem?_append_right (by omega), hl]
    simp
theorem ext_piece (s : ByteArray) (a b : Nat) : s.extract a b = ⟨(piece s.data.toList a b).toArray⟩ := by
  refine ByteArray.ext ?_
  rw [← ba_extract]
def frm : Option Nat → Int
  | none => -1
  | some f => f
theorem blank_is {c : UInt8} (h : blankB c = true) : ((c.toNat : Int) == 9) = true ∨ (((c.toNat : Int) == 9) = false ∧ ((c.toNat : Int) == 10) = true) ∨ (((c.toNat : Int) == 9) = false ∧ ((c.toNat : Int) == 10) = false ∧ ((c.toNat : Int) == 13) = true) ∨
    (((c.toNat : Int) == 9) = false ∧ ((c.toNat : Int) == 10) = false ∧ ((c.toNat : Int) == 13) = false ∧ ((c.toNat : Int) == 32) = true) ∨ (((c.toNat : Int) == 9) = false ∧ ((c.toNat : Int) == 10) = false ∧ ((c.toNat : Int) == 13) = false ∧ ((c.toNat : Int) == 32) = false ∧ ((c.toNat : Int) == 59) = true) := by
  unfold blankB at h
  simp only [Bool.or_eq_true, beq_iff_eq, ← UInt8.toNat_inj] at h
  simp only [beq_iff_eq, beq_eq_false_iff_ne, ne_eq]
  have h9 : (9 : UInt8).toNat = 9 := rfl
  have h10 : (10 : UInt8).toNat = 10 := rfl
  have h13 : (13 : UInt8).toNat = 13 := rfl
  have h32 : (32 : UInt8).toNat = 32 := rfl
  have h59 : (59 : UInt8).toNat = 59 := rfl
  omega
theorem blank_no {c : UInt8} (h : blankB c = false) : ((c.toNat : Int) == 9) = false ∧ ((c.toNat : Int) == 10) = false ∧ ((c.toNat : Int) == 13) = false ∧ ((c.toNat : Int) == 32) = false ∧ ((c.toNat : Int) == 59) = false := by
  unfold blankB at h
  simp only [Bool.or_eq_false_iff, beq_eq_false_iff_ne, ne_eq, ← UInt8.toNat_inj] at h
  simp only [beq_eq_false_iff_ne, ne_eq]
  have h9 : (9 : UInt8).toNat = 9 := rfl
  have h10 : (10 : UInt8).toNat = 10 := rfl
  have h13 : (13 : UInt8).toNat = 13 := rfl
  have h32 : (32 : UInt8).toNat = 32 := rfl
  have h59 : (59 : UInt8).toNat = 59 := rfl
  omega
set_option maxRecDepth 100000 in
set_option maxHeartbeats 8000000 in
theorem wordsT_any (w : World) (s : ByteArray) (hs : s.size ≤ 4096) : Calls Tryz.prog 185 #[.string s] w fun e w' => ∃ lv, e = .returned lv ∧ St (fun _ => False) w [.row TWd 2 lv (toksAt s.data.toList 0).length (wordsV (toksAt s.data.toList 0))] w' := by
  have hll : s.data.toList.length = s.size := Array.length_toList
  obtain ⟨T, hT⟩ : ∃ T, T = toksAt s.data.toList 0 := ⟨_, rfl⟩
  rw [← hT]
  have HT := hid hT
  have Hll := hid hll
  have HS := hid (show St (fun _ => False) w [.row TWd 2 (.slice none 0 0) 0 (wordsV [])] w from (St.start w).add (Keeps.refl _ _) (G := fun _ => False) ⟨⟨rfl, .inl ⟨rfl, rfl⟩⟩, fun b => by simp [Value.ownBlock]⟩ (fun b hb => hb.elim))
  clear hT hll
  go_enter Tryz.func185, Tryz.ntmps185
  go_wp2_with fail
  go_loopw [5, 4, 3] (fun x y z wr => ∃ (k : Nat) (fo : Option Nat) (ts : List Tok), x = .int .i64 k ∧ y = .int .i64 (frm fo) ∧ k ≤ s.size + 1 ∧ (∀ f, fo = some f → f ≤ k) ∧ Hid ((k ≤ s.size → T = ts ++ restW s.data.toList k fo) ∧ (k = s.size + 1 → T = ts)) ∧ ts.length ≤ k ∧ St (fun _ => False) w [.row TWd 2 z ts.length (wordsV ts)] wr) (fun x _ _ _ => s.size + 1 - (intOf x).toNat)
  case atStart => exact ⟨0, none, [], rfl, rfl, by omega, by simp, hid ⟨fun _ => HT.out, fun h => by omega⟩, Nat.zero_le _, HS.out⟩
  case round =>
    clear HS
    obtain ⟨k, fo, ts, rfl, rfl, hk, hfk, HQ, htl, hS⟩ := hrel
    have HS := hid hS
    obtain ⟨za, zc, rfl, -⟩ := (hS.own 0).shape
    clear hS
    by_cases hle : k ≤ s.size
    · have a1 : decide ((k : Int) ≤ (s.size : Int)) = true := decide_eq_true (by omega)
      have a2 : decide (k ≤ s.size) = true := decide_eq_true hle
      have hq := HQ.out.1 hle
      by_cases hks : k = s.size
      · subst hks
        have a3 : ((s.size : Int) == (s.size : Int)) = true := beq_iff_eq.2 (by omega)
        have a4 : (s.size == s.size) = true := beq_iff_eq.2 (by omega)
        cases fo with
        | none =>
          have hq2 : T = ts := by
            rw [hq]
            have : restW s.data.toList s.size none = [] := by rw [← Hll.out]; exact rest_none _
            rw [this, List.append_nil]
          have Hq := hid hq2
          clear hq hq2 HQ
          simp only [frm]
          go_wp2_with fail
          go_roundw
          case rel => exact ⟨s.size + 1, none, ts, by go_num, rfl, by omega, by simp, hid ⟨fun h => by omega, fun _ => Hq.out⟩, by omega, HS.out⟩
          case measure => first | (simp [intOf]; done) | (simp [intOf]; omega)
        | some f =>
          have hfk := hfk f rfl
          have hq2 : T = ts ++ [(f, piece s.data.toList f s.size)] := by
            rw [hq]
            have : restW s.data.toList s.size (some f) = [(f, piece s.data.toList f s.size)] := by rw [← Hll.out]; exact rest_last _ _
            rw [this]
          have Hq := hid hq2
          clear hq hq2 HQ
          simp only [frm]
          have hf0 : (0 : Int) ≤ (f : Int) := by omega
          have hf1 : (f : Int) ≤ (s.size : Int) := by omega
          have hf2 : (s.size : Int) ≤ (s.size : Int) := by omega
          have bf : decide ((0 : Int) ≤ (f : Int)) = true := decide_eq_true hf0
          have bf2 : decide ((f : Int) < 0) = false := decide_eq_false (by omega)
          have hS1 := HS.out.new TWd [.int .i64 f, .string (s.extract f s.size)]
          simp only [Kw.red] at hS1
          have HS1 := hid hS1
          clear hS1
          go_wp2_with (at_builtin; refine wpList_appS 0 1 _ _ TWds TWd (.agg #[.int .i64 0, .string ⟨#[]⟩]) 2 24 infoWd Tryz.underlying287 rfl (by decide) rfl rfl HS1.out rfl rfl rfl rfl rfl (by intro u hu; simp only [List.mem_cons, List.not_mem_nil, or_false] at hu; rcases hu with rfl | rfl <;> rfl) (by omega) (by unfold maxLen; omega) (by omega) ?_; intro g gc w7 hSc hat)
          go_roundw
          case rel => exact ⟨s.size + 1, none, ts ++ [(f, piece s.data.toList f s.size)], by go_num, rfl, by omega, by simp, hid ⟨fun h => by omega, fun _ => Hq.out⟩, by simp; omega, by have := hSc.sub [0]; simp only [Kw.red] at this; simpa [wordsV, ext_piece] using this⟩
          case measure => first | (simp [intOf]; done) | (simp [intOf]; omega)
      · have a3 : ((k : Int) == (s.size : Int)) = false := beq_false_of_ne (by omega)
        have a4 : (k == s.size) = false := beq_false_of_ne (by omega)
        have hlt : k < s.size := by omega
        have hl' : k < s.data.toList.length := by rw [Hll.out]; exact hlt
        have i1 : (0 : Int) ≤ (k : Int) := by omega
        have i2 : (k : Int) < (s.size : Int) := by omega
        have hbb : s.data.toList[k] = s[k] := rfl
        by_cases hb : blankB s[k] = true
        · cases fo with
          | none =>
            rw [rest_skip hl' hb] at hq
            have Hq := hid hq
            clear hq HQ
            simp only [frm]
            rcases blank_is hb with c1 | ⟨c1, c2⟩ | ⟨c1, c2, c3⟩ | ⟨c1, c2, c3, c4⟩ | ⟨c1, c2, c3, c4, c5⟩
            all_goals
              go_wp2_with fail
              go_roundw
              case rel => exact ⟨k + 1, none, ts, by go_num, rfl, by omega, by simp, hid ⟨fun h => Hq.out, fun h => by omega⟩, by omega, HS.out⟩
              case measure => first | (simp [intOf]; done) | (simp [intOf]; omega)
          | some f =>
            have hfk := hfk f rfl
            rw [rest_shut hl' hb] at hq
            have hq2 : T = ts ++ [(f, piece s.data.toList f k)] ++ restW s.data.toList (k + 1) none := by rw [hq]; simp
            have Hq := hid hq2
            clear hq hq2 HQ
            simp only [frm]
            rcases blank_is hb with c1 | ⟨c1, c2⟩ | ⟨c1, c2, c3⟩ | ⟨c1, c2, c3, c4⟩ | ⟨c1, c2, c3, c4, c5⟩
            all_goals
              have hf0 : (0 : Int) ≤ (f : Int) := by omega
              have hf1 : (f : Int) ≤ (k : Int) := by omega
              have hf2 : (k : Int) ≤ (s.size : Int) := by omega
              have bf : decide ((0 : Int) ≤ (f : Int)) = true := decide_eq_true hf0
              have bf2 : decide ((f : Int) < 0) = false := decide_eq_false (by omega)
              have hS1 := HS.out.new TWd [.int .i64 f, .string (s.extract f k)]
              simp only [Kw.red] at hS1
              have HS1 := hid hS1
              clear hS1
              go_wp2_with (at_builtin; refine wpList_appS 0 1 _ _ TWds TWd (.agg #[.int .i64 0, .string ⟨#[]⟩]) 2 24 infoWd Tryz.underlying287 rfl (by decide) rfl rfl HS1.out rfl rfl rfl rfl rfl (by intro u hu; simp only [List.mem_cons, List.not_mem_nil, or_false] at hu; rcases hu with rfl | rfl <;> rfl) (by omega) (by unfold maxLen; omega) (by omega) ?_; intro g gc w7 hSc hat)
              go_roundw
              case rel => exact ⟨k + 1, none, ts ++ [(f, piece s.data.toList f k)], by go_num, rfl, by omega, by simp, hid ⟨fun h => Hq.out, fun h => by omega⟩, by simp; omega, by have := hSc.sub [0]; simp only [Kw.red] at this; simpa [wordsV, ext_piece] using this⟩
              case measure => first | (simp [intOf]; done) | (simp [intOf]; omega)
        · have hb : blankB s[k] = false := by simpa using hb
          obtain ⟨c1, c2, c3, c4, c5⟩ := blank_no hb
          cases fo with
          | none =>
            rw [rest_open hl' hb] at hq
            have Hq := hid hq
            clear hq HQ
            simp only [frm]
            go_wp2_with fail
            go_roundw
            case rel => exact ⟨k + 1, some k, ts, by go_num, rfl, by omega, by intro f hf; cases hf; omega, hid ⟨fun h => Hq.out, fun h => by omega⟩, by omega, HS.out⟩
            case measure => first | (simp [intOf]; done) | (simp [intOf]; omega)
          | some f =>
            have hfk := hfk f rfl
            rw [rest_in hl' hb] at hq
            have Hq := hid hq
            have bf2 : decide ((f : Int) < 0) = false := decide_eq_false (by omega)
            clear hq HQ
            simp only [frm]
            go_wp2_with fail
            go_roundw
            case rel => exact ⟨k + 1, some f, ts, by go_num, rfl, by omega, by intro g hg; cases hg; omega, hid ⟨fun h => Hq.out, fun h => by omega⟩, by omega, HS.out⟩
            case measure => first | (simp [intOf]; done) | (simp [intOf]; omega)
    · have a1 : decide ((k : Int) ≤ (s.size : Int)) = false := decide_eq_false (by omega)
      have a2 : decide (k ≤ s.size) = false := decide_eq_false hle
      have Hq := hid (HQ.out.2 (by omega))
      go_wp2_with fail
      go_ret
      refine ⟨.slice za ts.length zc, rfl, ?_⟩
      rw [Hq.out]
      exact HS.out
end Go.Proofs.YtnkjjhenfhnajaaGreatDoor
