/-
  TasksLimits, walked.
-/
import Derived.Test.YtkaecdkmalppcaaDoorTo
namespace Go.Proofs.YtkaecdkmalppcaaDoor
open Go.RowKit Go.Kw Go.Kreg Go.Tm

namespace Lim
def L (ts : List Task) : TM := ⟨65536, [], ts⟩
def nm (i : Nat) : ByteArray := ⟨#[116, UInt8.ofNat (97 + i / 26), UInt8.ofNat (97 + i % 26)]⟩
def tk (n : ByteArray) (l f : Int) : Task := ⟨n, l, f, [], ⟨#[]⟩, 0, 0, 0⟩
def X (i : Nat) : Task := tk (nm i) (1 + (i : Int) % 32) i
theorem cat (i : Nat) : (⟨#[116]⟩ : ByteArray) ++ ⟨#[UInt8.ofNat (97 + i / 26), UInt8.ofNat (97 + i % 26)]⟩ = nm i := rfl
def row (n : Nat) : List Task := (List.range n).map X
def more : Task := tk ⟨#[109, 111, 114, 101]⟩ 1 0
def tA (d : Int) : Task := tk ⟨#[97]⟩ (32 + d) 4096
def tB (d : Int) : Task := tk ⟨#[98]⟩ (1 - d) 4096
def tC (d : Int) : Task := tk ⟨#[99]⟩ 2 (4096 + d)
theorem begins0 : begins 65536 [] = 0 := by decide
theorem ok_all : ∀ i : Fin 64, (L (row i)).check (X i) = 0 := by decide +kernel
theorem ok {i : Nat} (h : i < 64) : (L (row i)).add (X i) = ((i : Int), 0, L (row (i + 1))) := by
  have := add_yes (ok_all ⟨i, h⟩)
  rw [show (L (row i)).ts.length = i by simp [L, row]] at this
  rw [this]
  show _ = ((i : Int), (0 : Int), (⟨65536, [], row (i + 1)⟩ : TM))
  rw [show row (i + 1) = row i ++ [X i] by simp [row, List.range_succ]]
  rfl
theorem more63 : (L (row 63)).add more = (63, 0, L (row 63 ++ [more])) := add_yes (by decide +kernel)
theorem more64 : (L (row 64)).add more = (-1, 4, L (row 64)) := add_no (by decide +kernel) (by decide)
theorem a0 : (L []).add (tA 0) = (0, 0, L [tA 0]) := add_yes (by decide +kernel)
theorem b0 : (L [tA 0]).add (tB 0) = (1, 0, L [tA 0, tB 0]) := add_yes (by decide +kernel)
theorem c0 : (L [tA 0, tB 0]).add (tC 0) = (2, 0, L [tA 0, tB 0, tC 0]) := add_yes (by decide +kernel)
theorem bd0 : bound [tA 0, tB 0, tC 0] = 12288 := by decide +kernel
theorem a1 : (L []).add (tA 1) = (-1, 1, L []) := add_no (by decide +kernel) (by decide)
theorem b1 : (L []).add (tB 1) = (-1, 1, L []) := add_no (by decide +kernel) (by decide)
theorem c1 : (L []).add (tC 1) = (-1, 1, L []) := add_no (by decide +kernel) (by decide)
end Lim
section
variable {W w : World} {F : Nat → Prop}
set_option maxRecDepth 100000 in
set_option maxHeartbeats 32000000 in
theorem limits_law (hG : Glob W) (hg : (glC W).holds F w) (n : Int) (hn : -9223372036854775808 ≤ n ∧ n ≤ 9223372036854775807) :
    Calls Tryd.prog 4 #[.int .i64 n] w fun e w' => e = .returned (.bool true) ∧ Keeps (fun _ => False) w w' := by
  have hwb := within_bd n (-1) 1 (by omega)
  have hwi := fun w => within_any w n (-1) 1 (by omega) (by omega) (by omega) hn.1 hn.2
  generalize within n (-1) 1 = d at *
  have HSg := hid (St.of (Sts.one hg))
  have Hg := hid hg
  clear hg hn
  go_enter Tryd.func4, Tryd.ntmps4
  go_wp2_with fail
  refine (new_any (us := []) ⟨none, 0, rfl, by simp, by simp, by simp [maxLen], fun j x hj => by simp at hj, fun _ => rfl⟩ 65536).mono ?_; rintro e w1 hor
  obtain ⟨p, rfl, hS⟩ := new_ok Lim.begins0 HSg.out hor
  have HS1 := hid (show St F w [glC W, tabC p (Lim.L (Lim.row 0))] w1 from hS)
  clear hS hor HSg
  go_wp2_with fail
  refine (hwi _).mono ?_; rintro e w2 ⟨rfl, rfl⟩
  go_wp2_with fail
  go_loopw [6] (fun x wr => ∃ i : Nat, i ≤ (if d < 0 then 63 else 64) ∧ x = .int .i64 i ∧ St F w [glC W, tabC p (Lim.L (Lim.row i))] wr) (fun x _ => 64 - (intOf x).toNat)
  case atStart => exact ⟨0, by omega, rfl, HS1.out⟩
  case round =>
    clear HS1
    obtain ⟨i, hi, rfl, hS⟩ := hrel
    have HSi := hid hS
    clear hS
    by_cases hlt : i < 64
    · have b1 : decide ((i : Int) < 64) = true := by simp; omega
      have k1 : (((97 + i / 26 : Nat) : Int)) = 97 + (i : Int) / 26 := by omega
      have k2 : (((97 + i % 26 : Nat) : Int)) = 97 + (i : Int) % 26 := by omega
      have kc : ∀ w : World, (convert 39 9 (.slice (some ⟨w.heap.size, 0, none⟩) 2 2)).run Tryd.prog (w.alloc (.cells #[.int .u8 (97 + (i : Int) / 26), .int .u8 (97 + (i : Int) % 26)] 5)) = .ok (.string ⟨#[UInt8.ofNat (97 + i / 26), UInt8.ofNat (97 + i % 26)]⟩) (w.alloc (.cells #[.int .u8 (97 + (i : Int) / 26), .int .u8 (97 + (i : Int) % 26)] 5)) := fun w => by
        refine run_convert_bytes_back (P := Tryd.prog) _ 39 9 5 ⟨w.heap.size, 0, none⟩ 2 [UInt8.ofNat (97 + i / 26), UInt8.ofNat (97 + i % 26)] Tryd.underlying39 Tryd.underlying5 Tryd.underlying9 ?_
        intro j hj
        match j, hj with
        | 0, _ =>
          show (w.alloc _).cell? ⟨w.heap.size, 0, none⟩ = _
          rw [World.cell?_alloc_new]
          simp [UInt8.toNat_ofNat, Nat.mod_eq_of_lt (show 97 + i / 26 < 256 by omega), k1]
        | 1, _ =>
          show (w.alloc _).cell? ⟨w.heap.size, 1, none⟩ = _
          rw [World.cell?_alloc_new]
          simp [UInt8.toNat_ofNat, Nat.mod_eq_of_lt (show 97 + i % 26 < 256 by omega), k2]
      generalize hs2 : (⟨#[UInt8.ofNat (97 + i / 26), UInt8.ofNat (97 + i % 26)]⟩ : ByteArray) = s2 at kc
      have hsz : s2.size = 2 := by rw [← hs2]; rfl
      have hcat : (⟨#[116]⟩ : ByteArray) ++ s2 = Lim.nm i := by rw [← hs2]; exact Lim.cat i
      have hone : (⟨#[116]⟩ : ByteArray).size = 1 := rfl
      generalize hNm : Lim.nm i = NM at hcat
      have HNm := hid hNm
      have HS2 := hid ((HSi.out.new 5 [.int .u8 (97 + (i : Int) / 26), .int .u8 (97 + (i : Int) % 26)]).new TTk [.string NM, .int .i64 (1 + (i : Int) % 32), .int .i64 i, .slice none 0 0, .string ⟨#[]⟩, .int .i64 0, .int .i64 0, .int .i64 0])
      clear hs2 k1 k2 HSi hNm
      by_cases h63 : i = 63
      · have b2 : ((i : Int) == 63) = true := by simp [h63]
        have H63 := hid h63
        clear h63
        by_cases hd : d < 0
        · have b3 : decide (d < 0) = true := by simpa using hd
          have HS3 := hid (show St F w [glC W, tabC p (Lim.L (Lim.row 63))] _ from by
            have := HS2.out.sub [0, 1]
            rw [show Lim.row i = Lim.row 63 by rw [H63.out]] at this
            exact this)
          clear HS2
          go_wp2_with fail
          refine (add_st hG HS3.out Lim.more (SlNd.nil _) (by decide) Lim.more63).mono ?_; rintro r w3 ⟨rfl, hS⟩
          have HS4 := hid hS
          clear hS HS3
          go_wp2_with fail
          refine (runs_any hG (HS4.out.at 0 rfl).choose_spec.1).mono ?_; rintro r w5 ⟨rfl, k5⟩
          go_wp2_with fail
          go_ret
          exact ⟨rfl, ((glob_keeps Hg.out HS4.out).1).trans k5⟩
        · have b3 : decide (d < 0) = false := by simpa using hd
          go_wp2_with fail
          have hnm := HNm.out
          subst hnm
          refine (add_st hG HS2.out (Lim.X i) (SlNd.nil _) (by unfold big Lim.X Lim.tk; dsimp only; omega) (Lim.ok hlt)).mono ?_; rintro r w3 ⟨rfl, hS⟩
          have HS3 := hid (hS.sub [0, 1])
          clear hS HS2
          go_wp2_with fail
          go_roundw
          case rel => exact ⟨i + 1, by split <;> omega, by go_num, HS3.out⟩
          case measure => simp [intOf]; omega
      · have b2 : ((i : Int) == 63) = false := beq_false_of_ne (by omega)
        go_wp2_with fail
        have hnm := HNm.out
        subst hnm
        refine (add_st hG HS2.out (Lim.X i) (SlNd.nil _) (by unfold big Lim.X Lim.tk; dsimp only; omega) (Lim.ok hlt)).mono ?_; rintro r w3 ⟨rfl, hS⟩
        have HS3 := hid (hS.sub [0, 1])
        clear hS HS2
        go_wp2_with fail
        go_roundw
        case rel => exact ⟨i + 1, by split <;> omega, by go_num, HS3.out⟩
        case measure => simp [intOf]; omega
    · have hd : ¬ d < 0 := by intro h; rw [if_pos h] at hi; omega
      have h64 : i = 64 := by rw [if_neg hd] at hi; omega
      subst h64
      have b3 : decide (d < 0) = false := by simpa using hd
      go_wp2_with fail
      refine (add_st hG HSi.out Lim.more (SlNd.nil _) (by decide) Lim.more64).mono ?_; rintro r w3 ⟨rfl, hS⟩
      have HS4 := hid hS
      clear hS HSi
      go_wp2_with fail
      refine (new_any (us := []) ⟨none, 0, rfl, by simp, by simp, by simp [maxLen], fun j x hj => by simp at hj, fun _ => rfl⟩ 65536).mono ?_; rintro e w4 hor
      obtain ⟨q, rfl, hS⟩ := new_ok Lim.begins0 HS4.out hor
      have HS5 := hid (show St F w [glC W, tabC p (Lim.L (Lim.row 64)), tabC q (Lim.L [])] w4 from hS)
      clear hS hor HS4
      by_cases hd1 : d = 0
      · subst hd1
        go_wp2_with fail
        refine (add_st2 hG HS5.out (Lim.tA 0) (SlNd.nil _) (by decide) Lim.a0).mono ?_; rintro r w5 ⟨rfl, hS⟩
        have HS6 := hid hS
        clear hS HS5
        go_wp2_with fail
        refine (add_st2 hG HS6.out (Lim.tB 0) (SlNd.nil _) (by decide) Lim.b0).mono ?_; rintro r w6 ⟨rfl, hS⟩
        have HS7 := hid hS
        clear hS HS6
        go_wp2_with fail
        refine (add_st2 hG HS7.out (Lim.tC 0) (SlNd.nil _) (by decide) Lim.c0).mono ?_; rintro r w7 ⟨rfl, hS⟩
        have HS8 := hid hS
        obtain ⟨y, hy⟩ := tab_at 2 hS
        have hb := bound_any hy
        rw [show bound (Lim.L [Lim.tA 0, Lim.tB 0, Lim.tC 0]).ts = 12288 from Lim.bd0] at hb
        clear hS HS7 hy
        go_wp2_with fail
        refine hb.mono ?_; rintro r w8 ⟨rfl, k8⟩
        have HS9 := hid (HS8.out.step k8)
        clear hb k8 HS8
        go_wp2_with fail
        refine (runs_any hG (HS9.out.at 0 rfl).choose_spec.1).mono ?_; rintro r w9 ⟨rfl, k9⟩
        go_wp2_with fail
        go_ret
        exact ⟨rfl, ((glob_keeps Hg.out HS9.out).1).trans k9⟩
      · obtain rfl : d = 1 := by omega
        go_wp2_with fail
        refine (add_st2 hG HS5.out (Lim.tA 1) (SlNd.nil _) (by decide) Lim.a1).mono ?_; rintro r w5 ⟨rfl, hS⟩
        have HS6 := hid hS
        clear hS HS5
        go_wp2_with fail
        refine (add_st2 hG HS6.out (Lim.tB 1) (SlNd.nil _) (by decide) Lim.b1).mono ?_; rintro r w6 ⟨rfl, hS⟩
        have HS7 := hid hS
        clear hS HS6
        go_wp2_with fail
        refine (add_st2 hG HS7.out (Lim.tC 1) (SlNd.nil _) (by decide) Lim.c1).mono ?_; rintro r w7 ⟨rfl, hS⟩
        have HS8 := hid hS
        clear hS HS7
        go_wp2_with fail
        refine (runs_any hG (HS8.out.at 0 rfl).choose_spec.1).mono ?_; rintro r w9 ⟨rfl, k9⟩
        go_wp2_with fail
        go_ret
        exact ⟨rfl, ((glob_keeps Hg.out HS8.out).1).trans k9⟩
end
end Go.Proofs.YtkaecdkmalppcaaDoor
