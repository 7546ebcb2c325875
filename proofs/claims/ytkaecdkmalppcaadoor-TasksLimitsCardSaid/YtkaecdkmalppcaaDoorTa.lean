/-
  TasksRuns, walked.
-/
import Derived.Test.YtkaecdkmalppcaaDoorTf
namespace Go.Proofs.YtkaecdkmalppcaaDoor
open Go.RowKit Go.Kw Go.Kreg Go.Tm

namespace Runs
def n1 (c : UInt8) : ByteArray := ⟨#[c]⟩
def e0 : ByteArray := ⟨#[]⟩
def A : Task := ⟨n1 97, 1, 4, [], e0, 0, 0, 0⟩
def B : Task := ⟨n1 98, 1, 6, [⟨0, 2⟩, ⟨1, 1⟩], e0, 0, 0, 0⟩
def C : Task := ⟨n1 99, 2, 5, [], e0, 0, 0, 0⟩
def D : Task := ⟨n1 99, 2, 4, [], e0, 0, 0, 0⟩
def lockB : ByteArray := ⟨#[108, 111, 99, 107]⟩
def loopB : ByteArray := ⟨#[114, 101, 112, 101, 97, 116, 32, 52, 48, 57, 54, 32, 123, 32, 114, 101, 112, 101, 97, 116, 32, 50, 32, 123, 32, 112, 111, 112, 32, 125, 32, 125]⟩
def wrong : List Task := [⟨n1 97, 1, 0, [], e0, 0, 0, 0⟩, ⟨n1 65, 1, 0, [], e0, 0, 0, 0⟩, ⟨n1 100, 0, 0, [], e0, 0, 0, 0⟩, ⟨n1 100, 33, 0, [], e0, 0, 0, 0⟩, ⟨n1 100, 1, 0, [⟨0, 3⟩], e0, 0, 0, 0⟩, ⟨n1 100, 1, 0, [⟨1, 1⟩, ⟨0, 1⟩], e0, 0, 0, 0⟩, ⟨n1 100, 1, 0, [⟨2, 1⟩], e0, 0, 0, 0⟩,
  ⟨n1 100, 1, 0, [], lockB, 0, 0, 0⟩, ⟨n1 100, 1, 0, [], loopB, 0, 0, 0⟩, ⟨n1 100, 1, 0, [], e0, 5, 0, 0⟩, ⟨n1 100, 1, 0, [], e0, 5, 1, 5⟩, ⟨n1 100, 1, 0, [], e0, 0, 1, 0⟩]
def want : List Int := [3, 2, 1, 1, 1, 21, 1, 31, 5, 1, 1, 1]
def M (ts : List Task) : TM := ⟨10, [2, 1], ts⟩
set_option maxRecDepth 100000
theorem okA : (M []).check A = 0 := by decide +kernel
theorem okB : (M [A]).check B = 0 := by decide +kernel
theorem okC : (M [A, B]).check C = 25 := by decide +kernel
theorem okD : (M [A, B]).check D = 0 := by decide +kernel
theorem bad0 : wrong.map (fun x => (M [A, B, D]).check x) = want := by decide +kernel
theorem bd : bound [A, B, D] = 10 := by decide +kernel
theorem nd1 : Tm.need [A, B, D] 1 0 = 2 := by decide +kernel
theorem nd2 : Tm.need [A, B, D] 0 0 = 0 := by decide +kernel
theorem nd3 : Tm.need [A, B, D] 9 0 = 0 := by decide +kernel
theorem w1 : withOne [A, B, D] 2 6 = 12 := by decide +kernel
theorem w2 : withOne [A, B, D] 1 6 = 10 := by decide +kernel
theorem b1 : begins 10 [2, 1] = 0 := by decide +kernel
theorem b2 : begins (-1) [] = 1 := by decide +kernel
theorem b3 : begins 5 [0] = 1 := by decide +kernel
theorem b4 : begins 5 [256] = 1 := by decide +kernel
theorem b5 : begins 5 [1, 1, 1, 1, 1, 1, 1, 1, 1, 1, 1, 1, 1, 1, 1, 1, 1] = 4 := by decide +kernel
end Runs
theorem add_yes {m : TM} {x : Task} (h : m.check x = 0) : m.add x = ((m.ts.length : Int), 0, ⟨m.words, m.units, m.ts ++ [x]⟩) := by
  unfold TM.add; rw [if_neg (by simp [h])]
theorem add_no {m : TM} {x : Task} {e : Int} (h : m.check x = e) (he : e ≠ 0) : m.add x = (-1, e, m) := by
  unfold TM.add; rw [h, if_pos he]
theorem add_st {W w w0 : World} {F0 : Nat → Prop} {cs : List Ch} {p : Nat} {m m' : TM} {n e : Int} (hG : Glob W) (hS : St F0 w0 (glC W :: tabC p m :: cs) w) (x : Task) {nd : Value} (hv : SlNd w nd x.needs) (hb : big x.frame) (ha : m.add x = (n, e, m')) :
    Calls Tryd.prog 9 #[.pointer (some ⟨p, 0, none⟩), taskV x nd] w fun r w' => r = .returned (.tuple #[.int .i64 n, .int .i64 e]) ∧ St F0 w0 (glC W :: tabC p m' :: cs) w' := by
  obtain ⟨F1, g1, _, _, bk⟩ := hS.sel [0, 1]
  have g2 : Sts [glC W, tabC p m] F1 w := g1
  refine (add_any hG g2 x hv hb).mono fun r w' ⟨h1, h2⟩ => ⟨?_, ?_⟩
  · rw [h1, ha]
  · rw [ha] at h2; exact bk h2
namespace Runs
def nds (a b c : Nat) : List Value := [.slice none 0 0, .slice none 0 0, .slice none 0 0, .slice none 0 0, .slice (some ⟨a, 0, none⟩) 1 1, .slice (some ⟨b, 0, none⟩) 2 2, .slice (some ⟨c, 0, none⟩) 1 1, .slice none 0 0, .slice none 0 0, .slice none 0 0, .slice none 0 0, .slice none 0 0]
theorem addA : (M []).add A = (0, 0, M [A]) := add_yes okA
theorem addB : (M [A]).add B = (1, 0, M [A, B]) := add_yes okB
theorem addC : (M [A, B]).add C = (-1, 25, M [A, B]) := add_no okC (by decide)
theorem addD : (M [A, B]).add D = (2, 0, M [A, B, D]) := add_yes okD
end Runs
theorem Runs.wrong_at {F0 : Nat → Prop} {W w0 w : World} {p : Nat} (q : Nat) {k : Nat} (hk : k < 12) (hS : St F0 w0 [glC W, tabC p (Runs.M [Runs.A, Runs.B, Runs.D]), .pt q TNd (needsC [⟨0, 3⟩]), .pt (q + 1) TNd (needsC [⟨1, 1⟩, ⟨0, 1⟩]), .pt (q + 1 + 1) TNd (needsC [⟨2, 1⟩]), .pt (q + 1 + 1 + 1) TTk (tasksV Runs.wrong (Runs.nds q (q + 1) (q + 1 + 1))), .pt (q + 1 + 1 + 1 + 1) TI' (intsC Runs.want)] w) :
    ∃ x e nd, Runs.wrong[k]? = some x ∧ (Runs.M [Runs.A, Runs.B, Runs.D]).check x = e ∧ (Runs.nds q (q + 1) (q + 1 + 1))[k]? = some nd ∧ Runs.want[k]? = some e ∧ e ≠ 0 ∧ big x.frame ∧ SlNd w nd x.needs := by
  have h1 : Runs.wrong[k]? = some Runs.wrong[k] := List.getElem?_eq_getElem hk
  have h2 : Runs.want[k]? = some ((Runs.M [Runs.A, Runs.B, Runs.D]).check Runs.wrong[k]) := by rw [← Runs.bad0, List.getElem?_map, h1]; rfl
  have hn : ∀ e ∈ Runs.want, e ≠ 0 := by decide
  have hf : ∀ x ∈ Runs.wrong, big x.frame := by decide
  have s4 : SlNd w (.slice (some ⟨q, 0, none⟩) 1 1) [⟨0, 3⟩] := SlNd.blk (l := [⟨0, 3⟩]) (hS.blk 2) (by simp) (by decide)
  have s5 : SlNd w (.slice (some ⟨q + 1, 0, none⟩) 2 2) [⟨1, 1⟩, ⟨0, 1⟩] := SlNd.blk (l := [⟨1, 1⟩, ⟨0, 1⟩]) (hS.blk 3) (by simp) (by decide)
  have s6 : SlNd w (.slice (some ⟨q + 1 + 1, 0, none⟩) 1 1) [⟨2, 1⟩] := SlNd.blk (l := [⟨2, 1⟩]) (hS.blk 4) (by simp) (by decide)
  have hnd : ∃ nd, (Runs.nds q (q + 1) (q + 1 + 1))[k]? = some nd ∧ SlNd w nd (Runs.wrong[k]).needs := by
    obtain rfl | rfl | rfl | rfl | rfl | rfl | rfl | rfl | rfl | rfl | rfl | rfl : k = 0 ∨ k = 1 ∨ k = 2 ∨ k = 3 ∨ k = 4 ∨ k = 5 ∨ k = 6 ∨ k = 7 ∨ k = 8 ∨ k = 9 ∨ k = 10 ∨ k = 11 := by omega
    all_goals first | exact ⟨_, rfl, SlNd.nil w⟩ | exact ⟨_, rfl, s4⟩ | exact ⟨_, rfl, s5⟩ | exact ⟨_, rfl, s6⟩
  obtain ⟨nd, h3, h4⟩ := hnd
  exact ⟨_, _, nd, h1, rfl, h3, h2, hn _ (List.mem_of_getElem? h2), hf _ (List.mem_of_getElem? h1), h4⟩
section
variable {W w : World} {F : Nat → Prop}
open Runs
set_option maxRecDepth 100000 in
set_option maxHeartbeats 8000000 in
theorem runs_any (hG : Glob W) (hg : (glC W).holds F w) : Calls Tryd.prog 3 #[] w fun e w' => e = .returned (.bool true) ∧ Keeps (fun _ => False) w w' := by
  have HSg := hid (St.of (Sts.one hg))
  have Hg := hid hg
  have hn1 := new_any (SlIn.blk (b := w.heap.size) (l := [2, 1]) (Blk.new w TI' [.int .i64 2, .int .i64 1]) (by simp)) 10
  rw [b1] at hn1
  have HN1 := hid hn1
  clear hg hn1
  go_enter Tryd.func3, Tryd.ntmps3
  go_wp2_with fail
  refine HN1.out.mono ?_; rintro e w1 (⟨hbad, -, -⟩ | ⟨-, p, rfl, hS⟩)
  · exact absurd rfl hbad
  have HS1 := hid (show St F w [glC W, tabC p (M [])] w1 from (HSg.out.step ((Keeps.refl (fun _ => False) w).alloc (.cells #[.int .i64 2, .int .i64 1] TI'))).adds hS)
  clear hS HN1 HSg
  go_wp2_with fail
  refine (add_st hG HS1.out A (SlNd.nil _) (by unfold big A; decide) addA).mono ?_; rintro e w2 ⟨rfl, hS⟩
  have HS2 := hid ((hS.new TNd (needsC B.needs)))
  clear hS HS1
  go_wp2_with fail
  refine (add_st hG HS2.out B (SlNd.blk (HS2.out.blk 2) (by decide) (by decide)) (by unfold big B; decide) addB).mono ?_; rintro e w3 ⟨rfl, hS⟩
  have HS3 := hid hS
  clear hS HS2
  go_wp2_with fail
  refine (add_st hG HS3.out C (SlNd.nil _) (by unfold big C; decide) addC).mono ?_; rintro e w4 ⟨rfl, hS⟩
  have HS4 := hid hS
  clear hS HS3
  go_wp2_with fail
  refine (add_st hG HS4.out D (SlNd.nil _) (by unfold big D; decide) addD).mono ?_; rintro e w5 ⟨rfl, hS⟩
  have HS5 := hid (show St F w [glC W, tabC p (M [A, B, D])] w5 from hS.sub [0, 1])
  clear hS HS4
  obtain ⟨y, hy⟩ := tab_at 1 HS5.out
  have Hy := hid hy
  have K0 := hid (Keeps.refl (fun _ => False) w5)
  clear hy
  go_wp2_with fail
  have hc := bound_any (Hy.out.keeps K0.out)
  rw [show bound (M [A, B, D]).ts = 10 from bd] at hc
  refine hc.mono ?_; rintro e w6 ⟨rfl, k⟩
  have K6 := hid (K0.out.trans k)
  clear hc k K0
  go_wp2_with fail
  have hc := need_any (Hy.out.keeps K6.out) 1 0
  rw [show Tm.need (M [A, B, D]).ts 1 0 = 2 from nd1] at hc
  refine hc.mono ?_; rintro e w7 ⟨rfl, k⟩
  have K7 := hid (K6.out.trans k)
  clear hc k K6
  go_wp2_with fail
  have hc := need_any (Hy.out.keeps K7.out) 0 0
  rw [show Tm.need (M [A, B, D]).ts 0 0 = 0 from nd2] at hc
  refine hc.mono ?_; rintro e w8 ⟨rfl, k⟩
  have K8 := hid (K7.out.trans k)
  clear hc k K7
  go_wp2_with fail
  have hc := need_any (Hy.out.keeps K8.out) 9 0
  rw [show Tm.need (M [A, B, D]).ts 9 0 = 0 from nd3] at hc
  refine hc.mono ?_; rintro e w9 ⟨rfl, k⟩
  have K9 := hid (K8.out.trans k)
  clear hc k K8
  go_wp2_with fail
  have hc := with_any (Hy.out.keeps K9.out) 2 6 (by decide)
  rw [show withOne (M [A, B, D]).ts 2 6 = 12 from Runs.w1] at hc
  refine hc.mono ?_; rintro e w10 ⟨rfl, k⟩
  have K10 := hid (K9.out.trans k)
  clear hc k K9
  go_wp2_with fail
  have hc := with_any (Hy.out.keeps K10.out) 1 6 (by decide)
  rw [show withOne (M [A, B, D]).ts 1 6 = 10 from Runs.w2] at hc
  refine hc.mono ?_; rintro e w11 ⟨rfl, k⟩
  have K11 := hid (K10.out.trans k)
  clear hc k K10
  go_wp2_with fail
  have hS := ((((HS5.out.step K11.out).new TNd (needsC [⟨0, 3⟩])).new TNd (needsC [⟨1, 1⟩, ⟨0, 1⟩])).new TNd (needsC [⟨2, 1⟩])).new TTk (tasksV wrong (nds w11.heap.size (w11.heap.size + 1) (w11.heap.size + 2)))
  have hS := hS.new TI' (intsC want)
  simp only [World.size_alloc] at hS
  simp only [Kw.red] at hS
  have HS := hid hS
  clear hS
  go_wp2_with fail
  generalize w11.heap.size = q at *
  go_loopw [12] (fun x wr => ∃ k : Nat, k ≤ 12 ∧ x = .int .i64 k ∧ St F w [glC W, tabC p (M [A, B, D]), .pt q TNd (needsC [⟨0, 3⟩]), .pt (q + 1) TNd (needsC [⟨1, 1⟩, ⟨0, 1⟩]), .pt (q + 1 + 1) TNd (needsC [⟨2, 1⟩]), .pt (q + 1 + 1 + 1) TTk (tasksV wrong (nds q (q + 1) (q + 1 + 1))), .pt (q + 1 + 1 + 1 + 1) TI' (intsC want)] wr) (fun x _ => 12 - (intOf x).toNat)
  case atStart => exact ⟨0, by omega, rfl, HS.out⟩
  case round =>
    obtain ⟨k, hk, rfl, hS⟩ := hrel
    by_cases hlt : k < 12
    · obtain ⟨x, e, nd, hx, hbad, hnd, hwant, he0, hbf, hsn⟩ := wrong_at q hlt hS
      have ha := tasksV_at hx hnd
      have hB := hS.blk 5
      have d0 : wr.cell? ⟨q + 1 + 1 + 1, k * 8, none⟩ = some (.string x.name) := hB.at (ha 0 (by omega))
      have d1 : wr.cell? ⟨q + 1 + 1 + 1, k * 8 + 1, none⟩ = some (.int .i64 x.level) := hB.at (ha 1 (by omega))
      have d2 : wr.cell? ⟨q + 1 + 1 + 1, k * 8 + 2, none⟩ = some (.int .i64 x.frame) := hB.at (ha 2 (by omega))
      have d3 : wr.cell? ⟨q + 1 + 1 + 1, k * 8 + 3, none⟩ = some (nd) := hB.at (ha 3 (by omega))
      have d4 : wr.cell? ⟨q + 1 + 1 + 1, k * 8 + 4, none⟩ = some (.string x.code) := hB.at (ha 4 (by omega))
      have d5 : wr.cell? ⟨q + 1 + 1 + 1, k * 8 + 5, none⟩ = some (.int .i64 x.period) := hB.at (ha 5 (by omega))
      have d6 : wr.cell? ⟨q + 1 + 1 + 1, k * 8 + 6, none⟩ = some (.int .i64 x.first) := hB.at (ha 6 (by omega))
      have d7 : wr.cell? ⟨q + 1 + 1 + 1, k * 8 + 7, none⟩ = some (.int .i64 x.gap) := hB.at (ha 7 (by omega))
      have d8 := (hS.blk 6).at (intsC_at hwant)
      have i0 : (0 : Int) ≤ (k : Int) := by omega
      have i1 : (k : Int) < 12 := by omega
      have b1 : decide ((k : Int) < 12) = true := by simp; omega
      obtain ⟨na, nc, rfl, -⟩ := id hsn
      have hadd := add_st hG hS x hsn hbf (add_no hbad he0)
      have HA := hid hadd
      have Hw := hid hwant
      unfold taskV at HA
      generalize x.needs.length = nl at *
      clear hadd hsn hnd hx ha hB hwant hbad hS HS
      go_wp2_with fail
      refine HA.out.mono ?_; rintro r w12 ⟨rfl, hS2⟩
      have d8 := (hS2.blk 6).at (intsC_at Hw.out)
      obtain ⟨y2, hy2⟩ := tab_at 1 hS2
      have hlen := tlen_any hy2
      rw [show ((M [A, B, D]).ts.length : Int) = 3 from rfl] at hlen
      have HS2 := hid hS2
      clear hS2 hy2 HA Hw
      go_wp2_with fail
      refine hlen.mono ?_; rintro r w13 ⟨rfl, rfl⟩
      clear hlen
      go_wp2_with fail
      go_roundw
      case rel => exact ⟨k + 1, by omega, by go_num, HS2.out⟩
      case measure => simp [intOf]; omega
    · have b1 : decide ((k : Int) < 12) = false := by simp; omega
      have HS2 := hid (hS.sub [0, 1])
      clear hS
      go_wp2_with fail
      have hnw := new_any (w := wr) (v := .slice none 0 0) (us := []) ⟨none, 0, rfl, by simp, by simp, by simp [maxLen], fun j x hj => by simp at hj, fun _ => rfl⟩ (-1)
      rw [Runs.b2] at hnw
      refine hnw.mono ?_; rintro r w12 (⟨-, rfl, k12⟩ | ⟨h0, -⟩)
      case inr => exact absurd h0 (by decide)
      have HS3 := hid (HS2.out.step k12)
      clear hnw k12 HS2
      go_wp2_with fail
      have hnw := new_any (SlIn.blk (b := w12.heap.size) (l := [0]) (Blk.new w12 TI' [.int .i64 0]) (by simp)) 5
      rw [Runs.b3] at hnw
      refine hnw.mono ?_; rintro r w13 (⟨-, rfl, k12⟩ | ⟨h0, -⟩)
      case inr => exact absurd h0 (by decide)
      have HS4 := hid (HS3.out.step (((Keeps.refl _ _).alloc _).trans k12))
      clear hnw k12 HS3
      go_wp2_with fail
      have hnw := new_any (SlIn.blk (b := w13.heap.size) (l := [256]) (Blk.new w13 TI' [.int .i64 256]) (by simp)) 5
      rw [Runs.b4] at hnw
      refine hnw.mono ?_; rintro r w14 (⟨-, rfl, k12⟩ | ⟨h0, -⟩)
      case inr => exact absurd h0 (by decide)
      have HS5 := hid (HS4.out.step (((Keeps.refl _ _).alloc _).trans k12))
      clear hnw k12 HS4
      go_wp2_with fail
      have hnw := new_any (SlIn.blk (b := w14.heap.size) (l := [1, 1, 1, 1, 1, 1, 1, 1, 1, 1, 1, 1, 1, 1, 1, 1, 1]) (Blk.new w14 TI' (intsC [1, 1, 1, 1, 1, 1, 1, 1, 1, 1, 1, 1, 1, 1, 1, 1, 1])) (by simp)) 5
      rw [Runs.b5] at hnw
      refine hnw.mono ?_; rintro r w15 (⟨-, rfl, k12⟩ | ⟨h0, -⟩)
      case inr => exact absurd h0 (by decide)
      have HS6 := hid (HS5.out.step (((Keeps.refl _ _).alloc _).trans k12))
      clear hnw k12 HS5
      go_wp2_with fail
      go_ret
      exact ⟨rfl, (glob_keeps Hg.out HS6.out).1⟩
end
end Go.Proofs.YtkaecdkmalppcaaDoor
