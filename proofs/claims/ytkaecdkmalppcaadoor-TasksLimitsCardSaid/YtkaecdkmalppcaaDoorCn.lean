/-
  Package code, walked: numbers; the library's variables.
-/
import Derived.Test.YtkaecdkmalppcaaDoorCy
import Derived.Test.YtkaecdkmalppcaaDoorLay
import Derived.Lib.AtoiAllCases
import Derived.Lib.LaidTab
namespace Go.Proofs.YtkaecdkmalppcaaDoor
open Go.RowKit Go.Kw Go.Kreg Go.Cm

def NG : Nat := 5
structure Glob (w : World) : Prop where
  tab : Lib.TabIs Tryd.prog w "internal/strconv.uint64pow10" .u64 Lib.pow10Tab
  syn : ∃ te pe, w.cell? ⟨0, 0, none⟩ = some (.iface te pe)
  rng : ∃ te pe, w.cell? ⟨1, 0, none⟩ = some (.iface te pe)
/-- The library's variables, as they stand in W. -/
def glC (W : World) : Ch :=
  ⟨fun F w => (∀ b, b < NG → w.heap[b]? = W.heap[b]?) ∧ NG ≤ w.heap.size ∧ ∀ b, F b ↔ b < NG, fun _ _ h b hb => Nat.lt_of_lt_of_le ((h.2.2 b).1 hb) h.2.1,
    fun _ _ _ _ h hk hn => ⟨fun b hb => (hk.block b (Nat.lt_of_lt_of_le hb h.2.1) (hn b ((h.2.2 b).2 hb))).trans (h.1 b hb), Nat.le_trans h.2.1 hk.size, h.2.2⟩⟩
theorem gTab : Tryd.prog.globalNamed "internal/strconv.uint64pow10" = some 2 := by kernel_rfl
theorem Glob.at {W w : World} {F : Nat → Prop} (hG : Glob W) (h : (glC W).holds F w) : Glob w := by
  obtain ⟨h1, _, _⟩ := h
  refine ⟨?_, ?_, ?_⟩
  · have := hG.tab
    unfold Lib.TabIs World.var? at *
    rw [gTab] at *
    simp only [Option.bind_some] at *
    rw [h1 _ (by decide)]; exact this
  · obtain ⟨te, pe, h⟩ := hG.syn
    exact ⟨te, pe, by rw [← h]; unfold World.cell?; rw [h1 _ (by decide)]⟩
  · obtain ⟨te, pe, h⟩ := hG.rng
    exact ⟨te, pe, by rw [← h]; unfold World.cell?; rw [h1 _ (by decide)]⟩

theorem keeps_atoi {w w' : World} {T : TypeId} (h : w' = w ∨ ∃ t, w' = Lib.bytesWorld w T t) : Keeps (fun _ => False) w w' := by
  rcases h with rfl | ⟨t, rfl⟩
  · exact Keeps.refl _ _
  · exact Keeps.of_below (Lib.bytesWorld_below _ _ _)

/-- Whatever Atoi ends in: the number, and whether there is an error. -/
theorem atoi_any {W w : World} {F : Nat → Prop} (hG : Glob W) (hg : (glC W).holds F w) (s : ByteArray) (hs : s.size ≤ 4096) :
    Calls Tryd.prog 62 #[.string s] w fun e w' => Keeps (fun _ => False) w w' ∧
      ((∃ n : Int, e = .returned (.tuple #[.int .i64 n, .nilIface]) ∧ Hid (Lib.atoiAll s.data.toList = .ok n)) ∨ (∃ (n : Int) (t : TypeId) (v : Value), e = .returned (.tuple #[.int .i64 n, .iface t v]) ∧ Hid (number s.data.toList = none))) := by
  have hG' := hG.at hg
  cases h : Lib.atoiAll s.data.toList
  · exact (Any.strconv_Atoi_ok Tryd.laysC172 s (by omega) _ h w).mono fun e w' ⟨he, hw⟩ => ⟨keeps_atoi hw, .inl ⟨_, he, hid rfl⟩⟩
  · obtain ⟨te, pe, hv⟩ := hG'.syn
    exact (Any.strconv_Atoi_syntax Tryd.laysC172 s (by omega) h _ w hv (.inr ⟨te, pe, rfl⟩)).mono fun e w' ⟨N, he, _, _, hb⟩ => ⟨Keeps.of_below hb, .inr ⟨_, _, _, he, by unfold number; rw [h]; trivial⟩⟩
  · obtain ⟨te, pe, hv⟩ := hG'.rng
    exact (Any.strconv_Atoi_range Tryd.laysC172 s (by omega) h _ w hv (.inr ⟨te, pe, rfl⟩)).mono fun e w' ⟨N, he, _, _, hb⟩ => ⟨Keeps.of_below hb, .inr ⟨_, _, _, he, by unfold number; rw [h]; trivial⟩⟩
theorem itoa_any {W w : World} {F : Nat → Prop} (hG : Glob W) (hg : (glC W).holds F w) (n : Int) (h0 : -9223372036854775808 ≤ n) (h1 : n ≤ 9223372036854775807) :
    Calls Tryd.prog 63 #[.int .i64 n] w fun e w' => e = .returned (.string ⟨(Lib.itoa n).toArray⟩) ∧ Keeps (fun _ => False) w w' :=
  (Any.strconv_Itoa Tryd.laysM171 n h0 h1 w (hG.at hg).tab).mono fun e w' ⟨he, k, os, hw⟩ => ⟨he, by
    rw [hw]
    exact ⟨rfl, rfl, rfl, by simp, fun b hb _ => Sort.heap_grow_old (w.drewN k) os hb⟩⟩

set_option maxHeartbeats 1000000 in
theorem number_any {W w : World} {F : Nat → Prop} (hG : Glob W) (hg : (glC W).holds F w) (s : ByteArray) (hs : s.size ≤ 4096) :
    Calls Tryd.prog 59 #[.string s] w fun e w' => Keeps (fun _ => False) w w' ∧ ∃ (n : Int) (ok : Bool), e = .returned (.tuple #[.int .i64 n, .bool ok]) ∧ Hid (number s.data.toList = if ok then some n else none) := by
  go_enter Tryd.func59, Tryd.ntmps59
  go_wp2_with fail
  refine (atoi_any hG hg s hs).mono ?_; rintro e w1 ⟨k1, ⟨n, rfl, hn⟩ | ⟨n, t, v, rfl, hn⟩⟩
  · have hb := Lib.atoiAll_bounds hn.out
    have hg1 := (glC W).keep F _ w w1 hg k1 fun _ _ => id
    have K1 := hid k1
    have hnum : number s.data.toList = if Lib.itoa n = s.data.toList then some n else none := by unfold number; rw [hn.out]
    have Hn := hid hnum
    clear k1 hn hnum
    by_cases hi : Lib.itoa n = s.data.toList
    · have b1 : (Lib.itoa n == s.toList) = true := by rw [ByteArray.toList_eq]; simpa using hi
      have Hi := hid hi
      clear hi
      go_wp2_with fail
      refine (itoa_any hG hg1 n hb.1 hb.2).mono ?_; rintro e w2 ⟨rfl, k2⟩
      go_wp2_with fail
      go_ret2
      exact ⟨K1.out.trans k2, n, true, rfl, hid (by rw [Hn.out, if_pos Hi.out]; rfl)⟩
    · have b1 : (Lib.itoa n == s.toList) = false := by rw [ByteArray.toList_eq]; simpa using hi
      have Hi := hid hi
      clear hi
      go_wp2_with fail
      refine (itoa_any hG hg1 n hb.1 hb.2).mono ?_; rintro e w2 ⟨rfl, k2⟩
      go_wp2_with fail
      go_ret2
      exact ⟨K1.out.trans k2, n, false, rfl, hid (by rw [Hn.out, if_neg Hi.out]; rfl)⟩
  · have K1 := hid k1
    clear k1
    go_wp2_with fail
    go_ret2
    exact ⟨K1.out, n, false, rfl, hn⟩
end Go.Proofs.YtkaecdkmalppcaaDoor
