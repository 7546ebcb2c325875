/-
  keelbook's small functions, walked.
-/
import Derived.Test.YtjmbgfkigfbioaaProg
import Derived.Test.YtjmbgfkigfbioaaKmix
import Derived.KernelRfl
namespace Go.Proofs.Ytjmbgfkigfbioaa
open Go.RowKit Go.Kw Go.Kreg

theorem int_bd {n : Int} (h : (Lit.int .i64 n).wf = true) : -9223372036854775808 ≤ n ∧ n ≤ 9223372036854775807 := by
  simp only [Lit.wf, Bool.and_eq_true, decide_eq_true_eq] at h
  exact h

/-- A slice value that reads as a list of numbers (nil, where it is empty, too). -/
def SlI (w : World) (v : Value) (xs : List Int) : Prop :=
  ∃ ao c, v = .slice ao xs.length c ∧ xs.length ≤ 140737488351232 ∧ xs.length ≤ c ∧ ∀ j x, xs[j]? = some x → ∃ b o, ao = some ⟨b, o, none⟩ ∧ w.cell? ⟨b, o + j, none⟩ = some (.int .i64 x)

theorem SlI.nil (w : World) : SlI w (.slice none 0 0) [] := ⟨none, 0, rfl, by simp, by simp, by simp⟩
theorem SlI.keeps {w w' : World} {v : Value} {xs : List Int} {F : Nat → Prop} (h : SlI w v xs) (hk : Keeps F w w') (hF : ∀ b, (∃ o n c, v = .slice (some ⟨b, o, none⟩) n c) → ¬ F b) : SlI w' v xs := by
  obtain ⟨ao, c, rfl, hl, hlc, hc⟩ := h
  refine ⟨ao, c, rfl, hl, hlc, fun j x hx => ?_⟩
  obtain ⟨b, o, rfl, h1⟩ := hc j x hx
  exact ⟨b, o, rfl, (World.cell?_of_block (w := w) (hk.block b (World.block_lt_of_cell? w _ h1) (hF b ⟨o, _, c, rfl⟩))).trans h1⟩
theorem SlI.new {w w' : World} {v : Value} {xs : List Int} (h : SlI w v xs) (hk : Keeps (fun _ => False) w w') : SlI w' v xs := h.keeps hk fun _ _ => id
theorem SlI.drewN {w : World} {v : Value} {xs : List Int} (h : SlI w v xs) (n : Nat) : SlI (w.drewN n) v xs := h
/-- Where it is not empty its cells lie in a row. -/
theorem SlI.row {w : World} {v : Value} {xs : List Int} (h : SlI w v xs) (h0 : 0 < xs.length) : ∃ b o c, v = .slice (some ⟨b, o, none⟩) xs.length c ∧ xs.length ≤ c ∧ ∀ j x, xs[j]? = some x → w.cell? ⟨b, o + j, none⟩ = some (.int .i64 x) := by
  obtain ⟨ao, c, rfl, hl, hlc, hc⟩ := h
  obtain ⟨b, o, rfl, _⟩ := hc 0 xs[0] (List.getElem?_eq_getElem h0)
  refine ⟨b, o, c, rfl, hlc, fun j x hx => ?_⟩
  obtain ⟨b', o', e, h1⟩ := hc j x hx
  cases e; exact h1
theorem Fresh.sl {w w' : World} {v : Value} {xs : List Int} {T : TypeId} (h : Fresh w w' T v xs.length (xs.map (Value.int .i64))) (hl : xs.length ≤ 140737488351232) : SlI w' v xs := by
  obtain ⟨g, rfl, hg, hb, hk⟩ := h
  refine ⟨_, xs.length, rfl, hl, Nat.le_refl _, fun j x hx => ⟨g, 0, rfl, ?_⟩⟩
  rw [Nat.zero_add]
  exact hb.at (by rw [List.getElem?_map, hx]; rfl)
theorem Blk.sl {w : World} {g : Nat} {xs : List Int} {T : TypeId} (h : Blk w g T (xs.map (Value.int .i64))) (hl : xs.length ≤ 140737488351232) (c : Nat) (hlc : xs.length ≤ c) : SlI w (.slice (some ⟨g, 0, none⟩) xs.length c) xs :=
  ⟨_, c, rfl, hl, hlc, fun j x hx => ⟨g, 0, rfl, by rw [Nat.zero_add]; exact h.at (by rw [List.getElem?_map, hx]; rfl)⟩⟩

/-- A list that was just written out. -/
theorem SlI.lit {w : World} {vs : List Value} (xs : List Int) (T g c : Nat) (e : vs = xs.map (Value.int .i64)) (hg : g = w.heap.size) (hl : xs.length ≤ 140737488351232) (hlc : xs.length ≤ c) : SlI (w.alloc (.cells vs.toArray T)) (.slice (some ⟨g, 0, none⟩) xs.length c) xs := by
  subst hg
  refine ⟨_, c, rfl, hl, hlc, fun j x hx => ⟨w.heap.size, 0, rfl, by rw [Nat.zero_add]; exact (Blk.new w T vs).at (by rw [e, List.getElem?_map, hx]; rfl)⟩⟩

theorem take_same {xs ys : List Int} {k : Nat} {x : Int} (h : xs.take k = ys.take k) (hx : xs[k]? = some x) (hy : ys[k]? = some x) : xs.take (k + 1) = ys.take (k + 1) := by
  rw [List.take_add_one, List.take_add_one, h, hx, hy]

set_option maxHeartbeats 1000000 in
theorem same_any {w : World} {v u : Value} {xs ys : List Int} (hx : SlI w v xs) (hy : SlI w u ys) :
    Calls Try.prog 16 #[v, u] w fun e w' => e = .returned (.bool (decide (xs = ys))) ∧ ∃ n, w' = w.drewN n := by
  by_cases hlen : xs.length = ys.length
  · have hb : ((xs.length : Int) != (ys.length : Int)) = false := by simp [hlen]
    have Hl := hid hlen
    by_cases h0 : xs.length = 0
    · obtain ⟨ao, c, rfl, hl, hlc, hc⟩ := hx
      obtain ⟨ao', c', rfl, hl', hlc', hc'⟩ := hy
      have e1 : xs = [] := List.eq_nil_of_length_eq_zero h0
      have e2 : ys = [] := List.eq_nil_of_length_eq_zero (by omega)
      subst e1; subst e2
      clear hlen hl hl' hlc hlc' h0 Hl hc hc'
      simp only [List.length_nil] at *
      go_enter Try.func16, Try.ntmps16
      go_wp2
      go_loopw [5] (fun i wr => i = .int .i64 0 ∧ ∃ n, wr = w.drewN n) (fun _ _ => 0)
      case atStart => exact ⟨rfl, 0, rfl⟩
      case round =>
        obtain ⟨rfl, nq, rfl⟩ := hrel
        go_wp2
        go_ret
        exact ⟨rfl, ⟨_, rfl⟩⟩
    · have hl := hx.choose_spec.choose_spec.2.1
      obtain ⟨b, o, c, rfl, hlc, hc⟩ := hx.row (by omega)
      obtain ⟨b', o', c', rfl, hlc', hc'⟩ := hy.row (by omega)
      have Hc := hid hc
      have Hc' := hid hc'
      clear hc hc' hlen hx hy
      have h0' : 0 < xs.length := by omega
      clear h0
      go_enter Try.func16, Try.ntmps16
      go_wp2
      go_loopw [5] (fun i wr => ∃ k : Nat, k ≤ xs.length ∧ i = .int .i64 k ∧ (∃ n, wr = w.drewN n) ∧ Hid (xs.take k = ys.take k)) (fun i _ => xs.length - (intOf i).toNat)
      case atStart => exact ⟨0, Nat.zero_le _, rfl, ⟨0, rfl⟩, hid (by simp)⟩
      case round =>
        obtain ⟨k, hk, rfl, ⟨nq, rfl⟩, Hr⟩ := hrel
        by_cases hlt : k < xs.length
        · have hlt2 : k < ys.length := by rw [← Hl.out]; exact hlt
          have c1 := Hc.out k xs[k] (List.getElem?_eq_getElem hlt)
          have c2 := Hc'.out k ys[k] (List.getElem?_eq_getElem hlt2)
          have Hx := hid (List.getElem?_eq_getElem hlt)
          have Hy := hid (List.getElem?_eq_getElem hlt2)
          generalize xs[k] = x at *
          generalize ys[k] = y at *
          have b1 : decide ((k : Int) < (xs.length : Int)) = true := by simp; omega
          have i0 : (0 : Int) ≤ (k : Int) := by omega
          have i1 : (k : Int) < (xs.length : Int) := by omega
          have i2 : (k : Int) < (ys.length : Int) := by omega
          by_cases hxy : x = y
          · subst hxy
            have b2 : (x != x) = false := by simp
            go_wp2
            go_quiet (fail)
            go_wp2
            go_roundw
            case rel => exact ⟨k + 1, by omega, by go_num, (by first | exact ⟨_, rfl⟩ | exact dn2 _ _ _ | exact dn3 _ _ _ _), hid (take_same Hr.out Hx.out Hy.out)⟩
            case measure => simp [intOf]; omega
          · have b2 : (x != y) = true := by simpa using hxy
            have hne : ¬ xs = ys := by
              intro e
              have h1 := Hx.out; have h2 := Hy.out
              rw [e, h2] at h1
              exact hxy (Option.some.inj h1).symm
            have Hne := hid hne
            clear hne hxy
            go_wp2
            go_quiet (fail)
            go_wp2
            go_ret
            exact ⟨by rw [decide_eq_false Hne.out]; rfl, (by first | exact ⟨_, rfl⟩ | exact dn2 _ _ _ | exact dn3 _ _ _ _)⟩
        · have b1 : decide ((k : Int) < (xs.length : Int)) = false := by simp; omega
          have hall : xs = ys := by
            have := Hr.out
            rwa [List.take_of_length_le (by omega), List.take_of_length_le (by rw [← Hl.out]; omega)] at this
          have Ha := hid hall
          clear hall
          go_wp2
          go_ret
          exact ⟨by rw [decide_eq_true Ha.out]; rfl, ⟨_, rfl⟩⟩
  · have hb : ((xs.length : Int) != (ys.length : Int)) = true := by simp; omega
    have hne : ¬ xs = ys := fun e => hlen (by rw [e])
    obtain ⟨ao, c, rfl, hl, hlc, hc⟩ := hx
    obtain ⟨ao', c', rfl, hl', hlc', hc'⟩ := hy
    have Hne := hid hne
    clear hne hlen hc hc'
    go_enter Try.func16, Try.ntmps16
    go_wp2
    go_ret
    exact ⟨by rw [decide_eq_false Hne.out]; rfl, ⟨0, rfl⟩⟩

theorem same_yes {w : World} {v u : Value} {xs : List Int} (hx : SlI w v xs) (hy : SlI w u xs) :
    Calls Try.prog 16 #[v, u] w fun e w' => e = .returned (.bool true) ∧ ∃ n, w' = w.drewN n := by
  have := same_any hx hy; rwa [decide_eq_true (rfl : xs = xs)] at this

def within (n lo hi : Int) : Int := lo + (if n.tmod (hi - lo + 1) < 0 then n.tmod (hi - lo + 1) + hi - lo + 1 else n.tmod (hi - lo + 1))
theorem within_bd (n lo hi : Int) (h : lo ≤ hi) : lo ≤ within n lo hi ∧ within n lo hi ≤ hi := by
  unfold within
  have h1 := Int.tmod_lt_of_pos n (b := hi - lo + 1) (by omega)
  have h2 : -(hi - lo + 1) < n.tmod (hi - lo + 1) := by
    have := Int.lt_tmod_of_pos n (show 0 < hi - lo + 1 by omega)
    exact this
  split <;> omega

theorem within_any (w : World) (n lo hi : Int) (h0 : -1000000 ≤ lo) (h1 : lo ≤ hi) (h2 : hi ≤ 1000000) (_hn : -9223372036854775808 ≤ n) (_hn' : n ≤ 9223372036854775807) :
    Calls Try.prog 22 #[.int .i64 n, .int .i64 lo, .int .i64 hi] w fun e w' => e = .returned (.int .i64 (within n lo hi)) ∧ w = w' := by
  have hb := within_bd n lo hi h1
  have hw : within n lo hi = lo + (if n.tmod (hi - lo + 1) < 0 then n.tmod (hi - lo + 1) + hi - lo + 1 else n.tmod (hi - lo + 1)) := rfl
  have Hw := hid hw
  have Hb := hid hb
  clear hw hb
  have m1 := Int.tmod_lt_of_pos n (b := hi - lo + 1) (by omega)
  have m2 := Int.lt_tmod_of_pos n (show 0 < hi - lo + 1 by omega)
  have hne : ((hi - lo + 1 : Int) == 0) = false := by simp; omega
  have hp : 0 < hi - lo + 1 := by omega
  go_enter Try.func22, Try.ntmps22
  go_wp2
  · go_ret
    rename_i hneg
    exact ⟨ret_int (by rw [Hw.out, if_pos hneg]), rfl⟩
  · go_ret
    rename_i hneg
    exact ⟨ret_int (by rw [Hw.out, if_neg (by omega)]), rfl⟩
end Go.Proofs.Ytjmbgfkigfbioaa
