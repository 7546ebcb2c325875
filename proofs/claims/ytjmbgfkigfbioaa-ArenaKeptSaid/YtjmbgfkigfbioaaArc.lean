/-
  The arena's contracts: each call answers as the model does, and what is there behind it is the model's.
-/
import Derived.Test.YtjmbgfkigfbioaaArw
namespace Go.Proofs.Ytjmbgfkigfbioaa
open Go.RowKit Go.Kw Go.Kreg Go.Arm

/-- An arena at p that holds m; its blocks are F's. -/
def AObj (w : World) (p : Nat) (m : AM) (F : Nat → Prop) : Prop := ∃ wb fv, ARep w p wb fv m ∧ F = foot p wb fv

theorem AObj.ok {w : World} {p : Nat} {m : AM} {F : Nat → Prop} (h : AObj w p m F) : m.ok := by obtain ⟨_, _, h, _⟩ := h; exact h.ok
theorem AObj.lt {w : World} {p : Nat} {m : AM} {F : Nat → Prop} (h : AObj w p m F) : ∀ b, F b → b < w.heap.size := by
  obtain ⟨wb, fv, h, rfl⟩ := h
  rintro b (rfl | rfl | hb)
  · exact h.st.lt
  · exact h.wd.lt
  · exact h.fr.lt b hb
theorem AObj.keeps {w w' : World} {p : Nat} {m : AM} {F G : Nat → Prop} (h : AObj w p m F) (hk : Keeps G w w') (hs : ∀ b, F b → ¬ G b) : AObj w' p m F := by
  obtain ⟨wb, fv, h, rfl⟩ := h
  exact ⟨wb, fv, ⟨h.ok, h.few, hk.blk h.st (hs _ (.inl rfl)), hk.blk h.wd (hs _ (.inr (.inl rfl))), h.fr.keeps hk fun b hb => hs b (.inr (.inr hb))⟩, rfl⟩
theorem AObj.drewN {w : World} {p : Nat} {m : AM} {F : Nat → Prop} (h : AObj w p m F) (n : Nat) : AObj (w.drewN n) p m F := h.keeps ((Keeps.refl (fun _ => False) w).drewN n) fun _ _ => id
theorem AObj.new {w w' : World} {p : Nat} {m : AM} {F : Nat → Prop} (h : AObj w p m F) (hk : Keeps (fun _ => False) w w') : AObj w' p m F := h.keeps hk fun _ _ => id

theorem Turned.obj {w w' : World} {p wb : Nat} {fv : Value} {m' : AM} (h : Turned w w' p wb fv m') : ∃ F', AObj w' p m' F' ∧ Moves (foot p wb fv) F' w w' := by
  obtain ⟨fv', h1, h2, h3⟩ := h
  refine ⟨_, ⟨wb, fv', h1, rfl⟩, h2, ?_⟩
  rintro b (rfl | rfl | hb)
  · exact .inl (.inl rfl)
  · exact .inl (.inr (.inl rfl))
  · rcases h3 b hb with h | h
    · exact .inl (.inr (.inr h))
    · exact .inr h

theorem stay {w : World} {p : Nat} {m : AM} {F : Nat → Prop} (h : AObj w p m F) (n : Nat) : ∃ F', AObj (w.drewN n) p m F' ∧ Moves F F' w (w.drewN n) :=
  ⟨F, h.drewN n, (Keeps.refl _ _).drewN n, fun _ h => .inl h⟩

theorem last_of {l : List Fr} (h : l ≠ []) : ∃ init f, l = init ++ [f] := ⟨l.dropLast, l.getLast h, (List.dropLast_concat_getLast h).symm⟩
theorem laid_of {f : Fr} (h : f.laid ≠ []) : ∃ l v, f = ⟨f.size, l ++ [v]⟩ := by
  refine ⟨f.laid.dropLast, f.laid.getLast h, ?_⟩
  rw [List.dropLast_concat_getLast]

section
variable {w : World} {p : Nat} {m : AM} {F : Nat → Prop}

theorem open_m (h : AObj w p m F) (hfew : m.frs.length < 1000000) (s : Int) :
    Calls Try.prog 14 #[.pointer (some ⟨p, 0, none⟩), .int .i64 s] w fun e w' => e = .returned (.int .i64 (m.opens s).1) ∧ ∃ F', AObj w' p (m.opens s).2 F' ∧ Moves F F' w w' := by
  have hA := h
  obtain ⟨wb, fv, h, rfl⟩ := h
  by_cases h1 : s < 0
  · refine (open_neg h s h1).mono fun e w' ⟨he, n, hw⟩ => ?_
    subst hw
    have e1 : m.opens s = (1, m) := by unfold AM.opens; rw [if_pos h1]
    rw [e1]; exact ⟨he, stay hA n⟩
  · by_cases h2 : (m.n : Int) - m.used < s
    · refine (open_full h s (by omega) h2).mono fun e w' ⟨he, n, hw⟩ => ?_
      subst hw
      have e1 : m.opens s = (11, m) := by unfold AM.opens; rw [if_neg h1, if_pos h2]
      rw [e1]; exact ⟨he, stay hA n⟩
    · obtain ⟨k, rfl⟩ := Int.eq_ofNat_of_zero_le (show 0 ≤ s by omega)
      have hk : m.used + k ≤ m.n := by omega
      have h3 := open_yes h k hk hfew
      rw [open_few hk]
      exact h3.mono fun e w' ⟨he, ht⟩ => ⟨he, ht.obj⟩

theorem close_m (h : AObj w p m F) :
    Calls Try.prog 13 #[.pointer (some ⟨p, 0, none⟩)] w fun e w' => e = .returned (.int .i64 m.closes.1) ∧ ∃ F', AObj w' p m.closes.2 F' ∧ Moves F F' w w' := by
  have hA := h
  obtain ⟨wb, fv, h, rfl⟩ := h
  by_cases h1 : m.frs = []
  · refine (close_none h h1).mono fun e w' ⟨he, n, hw⟩ => ?_
    subst hw
    have e1 : m.closes = (6, m) := by unfold AM.closes; rw [if_pos h1]
    rw [e1]; exact ⟨he, stay hA n⟩
  · obtain ⟨init, f, hm⟩ := last_of h1
    obtain ⟨n, frs, hi⟩ := m
    simp only at hm; subst hm
    have e1 : AM.closes ⟨n, init ++ [f], hi⟩ = (0, ⟨n, init, hi⟩) := by simp [AM.closes]
    rw [e1]
    exact (close_yes h).mono fun e w' ⟨he, ht⟩ => ⟨he, ht.obj⟩

theorem push_m (h : AObj w p m F) (v : Int) :
    Calls Try.prog 12 #[.pointer (some ⟨p, 0, none⟩), .int .i64 v] w fun e w' => e = .returned (.int .i64 (m.push v).1) ∧ ∃ F', AObj w' p (m.push v).2 F' ∧ Moves F F' w w' := by
  have hA := h
  obtain ⟨wb, fv, h, rfl⟩ := h
  by_cases h1 : m.frs = []
  · refine (push_none h h1 v).mono fun e w' ⟨he, n, hw⟩ => ?_
    subst hw
    have e1 : m.push v = (6, m) := by unfold AM.push; rw [h1]; rfl
    rw [e1]; exact ⟨he, stay hA n⟩
  · obtain ⟨init, f, hm⟩ := last_of h1
    obtain ⟨n, frs, hi⟩ := m
    simp only at hm; subst hm
    by_cases h2 : f.laid.length = f.size
    · refine (push_full h h2 v).mono fun e w' ⟨he, n', hw⟩ => ?_
      subst hw
      have e1 : AM.push ⟨n, init ++ [f], hi⟩ v = (12, ⟨n, init ++ [f], hi⟩) := by simp [AM.push, h2]
      rw [e1]; exact ⟨he, stay hA n'⟩
    · have hlt : f.laid.length < f.size := by have := h.ok.laid_le f (by simp); omega
      have e1 : AM.push ⟨n, init ++ [f], hi⟩ v = (0, ⟨n, init ++ [⟨f.size, f.laid ++ [v]⟩], hi⟩) := by simp [AM.push, h2]
      rw [e1]
      exact (push_yes h hlt v).mono fun e w' ⟨he, ht⟩ => ⟨he, ht.obj⟩

theorem pop_m (h : AObj w p m F) :
    Calls Try.prog 21 #[.pointer (some ⟨p, 0, none⟩)] w fun e w' => e = .returned (.tuple #[.int .i64 m.pop.1, .int .i64 m.pop.2.1]) ∧ ∃ F', AObj w' p m.pop.2.2 F' ∧ Moves F F' w w' := by
  have hA := h
  obtain ⟨wb, fv, h, rfl⟩ := h
  by_cases h1 : m.frs = []
  · refine (pop_none h h1).mono fun e w' ⟨he, n, hw⟩ => ?_
    subst hw
    have e1 : m.pop = (0, 6, m) := by unfold AM.pop; rw [h1]; rfl
    rw [e1]; exact ⟨he, stay hA n⟩
  · obtain ⟨init, f, hm⟩ := last_of h1
    obtain ⟨n, frs, hi⟩ := m
    simp only at hm; subst hm
    by_cases h2 : f.laid = []
    · obtain ⟨s, l⟩ := f
      simp only at h2; subst h2
      refine (pop_empty h).mono fun e w' ⟨he, n', hw⟩ => ?_
      subst hw
      have e1 : AM.pop ⟨n, init ++ [⟨s, []⟩], hi⟩ = (0, 10, ⟨n, init ++ [⟨s, []⟩], hi⟩) := by simp [AM.pop]
      rw [e1]; exact ⟨he, stay hA n'⟩
    · obtain ⟨l, v, hf⟩ := laid_of h2
      rw [hf] at h ⊢
      have e1 : AM.pop ⟨n, init ++ [⟨f.size, l ++ [v]⟩], hi⟩ = (v, 0, ⟨n, init ++ [⟨f.size, l⟩], hi⟩) := by simp [AM.pop]
      rw [e1]
      exact (pop_yes h).mono fun e w' ⟨he, ht⟩ => ⟨he, ht.obj⟩

theorem top_m (h : AObj w p m F) :
    Calls Try.prog 32 #[.pointer (some ⟨p, 0, none⟩)] w fun e w' => e = .returned (.tuple #[.int .i64 m.top.1, .bool m.top.2]) ∧ ∃ n, w' = w.drewN n := by
  obtain ⟨wb, fv, h, rfl⟩ := h
  by_cases h1 : m.frs = []
  · have e1 : m.top = (0, false) := by unfold AM.top; rw [h1]; rfl
    rw [e1]; exact top_none h h1
  · obtain ⟨init, f, hm⟩ := last_of h1
    obtain ⟨n, frs, hi⟩ := m
    simp only at hm; subst hm
    by_cases h2 : f.laid = []
    · obtain ⟨s, l⟩ := f
      simp only at h2; subst h2
      have e1 : AM.top ⟨n, init ++ [⟨s, []⟩], hi⟩ = (0, false) := by simp [AM.top]
      rw [e1]; exact top_empty h
    · obtain ⟨l, v, hf⟩ := laid_of h2
      rw [hf] at h ⊢
      have e1 : AM.top ⟨n, init ++ [⟨f.size, l ++ [v]⟩], hi⟩ = (v, true) := by simp [AM.top]
      rw [e1]; exact top_yes h

/-- What Frame tells of the frame number i. -/
def AM.frame (m : AM) (i : Int) : Option Fr := if i < 0 then none else m.frs[i.toNat]?

theorem frame_some (h : AObj w p m F) {i : Int} {f : Fr} (hf : AM.frame m i = some f) :
    Calls Try.prog 15 #[.pointer (some ⟨p, 0, none⟩), .int .i64 i] w fun e w' => ∃ v, e = .returned (.tuple #[v, .bool true]) ∧ Fresh w w' TI v f.laid.length (ints f.laid) := by
  obtain ⟨wb, fv, h, rfl⟩ := h
  unfold AM.frame at hf
  split at hf
  · cases hf
  · obtain ⟨k, rfl⟩ := Int.eq_ofNat_of_zero_le (show 0 ≤ i by omega)
    exact frame_yes h (by simpa using hf)
theorem frame_none (h : AObj w p m F) {i : Int} (hf : AM.frame m i = none) :
    Calls Try.prog 15 #[.pointer (some ⟨p, 0, none⟩), .int .i64 i] w fun e w' => e = .returned (.tuple #[.slice none 0 0, .bool false]) ∧ ∃ n, w' = w.drewN n := by
  obtain ⟨wb, fv, h, rfl⟩ := h
  unfold AM.frame at hf
  refine frame_no h i ?_
  split at hf
  · exact .inl (by assumption)
  · right; have := List.getElem?_eq_none_iff.1 hf; omega
theorem size_some (h : AObj w p m F) {i : Int} {f : Fr} (hf : AM.frame m i = some f) :
    Calls Try.prog 42 #[.pointer (some ⟨p, 0, none⟩), .int .i64 i] w fun e w' => e = .returned (.tuple #[.int .i64 f.size, .bool true]) ∧ ∃ n, w' = w.drewN n := by
  obtain ⟨wb, fv, h, rfl⟩ := h
  unfold AM.frame at hf
  split at hf
  · cases hf
  · obtain ⟨k, rfl⟩ := Int.eq_ofNat_of_zero_le (show 0 ≤ i by omega)
    exact size_yes h (by simpa using hf)
theorem size_none (h : AObj w p m F) {i : Int} (hf : AM.frame m i = none) :
    Calls Try.prog 42 #[.pointer (some ⟨p, 0, none⟩), .int .i64 i] w fun e w' => e = .returned (.tuple #[.int .i64 0, .bool false]) ∧ ∃ n, w' = w.drewN n := by
  obtain ⟨wb, fv, h, rfl⟩ := h
  unfold AM.frame at hf
  refine size_no h i ?_
  split at hf
  · exact .inl (by assumption)
  · right; have := List.getElem?_eq_none_iff.1 hf; omega
theorem words_m (h : AObj w p m F) :
    Calls Try.prog 17 #[.pointer (some ⟨p, 0, none⟩)] w fun e w' => ∃ v, e = .returned v ∧ Fresh w w' TI v m.n (ints m.words) := by
  obtain ⟨wb, fv, h, rfl⟩ := h; exact words_any h
theorem room_m (h : AObj w p m F) :
    Calls Try.prog 19 #[.pointer (some ⟨p, 0, none⟩)] w fun e w' => e = .returned (.int .i64 ((m.n : Int) - m.used)) ∧ ∃ n, w' = w.drewN n := by
  obtain ⟨wb, fv, h, rfl⟩ := h; exact room_any h
theorem used_m (h : AObj w p m F) :
    Calls Try.prog 18 #[.pointer (some ⟨p, 0, none⟩)] w fun e w' => e = .returned (.int .i64 m.used) ∧ w = w' := by
  obtain ⟨wb, fv, h, rfl⟩ := h; exact used_any h
theorem high_m (h : AObj w p m F) :
    Calls Try.prog 20 #[.pointer (some ⟨p, 0, none⟩)] w fun e w' => e = .returned (.int .i64 m.high) ∧ w = w' := by
  obtain ⟨wb, fv, h, rfl⟩ := h; exact high_any h
theorem depth_m (h : AObj w p m F) :
    Calls Try.prog 25 #[.pointer (some ⟨p, 0, none⟩)] w fun e w' => e = .returned (.int .i64 m.frs.length) ∧ w = w' := by
  obtain ⟨wb, fv, h, rfl⟩ := h; exact depth_any h
end

theorem new_m (w : World) (n : Nat) (hn : n ≤ 65536) :
    Calls Try.prog 11 #[.int .i64 n] w fun e w' => ∃ p F, e = .returned (.tuple #[.pointer (some ⟨p, 0, none⟩), .int .i64 0]) ∧ AObj w' p (AM.new n) F ∧ Moves (fun _ => False) F w w' := by
  refine (new_yes w n hn).mono fun e w' ⟨p, wb, he, h1, h2, h3, h4⟩ => ⟨p, _, he, ⟨wb, _, h3, rfl⟩, h4, ?_⟩
  rintro b (rfl | rfl | hb)
  · exact .inr h1
  · exact .inr h2
  · cases hb
end Go.Proofs.Ytjmbgfkigfbioaa
