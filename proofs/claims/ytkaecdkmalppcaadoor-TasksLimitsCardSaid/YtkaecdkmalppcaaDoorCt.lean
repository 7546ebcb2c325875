/-
  The steps of a program in plain data: parts, their ends. No program.
-/
import Derived.Test.YtkaecdkmalppcaaDoorCm
namespace Go
namespace Cm

theorem play_nil (f : Nat) (out : List Op) : play f [] out = (out, .go) := by cases f <;> rfl
theorem rep_congr {f g : List Op → List Op × Stt} (h : ∀ out, f out = g out) (was : Nat) : ∀ n out, rep f was n out = rep g was n out := by
  have : f = g := funext h
  rw [this]; exact fun _ _ => rfl
theorem play_fuel : ∀ {k : Nat} {f g : Nat} {p : List Op} (out : List Op), p.length ≤ k → p.length < f → p.length < g → play f p out = play g p out := by
  intro k
  induction k with
  | zero =>
    intro f g p out hk hf hg
    have : p = [] := List.length_eq_zero_iff.1 (by omega)
    subst this; rw [play_nil, play_nil]
  | succ k ih =>
    intro f g p out hk hf hg
    cases p with
    | nil => rw [play_nil, play_nil]
    | cons o p =>
      obtain ⟨f, rfl⟩ : ∃ f', f = f' + 1 := ⟨f - 1, by simp only [List.length_cons] at hf; omega⟩
      obtain ⟨g, rfl⟩ : ∃ g', g = g' + 1 := ⟨g - 1, by simp only [List.length_cons] at hg; omega⟩
      simp only [List.length_cons] at hk hf hg
      unfold play
      have hd : ∀ (j : Nat) (out : List Op), play f (p.drop j) out = play g (p.drop j) out := fun j out => ih out (by rw [List.length_drop]; omega) (by rw [List.length_drop]; omega) (by rw [List.length_drop]; omega)
      have ht : ∀ (j : Nat) (out : List Op), play f (p.take j) out = play g (p.take j) out := fun j out => ih out (by rw [List.length_take]; omega) (by rw [List.length_take]; omega) (by rw [List.length_take]; omega)
      have hp : ∀ (out : List Op), play f p out = play g p out := fun out => ih out (by omega) (by omega) (by omega)
      simp only [funext (ht (shut (o :: p) 0 - 1)), hd, hp]
/-- The steps of a part. -/
def playS (p : List Op) (out : List Op) : List Op × Stt := play (p.length + 1) p out
theorem playS_nil (out : List Op) : playS [] out = (out, .go) := rfl
theorem playS_rep {o : Op} {p : List Op} (out : List Op) (h : o.kind = 10) : playS (o :: p) out =
    match rep (playS (p.take (shut (o :: p) 0 - 1))) out.length o.n.toNat out with
    | (out', .go) => playS (p.drop (shut (o :: p) 0)) out'
    | (out', s) => (out', s) := by
  unfold playS
  rw [List.length_cons]
  conv => lhs; unfold play
  rw [if_pos h]
  have ht : ∀ (j : Nat), (fun out => play (p.length + 1) (p.take j) out) = fun out => play ((p.take j).length + 1) (p.take j) out := fun j => funext fun out => play_fuel (k := p.length) out (by rw [List.length_take]; omega) (by rw [List.length_take]; omega) (by omega)
  have hd : ∀ (j : Nat) (out : List Op), play (p.length + 1) (p.drop j) out = play ((p.drop j).length + 1) (p.drop j) out := fun j out => play_fuel (k := p.length) out (by rw [List.length_drop]; omega) (by rw [List.length_drop]; omega) (by omega)
  simp only [ht, hd]
  rfl
theorem playS_work {o : Op} {p : List Op} (out : List Op) (h : o.kind = 5) : playS (o :: p) out =
    match times work o.n.toNat out with
    | (out', .go) => playS p out'
    | (out', s) => (out', s) := by
  unfold playS
  rw [List.length_cons]
  conv => lhs; unfold play
  rw [if_neg (by omega), if_pos h]
  rfl
theorem playS_one {o : Op} {p : List Op} (out : List Op) (h : o.kind ≠ 10) (h5 : o.kind ≠ 5) : playS (o :: p) out =
    match step o out with
    | (out', .go) => playS p out'
    | (out', s) => (out', s) := by
  unfold playS
  rw [List.length_cons]
  conv => lhs; unfold play
  rw [if_neg h, if_neg h5]
  rfl

/-- Does the depth come back to nothing, and never below. -/
def bal : List Op → Nat → Bool
  | [], d => d == 0
  | o :: p, d => if o.kind = 10 then bal p (d + 1) else if o.kind = 11 then (if d = 0 then false else bal p (d - 1)) else bal p d
theorem bal_10 {o : Op} (p : List Op) (d : Nat) (h : o.kind = 10) : bal (o :: p) d = bal p (d + 1) := by conv => lhs; unfold bal; rw [if_pos h]
theorem bal_11 {o : Op} (p : List Op) (d : Nat) (h : o.kind = 11) : bal (o :: p) d = if d = 0 then false else bal p (d - 1) := by conv => lhs; unfold bal; rw [if_neg (by omega), if_pos h]
theorem bal_no {o : Op} (p : List Op) (d : Nat) (h : o.kind ≠ 10) (h' : o.kind ≠ 11) : bal (o :: p) d = bal p d := by conv => lhs; unfold bal; rw [if_neg h, if_neg h']
theorem shut_10 {o : Op} (p : List Op) (d : Nat) (h : o.kind = 10) : shut (o :: p) d = shut p (d + 1) + 1 := by
  conv => lhs; unfold shut
  simp only [if_pos h]; rw [if_neg (by omega)]
theorem shut_11 {o : Op} (p : List Op) (d : Nat) (h : o.kind = 11) : shut (o :: p) d = if d - 1 = 0 then 0 else shut p (d - 1) + 1 := by
  conv => lhs; unfold shut
  simp only [if_neg (show ¬ o.kind = 10 by omega), if_pos h]
theorem shut_no {o : Op} (p : List Op) (d : Nat) (h : o.kind ≠ 10) (h' : o.kind ≠ 11) (hd : 0 < d) : shut (o :: p) d = shut p d + 1 := by
  conv => lhs; unfold shut
  simp only [if_neg h, if_neg h']; rw [if_neg (by omega)]
/-- The part that begins one deep is shut by its end: body, end, rest. -/
theorem bal_shut : ∀ (p : List Op) (d : Nat), 0 < d → bal p d = true → ∃ (b : List Op) (e : Op) (r : List Op), p = b ++ e :: r ∧ e.kind = 11 ∧ (∀ q, shut (b ++ e :: q) d = b.length) ∧ bal b (d - 1) = true ∧ bal r 0 = true := by
  intro p
  induction p with
  | nil => intro d hd h; unfold bal at h; simp only [beq_iff_eq] at h; omega
  | cons o p ih =>
    intro d hd h
    by_cases h10 : o.kind = 10
    · rw [bal_10 p d h10] at h
      obtain ⟨b, e, r, rfl, he, hs, hb, hr⟩ := ih (d + 1) (by omega) h
      refine ⟨o :: b, e, r, rfl, he, fun q => ?_, ?_, hr⟩
      · rw [List.cons_append, shut_10 _ d h10, hs]; rfl
      · rw [bal_10 b _ h10, show d - 1 + 1 = d + 1 - 1 by omega]; exact hb
    · by_cases h11 : o.kind = 11
      · rw [bal_11 p d h11, if_neg (by omega)] at h
        by_cases h1 : d = 1
        · subst h1
          exact ⟨[], o, p, rfl, h11, fun q => by rw [List.nil_append, shut_11 q 1 h11]; rfl, rfl, h⟩
        · obtain ⟨b, e, r, rfl, he, hs, hb, hr⟩ := ih (d - 1) (by omega) h
          refine ⟨o :: b, e, r, rfl, he, fun q => ?_, ?_, hr⟩
          · rw [List.cons_append, shut_11 _ d h11, if_neg (by omega), hs]; rfl
          · rw [bal_11 b _ h11, if_neg (by omega)]; exact hb
      · rw [bal_no p d h10 h11] at h
        obtain ⟨b, e, r, rfl, he, hs, hb, hr⟩ := ih d hd h
        refine ⟨o :: b, e, r, rfl, he, fun q => ?_, ?_, hr⟩
        · rw [List.cons_append, shut_no _ d h10 h11 hd, hs]; rfl
        · rw [bal_no b _ h10 h11]; exact hb

/-- Where the repeat at i ends. -/
def endE (q : List Op) (i : Nat) : Nat := i + shut (q.drop i) 0
def seg (q : List Op) (i to : Nat) : List Op := (q.take to).drop i
theorem seg_end (q : List Op) {i to : Nat} (h : to ≤ i) : seg q i to = [] := List.drop_eq_nil_of_le (by rw [List.length_take]; omega)
theorem seg_cons {q : List Op} {i to : Nat} {o : Op} (ho : q[i]? = some o) (h : i < to) : seg q i to = o :: seg q (i + 1) to := by
  have hl := (List.getElem?_eq_some_iff.1 ho)
  have hi : i < (q.take to).length := by rw [List.length_take]; have := hl.1; omega
  unfold seg
  rw [List.drop_eq_getElem_cons hi, List.getElem_take, hl.2]
theorem seg_len (q : List Op) {i to : Nat} (h : to ≤ q.length) : (seg q i to).length = to - i := by
  unfold seg; rw [List.length_drop, List.length_take]; omega
theorem seg_all (q : List Op) : seg q 0 q.length = q := by unfold seg; rw [List.take_length, List.drop_zero]
theorem drop_seg (q : List Op) {i to : Nat} (h : i ≤ to) (ht : to ≤ q.length) : q.drop i = seg q i to ++ q.drop to := by
  unfold seg
  conv => lhs; rw [← List.take_append_drop to q]
  rw [List.drop_append_of_le_length (by rw [List.length_take]; omega)]
theorem seg_cut {q b r : List Op} {e : Op} {i to : Nat} (ht : to ≤ q.length) (h : seg q i to = b ++ e :: r) :
    seg q i (i + b.length) = b ∧ seg q (i + b.length + 1) to = r ∧ i + b.length < to ∧ q[i + b.length]? = some e := by
  have hl : to - i = b.length + (r.length + 1) := by rw [← seg_len q ht, h]; simp
  have h1 : i + b.length < to := by omega
  have e1 : seg q i (i + b.length) = (seg q i to).take b.length := by
    unfold seg
    rw [List.take_drop, List.take_take]; congr 2; omega
  have e2 : seg q (i + b.length + 1) to = (seg q i to).drop (b.length + 1) := by
    unfold seg; rw [List.drop_drop]; rfl
  refine ⟨?_, ?_, h1, ?_⟩
  · rw [e1, h, List.take_left']; rfl
  · rw [e2, h, show b ++ e :: r = (b ++ [e]) ++ r by simp, List.drop_left']; simp
  · have : (seg q i to)[b.length]? = some e := by rw [h]; simp
    unfold seg at this
    rw [List.getElem?_drop, List.getElem?_take_of_lt h1] at this; exact this
/-- A repeat in a balanced part: its body and what follows are balanced, and the steps. -/
theorem seg_rep {q : List Op} {i to : Nat} {o : Op} (ht : to ≤ q.length) (ho : q[i]? = some o) (hi : i < to) (h10 : o.kind = 10) (hb : bal (seg q i to) 0 = true) :
    i + 1 ≤ endE q i ∧ endE q i < to ∧ bal (seg q (i + 1) (endE q i)) 0 = true ∧ bal (seg q (endE q i + 1) to) 0 = true ∧
    ∀ out, playS (seg q i to) out = match rep (playS (seg q (i + 1) (endE q i))) out.length o.n.toNat out with
      | (out', .go) => playS (seg q (endE q i + 1) to) out'
      | (out', s) => (out', s) := by
  rw [seg_cons ho hi] at hb ⊢
  rw [bal_10 _ _ h10] at hb
  obtain ⟨b, e, r, hp, he, hs, hb1, hr1⟩ := bal_shut _ 1 (by omega) hb
  obtain ⟨k1, k2, k3, k4⟩ := seg_cut ht hp
  have hE : endE q i = i + 1 + b.length := by
    unfold endE
    rw [drop_seg q (Nat.le_of_lt hi) ht, seg_cons ho hi, hp, List.cons_append, shut_10 _ 0 h10, List.append_assoc, List.cons_append, hs]; omega
  rw [hE]
  refine ⟨by omega, k3, by rw [k1]; exact hb1, by rw [k2]; exact hr1, fun out => ?_⟩
  rw [playS_rep out h10, hp, shut_10 _ 0 h10, hs, k1, k2]
  have e1 : List.take (b.length + 1 - 1) (b ++ e :: r) = b := by rw [Nat.add_sub_cancel, List.take_left']; rfl
  have e2 : List.drop (b.length + 1) (b ++ e :: r) = r := by rw [show b ++ e :: r = (b ++ [e]) ++ r by simp, List.drop_left']; simp
  rw [e1, e2]
theorem seg_other {q : List Op} {i to : Nat} {o : Op} (ho : q[i]? = some o) (hi : i < to) (h10 : o.kind ≠ 10) (hb : bal (seg q i to) 0 = true) : o.kind ≠ 11 ∧ bal (seg q (i + 1) to) 0 = true := by
  rw [seg_cons ho hi] at hb
  by_cases h11 : o.kind = 11
  · rw [bal_11 _ _ h11, if_pos rfl] at hb; cases hb
  · rw [bal_no _ _ h10 h11] at hb; exact ⟨h11, hb⟩

/-- One after the other, while it goes. -/
def thn (r : List Op × Stt) (f : List Op → List Op × Stt) : List Op × Stt := match r with | (o, .go) => f o | (o, s) => (o, s)
theorem thn_go (o : List Op) (f : List Op → List Op × Stt) : thn (o, .go) f = f o := rfl
theorem thn_no {o : List Op} {s : Stt} (f : List Op → List Op × Stt) (h : s ≠ .go) : thn (o, s) f = (o, s) := by cases s <;> first | rfl | exact absurd rfl h
theorem thn_thn (r : List Op × Stt) (f g : List Op → List Op × Stt) : thn (thn r f) g = thn r fun o => thn (f o) g := by obtain ⟨o, s⟩ := r; cases s <;> rfl
theorem times_more (o : Op) (n : Nat) (out : List Op) : times o (n + 1) out = thn (step o out) (times o n) := rfl
theorem rep_more (f : List Op → List Op × Stt) (was n : Nat) (out : List Op) : rep f was (n + 1) out = thn (f out) fun out' => if out'.length = was then (out', .go) else rep f was n out' := rfl
theorem step_full {o : Op} {out : List Op} (h : out.length = 4096) : step o out = (out, .long) := by unfold step; rw [if_pos h]
theorem step_room {o : Op} {out : List Op} (h : out.length ≠ 4096) (h9 : o.kind ≠ 9) : step o out = (out ++ [o], .go) := by unfold step; rw [if_neg h, if_neg h9]
theorem step_last {o : Op} {out : List Op} (h : out.length ≠ 4096) (h9 : o.kind = 9) : step o out = (out ++ [o], .done) := by unfold step; rw [if_neg h, if_pos h9]
theorem step_len {o : Op} {out : List Op} (h : out.length ≤ 4096) : (step o out).1.length ≤ 4096 := by
  unfold step; split
  · exact h
  · simp; omega
theorem thn_len {r : List Op × Stt} {f : List Op → List Op × Stt} (h : r.1.length ≤ 4096) (hf : ∀ o : List Op, o.length ≤ 4096 → (f o).1.length ≤ 4096) : (thn r f).1.length ≤ 4096 := by
  obtain ⟨o, s⟩ := r; cases s
  · exact hf o h
  · exact h
  · exact h
theorem times_len (o : Op) : ∀ (n : Nat) (out : List Op), out.length ≤ 4096 → (times o n out).1.length ≤ 4096
  | 0, _, h => h
  | n + 1, _, h => by rw [times_more]; exact thn_len (step_len h) (times_len o n)
theorem rep_len {f : List Op → List Op × Stt} (hf : ∀ o : List Op, o.length ≤ 4096 → (f o).1.length ≤ 4096) (was : Nat) : ∀ (n : Nat) (out : List Op), out.length ≤ 4096 → (rep f was n out).1.length ≤ 4096
  | 0, _, h => h
  | n + 1, _, h => by
    rw [rep_more]
    refine thn_len (hf _ h) fun o ho => ?_
    split
    · exact ho
    · exact rep_len hf was n o ho
theorem play_len : ∀ (f : Nat) (p out : List Op), out.length ≤ 4096 → (play f p out).1.length ≤ 4096
  | 0, _, _, h => h
  | f + 1, [], _, h => h
  | f + 1, o :: p, out, h => by
    unfold play
    split
    · exact thn_len (rep_len (fun o ho => play_len f _ o ho) _ _ _ h) fun o ho => play_len f _ o ho
    · split
      · exact thn_len (times_len _ _ _ h) fun o ho => play_len f _ o ho
      · exact thn_len (step_len h) fun o ho => play_len f _ o ho
theorem playS_len (p out : List Op) (h : out.length ≤ 4096) : (playS p out).1.length ≤ 4096 := play_len _ p out h
theorem seg_rep_thn {q : List Op} {i to : Nat} {o : Op} (ht : to ≤ q.length) (ho : q[i]? = some o) (hi : i < to) (h10 : o.kind = 10) (hb : bal (seg q i to) 0 = true) (out : List Op) :
    playS (seg q i to) out = thn (rep (playS (seg q (i + 1) (endE q i))) out.length o.n.toNat out) (playS (seg q (endE q i + 1) to)) := (seg_rep ht ho hi h10 hb).2.2.2.2 out
theorem seg_work_thn {q : List Op} {i to : Nat} {o : Op} (ho : q[i]? = some o) (hi : i < to) (h : o.kind = 5) (out : List Op) :
    playS (seg q i to) out = thn (times work o.n.toNat out) (playS (seg q (i + 1) to)) := by rw [seg_cons ho hi]; exact playS_work out h
theorem seg_one_thn {q : List Op} {i to : Nat} {o : Op} (ho : q[i]? = some o) (hi : i < to) (h : o.kind ≠ 10) (h5 : o.kind ≠ 5) (out : List Op) :
    playS (seg q i to) out = thn (step o out) (playS (seg q (i + 1) to)) := by rw [seg_cons ho hi]; exact playS_one out h h5

/-- Where the repeats end, as the walk through a program finds it: from the place i on, with the open ones. -/
def endsF : List Op → Nat → List Nat → List Nat → List Nat
  | [], _, _, A => A
  | o :: p, i, st, A => if o.kind = 10 then endsF p (i + 1) (st ++ [i]) A else if o.kind = 11 then endsF p (i + 1) st.dropLast (A.set (st.getLast?.getD 0) i) else endsF p (i + 1) st A
theorem endsF_10 {o : Op} (p : List Op) (i : Nat) (st A : List Nat) (h : o.kind = 10) : endsF (o :: p) i st A = endsF p (i + 1) (st ++ [i]) A := by conv => lhs; unfold endsF; rw [if_pos h]
theorem endsF_11 {o : Op} (p : List Op) (i : Nat) (st A : List Nat) (h : o.kind = 11) : endsF (o :: p) i st A = endsF p (i + 1) st.dropLast (A.set (st.getLast?.getD 0) i) := by conv => lhs; unfold endsF; rw [if_neg (by omega), if_pos h]
theorem endsF_no {o : Op} (p : List Op) (i : Nat) (st A : List Nat) (h : o.kind ≠ 10) (h' : o.kind ≠ 11) : endsF (o :: p) i st A = endsF p (i + 1) st A := by conv => lhs; unfold endsF; rw [if_neg h, if_neg h']
theorem endsF_len : ∀ (p : List Op) (i : Nat) (st A : List Nat), (endsF p i st A).length = A.length
  | [], _, _, _ => rfl
  | o :: p, i, st, A => by
    unfold endsF
    split
    · exact endsF_len p _ _ _
    · split
      · rw [endsF_len p, List.length_set]
      · exact endsF_len p _ _ _
theorem ends_right (q : List Op) : ∀ (p : List Op) (i : Nat) (st A : List Nat), q.drop i = p → i ≤ q.length → bal p st.length = true → A.length = q.length → (∀ s ∈ st, s < i) →
    (∀ j o, j < i → q[j]? = some o → o.kind = 10 → j ∉ st → A[j]? = some (endE q j)) → (∀ k s, st[k]? = some s → endE q s = i + shut p (st.length - k)) →
    ∀ j o, q[j]? = some o → o.kind = 10 → (endsF p i st A)[j]? = some (endE q j) := by
  intro p
  induction p with
  | nil =>
    intro i st A hp hi hb hA hst h1 h2 j o hj h10
    unfold bal at hb
    have hs : st = [] := List.length_eq_zero_iff.1 (by simpa using hb)
    subst hs
    have hlt := (List.getElem?_eq_some_iff.1 hj).1
    have hle : q.length ≤ i := List.drop_eq_nil_iff.1 hp
    exact h1 j o (by omega) hj h10 (by simp)
  | cons o p ih =>
    intro i st A hp hi hb hA hst h1 h2
    have hlt : i < q.length := by
      have := congrArg List.length hp
      rw [List.length_drop, List.length_cons] at this; omega
    have hp' : q.drop (i + 1) = p := by rw [← List.drop_drop, hp]; rfl
    have hqi : q[i]? = some o := by
      have : (q.drop i)[0]? = some o := by rw [hp]; rfl
      rwa [List.getElem?_drop, Nat.add_zero] at this
    by_cases h10 : o.kind = 10
    · rw [endsF_10 p i st A h10]
      rw [bal_10 p _ h10] at hb
      refine ih (i + 1) (st ++ [i]) A hp' (by omega) (by simpa using hb) hA (fun s hs => ?_) (fun j o' hj hjo hk hns => ?_) (fun k s hk => ?_)
      · rcases List.mem_append.1 hs with hs | hs
        · have := hst s hs; omega
        · have := List.mem_singleton.1 hs; omega
      · simp only [List.mem_append, List.mem_singleton, not_or] at hns
        exact h1 j o' (by omega) hjo hk hns.1
      · by_cases hk2 : k < st.length
        · rw [List.getElem?_append_left hk2] at hk
          have := h2 k s hk
          rw [shut_10 p _ h10] at this
          rw [this, List.length_append, List.length_singleton, show st.length + 1 - k = st.length - k + 1 by omega]; omega
        · rw [List.getElem?_append_right (by omega)] at hk
          have hk0 : k = st.length := by
            have := (List.getElem?_eq_some_iff.1 hk).1
            simp only [List.length_singleton] at this; omega
          subst hk0
          rw [Nat.sub_self] at hk
          have hk : i = s := by simpa using hk
          subst hk
          unfold endE
          rw [hp, shut_10 p 0 h10, List.length_append, List.length_singleton, Nat.add_sub_cancel_left, Nat.zero_add]; omega
    · by_cases h11 : o.kind = 11
      · rw [endsF_11 p i st A h11]
        rw [bal_11 p _ h11] at hb
        by_cases hs0 : st.length = 0
        · rw [if_pos hs0] at hb; cases hb
        rw [if_neg hs0] at hb
        obtain ⟨st, t, rfl⟩ : ∃ l t, st = l ++ [t] := ⟨st.dropLast, st.getLast (by intro e; rw [e] at hs0; exact hs0 rfl), (List.dropLast_concat_getLast _).symm⟩
        simp only [List.length_append, List.length_singleton, Nat.add_sub_cancel] at hb hs0
        rw [List.dropLast_concat, List.getLast?_concat, Option.getD_some]
        have ht : t < i := hst t (by simp)
        have het : endE q t = i := by
          have := h2 st.length t (by simp)
          rw [List.length_append, List.length_singleton, Nat.add_sub_cancel_left, shut_11 p 1 h11] at this
          simpa using this
        refine ih (i + 1) st (A.set t i) hp' (by omega) hb (by rw [List.length_set, hA]) (fun s hs => ?_) (fun j o' hj hjo hk hns => ?_) (fun k s hk => ?_)
        · have := hst s (by simp [hs]); omega
        · by_cases hjt : j = t
          · subst hjt
            rw [List.getElem?_set_self (by omega), het]
          · rw [List.getElem?_set_ne (fun e => hjt e.symm)]
            by_cases hji : j = i
            · subst hji
              rw [hqi] at hjo; cases hjo; exact absurd hk h10
            · exact h1 j o' (by omega) hjo hk (by simp [hns, hjt])
        · have hk2 := (List.getElem?_eq_some_iff.1 hk).1
          have := h2 k s (by rw [List.getElem?_append_left hk2]; exact hk)
          rw [List.length_append, List.length_singleton, shut_11 p _ h11, if_neg (by omega)] at this
          rw [this, show st.length + 1 - k - 1 = st.length - k by omega]; omega
      · rw [endsF_no p i st A h10 h11]
        rw [bal_no p _ h10 h11] at hb
        refine ih (i + 1) st A hp' (by omega) hb hA (fun s hs => by have := hst s hs; omega) (fun j o' hj hjo hk hns => ?_) (fun k s hk => ?_)
        · by_cases hji : j = i
          · subst hji
            rw [hqi] at hjo; cases hjo; exact absurd hk h10
          · exact h1 j o' (by omega) hjo hk hns
        · have hk2 := (List.getElem?_eq_some_iff.1 hk).1
          have := h2 k s hk
          rw [shut_no p _ h10 h11 (by omega)] at this
          rw [this]; omega
theorem ends_all (q : List Op) (hb : bal q 0 = true) (j : Nat) (o : Op) (hj : q[j]? = some o) (h10 : o.kind = 10) : (endsF q 0 [] (List.replicate q.length 0))[j]? = some (endE q j) :=
  ends_right q q 0 [] _ rfl (Nat.zero_le _) hb (by simp) (by simp) (fun j o h => by omega) (fun k s h => by simp at h) j o hj h10

theorem checkF_cons (len : Nat) (o : Op) (p : List Op) (i : Nat) (opn : Int) : checkFrom len (o :: p) i opn =
    if fieldsOk o = false then ((i : Int), 30)
    else if o.kind = 10 then (if opn = 4 then ((i : Int), 32) else checkFrom len p (i + 1) (opn + 1))
    else if o.kind = 11 then (if opn = 0 then ((i : Int), 31) else checkFrom len p (i + 1) (opn - 1))
    else checkFrom len p (i + 1) opn := rfl
theorem checkFrom_ok (len : Nat) : ∀ (p : List Op) (i d : Nat), (checkFrom len p i d).2 = 0 → (checkFrom len p i d).1 = 0 ∧ bal p d = true ∧ ∀ o ∈ p, fieldsOk o = true := by
  intro p
  induction p with
  | nil =>
    intro i d h
    unfold checkFrom at *
    by_cases hd : (0 : Int) < d
    · rw [if_pos hd] at h; cases h
    · rw [if_neg hd]
      refine ⟨rfl, ?_, by simp⟩
      unfold bal; simp; omega
  | cons o p ih =>
    intro i d h
    rw [checkF_cons] at h ⊢
    by_cases hf : fieldsOk o = false
    · rw [if_pos hf] at h; cases h
    rw [if_neg hf] at h ⊢
    have hf : fieldsOk o = true := by simpa using hf
    have all : (∀ o' ∈ p, fieldsOk o' = true) → ∀ o' ∈ o :: p, fieldsOk o' = true := fun ha o' ho' => by
      rcases List.mem_cons.1 ho' with rfl | h'
      · exact hf
      · exact ha _ h'
    by_cases h10 : o.kind = 10
    · rw [if_pos h10] at h ⊢
      by_cases h4 : (d : Int) = 4
      · rw [if_pos h4] at h; cases h
      rw [if_neg h4] at h ⊢
      have := ih (i + 1) (d + 1) h
      exact ⟨this.1, by rw [bal_10 p d h10]; exact this.2.1, all this.2.2⟩
    · rw [if_neg h10] at h ⊢
      by_cases h11 : o.kind = 11
      · rw [if_pos h11] at h ⊢
        by_cases h4 : (d : Int) = 0
        · rw [if_pos h4] at h; cases h
        rw [if_neg h4] at h ⊢
        rw [show (d : Int) - 1 = ((d - 1 : Nat) : Int) by omega] at h ⊢
        have := ih (i + 1) (d - 1) h
        exact ⟨this.1, by rw [bal_11 p d h11, if_neg (by omega)]; exact this.2.1, all this.2.2⟩
      · rw [if_neg h11] at h ⊢
        have := ih (i + 1) d h
        exact ⟨this.1, by rw [bal_no p d h10 h11]; exact this.2.1, all this.2.2⟩
theorem check_ok {p : List Op} (h : (check p).2 = 0) : check p = (0, 0) ∧ p.length ≤ 256 ∧ bal p 0 = true ∧ ∀ o ∈ p, fieldsOk o = true := by
  unfold check at *
  by_cases hl : 256 < p.length
  · rw [if_pos hl] at h; cases h
  rw [if_neg hl] at h ⊢
  have := checkFrom_ok p.length p 0 0 h
  exact ⟨Prod.ext this.1 h, by omega, this.2⟩
theorem fieldsOk_kind {o : Op} (h : fieldsOk o = true) : 1 ≤ o.kind ∧ o.kind ≤ 11 := by
  unfold fieldsOk at h
  by_cases hk : o.kind < 1 ∨ 11 < o.kind
  · rw [if_pos hk] at h; cases h
  · omega
theorem fieldsOk_n {o : Op} (h : fieldsOk o = true) : o.n ≤ 4096 := by
  unfold fieldsOk at h
  by_cases hk : o.kind < 1 ∨ 11 < o.kind
  · rw [if_pos hk] at h; cases h
  rw [if_neg hk] at h
  unfold fieldsH at h
  split at h <;> simp only [Bool.and_eq_true, decide_eq_true_eq] at h <;> omega
end Cm
end Go
