/-
  copy, and append of zero values, in blocks known whole, for elements of several cells.
-/
import Derived.Test.YtkaecdkmalppcaaDoorSlo
import Derived.Lib.Overlaps
import Derived.Lib.AppendZerosOnto
import Derived.Lib.AppendZeros
namespace Go
namespace Kw
open Go.RowKit

theorem run_copyS {P : Program} {w : World} (dT sT ty elem : TypeId) (size : Nat) {b : Nat} {xs : List Value} (hb : Blk w b elem xs) (o dLen dCap : Nat) (a : Addr) (sLen sCap : Nat) (cs : List Value)
    (hu : P.underlying dT = some (.slice elem)) (hs : (P.info? elem).map (·.size) = some size) (hn : cs.length = Nat.min sLen dLen * size)
    (hsrc : ∀ (j : Nat) v, cs[j]? = some v → w.cell? (a.add j) = some v) (hfit : o + cs.length ≤ xs.length) (h1 : ∀ v ∈ cs, v.oneCell' = true) :
    (Builtin.copy_ #[dT, sT] ty #[.slice (some ⟨b, o, none⟩) dLen dCap, .slice (some a) sLen sCap]).run P w = .ok (goInt (Nat.min sLen dLen)) (w.setRow b (xs.take o ++ cs ++ xs.drop (o + cs.length)).toArray) := by
  have hl := run_loadCells_list (P := P) w a cs hsrc
  have hst := run_storeCells_at P b o elem cs 0 xs.toArray w hb (by simpa using hfit) h1
  simp only [Nat.add_zero] at hst
  cases hq : P.info? elem with
  | none => simp [hq] at hs
  | some i =>
    have hi : i.size = size := by simpa [hq] using hs
    simp [Builtin.copy_, run_underlying hu, Builtin.lenOf, Builtin.firstCells, sizeOf, typeInfo, hq, hi, ← hn, hl, hst]

theorem wpList_copyS {P : Program} {w : World} {ops : Array Oper} {rest : List Oper} {op : Oper} {a : Act} {Q : Exit → Act → World → Prop} (d s : Operand) (dT sT elem : TypeId) (size : Nat)
    (hu : P.underlying dT = some (.slice elem)) (hs : (P.info? elem).map (·.size) = some size) (hgd : op.guard = none) (ho : op.op = .call { callee := .builtin .copy, args := #[d, s], argTypes := #[dT, sT] })
    {b : Nat} {xs : List Value} (hb : Blk w b elem xs) (o dLen dCap : Nat) (ad : Addr) (sLen sCap : Nat) (cs : List Value)
    (hd : a.eval d = .slice (some ⟨b, o, none⟩) dLen dCap) (hx : a.eval s = .slice (some ad) sLen sCap) (hn : cs.length = Nat.min sLen dLen * size)
    (hsrc : ∀ (j : Nat) v, cs[j]? = some v → w.cell? (ad.add j) = some v) (hfit : o + cs.length ≤ xs.length) (h1 : ∀ v ∈ cs, v.oneCell' = true)
    (h : ∀ w', Blk w' b elem (xs.take o ++ cs ++ xs.drop (o + cs.length)) → Keeps (fun k => k = b) w w' → w'.heap.size = w.heap.size → wpList P ops Q rest (a.put op.dst (goInt (Nat.min sLen dLen))) w') : wpList P ops Q (op :: rest) a w := by
  refine wpList_plain hgd fun K hK => ?_
  have hr := run_copyS (P := P) dT sT op.type elem size hb o dLen dCap ad sLen sCap cs hu hs hn hsrc hfit h1
  unfold Oper.wp execOp
  simp only [ho, resolve, invoke, builtin, Sem.run_bind, Sem.run_pure, Result.andThen_ok, List.map_toArray, List.map_cons, List.map_nil, hd, hx, hr]
  exact hK _ _ (h _ (hb.row _) ((Keeps.refl (fun k => k = b) w).setRow (.inl rfl) _) (by simp))

/-- A block's cells as a slice that owns its row. -/
theorem Own.of_blk {w : World} {T : TypeId} {sz g n cap : Nat} {xs : List Value} (h : Blk w g T xs) (hl : xs.length = cap * sz) (hn : n ≤ cap) (hm : cap ≤ maxLen) : Own w T sz (.slice (some ⟨g, 0, none⟩) n cap) n (xs.take (n * sz)) := by
  have := Nat.mul_le_mul_right sz hn
  exact ⟨by rw [List.length_take]; omega, .inr ⟨g, cap, xs.toArray, rfl, Nat.zero_le _, h, hn, hm, by simpa using hl, by simp⟩⟩
theorem Own.to_blk {w : World} {T : TypeId} {sz g n cap : Nat} {xs : List Value} (h : Own w T sz (.slice (some ⟨g, 0, none⟩) n cap) n xs) : ∃ cur, Blk w g T cur ∧ cur.length = cap * sz ∧ n ≤ cap ∧ cap ≤ maxLen ∧ cur.take (n * sz) = xs := by
  rcases h.2 with ⟨e, _⟩ | ⟨g', cap', cur, e, _, hh, hn, hm, hs, ht⟩
  · cases e
  · cases e
    exact ⟨cur.toList, by unfold Blk; simpa using hh, by simpa using hs, hn, hm, ht⟩
theorem shape_blk {w : World} {b : Nat} {T : TypeId} {xs : List Value} (h : Blk w b T xs) : w.shape? b = some (T, xs.length) := by
  unfold Blk at h; simp [World.shape?, h]

/-- 'append(s, make(S, k)...)' that must grow. -/
theorem wpList_app_zeros {P : Program} {w : World} {ops : Array Oper} {rest : List Oper} {o : Oper} {a : Act} {Q : Exit → Act → World → Prop} (s x : Operand) (t tn e : TypeId) (z : Value) (size bytes : Nat) (kq kn : IntKind)
    (hinfo : (P.info? e).map (fun i => (i.zero, i.size, i.bytes)) = some (some z, size, bytes)) (ht : P.underlying t = some (.slice e)) (htn : P.underlying tn = some (.int kn)) (hzs : z.cells.size = size) (hsz : 0 < size)
    (hgd : o.guard = none) (ho : o.op = .call { callee := .builtin .append, args := #[s, x], argTypes := #[t, tn] })
    (g n cap : Nat) (olds : List Value) (hs : a.eval s = .slice (some ⟨g, 0, none⟩) n cap) (hol : olds.length = n * size) (holds : ∀ (j : Nat) u, olds[j]? = some u → w.cell? ⟨g, j, none⟩ = some u)
    (k N : Nat) (hN : n + k = N) (h0 : 0 < k) (hx : a.eval x = .int kq k) (hg : cap < n + k) (h63 : n + k ≤ maxLen) (hbytes : (n + k) * bytes ≤ 140737488355328)
    (h : ∀ g' G w' zs, Blk w' g' e (olds ++ zs) → (olds ++ zs).length = G * size → N ≤ G → G ≤ maxLen → g' = w.heap.size → Keeps (fun _ => False) w w' → wpList P ops Q rest (a.put o.dst (.slice (some ⟨g', 0, none⟩) N G)) w') : wpList P ops Q (o :: rest) a w := by
  subst hN
  obtain ⟨i, hi, hz0, hz1, hz2⟩ := info_parts hinfo
  have h63' : ((n + k : Nat) : Int) ≤ 9223372036854775807 := by simp only [maxLen] at h63; omega
  have hold : (Builtin.firstCells i.size n (.slice (some ⟨g, 0, none⟩) n cap)).run P w.drew = .ok olds.toArray w.drew := by
    rw [hz1]
    exact run_firstCells_some w.drew size n ⟨g, 0, none⟩ n cap olds hol (fun j v hj => by rw [add_at, Nat.zero_add]; exact holds j v hj)
  have hkb : k * bytes ≤ (n + k) * bytes := Nat.mul_le_mul_right _ (by omega)
  have hr := Lib.run_append_grow_zeros w t tn o.type e i z kq kn ht htn hi hz0 (some ⟨g, 0, none⟩) n cap olds hold k h0 (by omega) hg h63' (by rw [hz2]; omega) (by rw [hz2]; exact growslice_fits hg hbytes)
  refine wpList_plain hgd fun K hK => ?_
  unfold Oper.wp execOp
  simp only [ho, resolve, invoke, builtin, Sem.run_bind, Sem.run_pure, Result.andThen_ok, List.map_toArray, List.map_cons, List.map_nil, hs, hx, hr]
  have hge := grownCap_ge w (n + k) cap e
  have hcm : grownCap w (n + k) cap e ≤ maxLen := grownCap_le_maxLen w (n + k) cap e h63
  refine hK _ _ (h w.heap.size (grownCap w (n + k) cap e) _ ((Builtin.zeroCells z.cells k ++ Builtin.zeroCells z.cells (grownCap w (n + k) cap e - (n + k))).toList) ?_ ?_ hge hcm rfl ?_)
  · have := Blk.new w.drew e (olds ++ (Builtin.zeroCells z.cells k ++ Builtin.zeroCells z.cells (grownCap w (n + k) cap e - (n + k))).toList)
    have he : (olds ++ (Builtin.zeroCells z.cells k ++ Builtin.zeroCells z.cells (grownCap w (n + k) cap e - (n + k))).toList).toArray = olds.toArray ++ Builtin.zeroCells z.cells k ++ Builtin.zeroCells z.cells (grownCap w (n + k) cap e - (n + k)) := by
      apply Array.toList_inj.1; simp
    rw [he] at this
    exact this
  · simp only [List.length_append, Array.toList_append, Array.length_toList, zeros_size, hzs, hol, ← Nat.add_mul]
    congr 1; omega
  · exact (Keeps.refl _ w).drew.alloc _
/-- 'make' of an empty list in a state: a new row. -/
theorem wpList_mkg {P : Program} {w w0 : World} {F0 : Nat → Prop} {cs : List Ch} {ops : Array Oper} {rest : List Oper} {o : Oper} {a : Act} {Q : Exit → Act → World → Prop} (l c : Operand) (t e : TypeId) (z : Value) (size bytes : Nat)
    (hinfo : (P.info? e).map (fun i => (i.zero, i.size, i.bytes)) = some (some z, size, bytes)) (ht : P.underlying t = some (.slice e))
    (hg : o.guard = none) (hop : o.op = Op.makeSlice t l c) (hS : St F0 w0 cs w)
    (kl kc : IntKind) (C : Int) (n : Nat) (hl : a.eval l = .int kl 0) (hc : a.eval c = .int kc C) (hC : C = (n : Int)) (b2 : bytes * n ≤ 281474976710656) (b3 : n ≤ maxLen)
    (hK : ∀ g w', Own w' e size (.slice (some ⟨g, 0, none⟩) 0 n) 0 [] → Keeps (fun _ => False) w w' → w.heap.size ≤ g → St F0 w0 (cs ++ [.row e size (.slice (some ⟨g, 0, none⟩) 0 n) 0 []]) w' → wpList P ops Q rest (a.put o.dst (.slice (some ⟨g, 0, none⟩) 0 n)) w') :
    wpList P ops Q (o :: rest) a w :=
  wpList_mk l c t e z size bytes hinfo ht hg hop kl kc C n hl hc hC b2 b3 fun w' h1 h2 => hK _ w' h1 h2 (Nat.le_refl _)
    (hS.add h2 (G := fun b => (Value.slice (some ⟨w.heap.size, 0, none⟩) 0 n).ownBlock = some b) (c := .row e size (.slice (some ⟨w.heap.size, 0, none⟩) 0 n) 0 []) ⟨h1, fun _ => Iff.rfl⟩ fun b hb => by
      simp only [Value.ownBlock, Option.some.injEq] at hb; rw [← hb]; exact Nat.le_refl _)
/-- 'append(s, x..)' of any list, none perhaps, onto an owned row. -/
theorem wpList_appX {P : Program} {w w0 : World} {F0 : Nat → Prop} {cs : List Ch} {ops : Array Oper} {rest : List Oper} {o : Oper} {a : Act} {Q : Exit → Act → World → Prop} (i : Nat) (s x : Operand) (t e : TypeId) (z : Value) (size bytes : Nat)
    (hinfo : (P.info? e).map (fun i => (i.zero, i.size, i.bytes)) = some (some z, size, bytes)) (ht : P.underlying t = some (.slice e)) (hzs : z.cells.size = size) (hsz : 0 < size)
    (hgd : o.guard = none) (ho : o.op = .call { callee := .builtin .append, args := #[s, x], argTypes := #[t, t] })
    {v : Value} {n : Nat} {xs : List Value} (hS : St F0 w0 cs w) (hi : cs.getD i .emp = .row e size v n xs) (hs : a.eval s = v)
    (ao : Option Addr) (m c : Nat) (news : List Value) (hx : a.eval x = .slice ao m c) (hl : news.length = m * size) (hnone : ao = none → m = 0 ∧ c = 0)
    (hc : ∀ ad, ao = some ad → ∀ (j : Nat) u, news[j]? = some u → w.cell? (ad.add j) = some u) (h1 : ∀ u ∈ news, u.oneCell' = true) (h63 : n + m ≤ maxLen) (hbytes : (n + m) * bytes ≤ 140737488355328)
    (h : ∀ v' w', St F0 w0 (cs.set i (.row e size v' (n + m) (xs ++ news))) w' → (v'.ownBlock = v.ownBlock ∨ ∃ b, v'.ownBlock = some b ∧ w.heap.size ≤ b) → wpList P ops Q rest (a.put o.dst v') w') : wpList P ops Q (o :: rest) a w := by
  obtain ⟨i0, hi0, hz0, hz1, hz2⟩ := info_parts hinfo
  have hown := hS.own i hi
  by_cases hm : m = 0
  · subst hm
    have hnews : news = [] := List.eq_nil_of_length_eq_zero (by simpa using hl)
    subst hnews
    have hr : (Builtin.append_ #[t, t] o.type #[v, .slice ao 0 c]).run P w = .ok v w := by
      cases ao with
      | none =>
        obtain ⟨_, rfl⟩ := hnone rfl
        exact run_append_owned_none w 0 t o.type e i0 size ht hi0 v n xs hown
      | some ad =>
        rcases hown.2 with ⟨rfl, rfl⟩ | ⟨g, cap, cur, rfl, _, hh, hn, hmm, hss, htk⟩
        · simp [Builtin.append_, run_underlying ht, sizeOf, typeInfo, hi0, Builtin.lenOf, Builtin.firstCells, loadCells, loadCellsFrom]
        · simp [Builtin.append_, run_underlying ht, sizeOf, typeInfo, hi0, Builtin.lenOf, hn, Builtin.firstCells, loadCells, loadCellsFrom, storeCells]
    refine wpList_plain hgd fun K hK' => ?_
    unfold Oper.wp execOp
    simp only [ho, resolve, invoke, builtin, Sem.run_bind, Sem.run_pure, Result.andThen_ok, List.map_toArray, List.map_cons, List.map_nil, hs, hx, hr]
    refine hK' _ _ (h v w ?_ (.inl rfl))
    have := hS.imp i (.row e size v n xs) (fun F h => h) hi
    simpa using this
  · obtain ⟨ad, rfl⟩ : ∃ ad, ao = some ad := by
      cases ao with
      | none => exact absurd (hnone rfl).1 hm
      | some ad => exact ⟨ad, rfl⟩
    refine wpList_append_lies w hgd s x t ho 0 e i0 z size bytes ht hi0 hz0 hz1 hz2 hzs hsz v n xs hs hown ad m c news hx hl (hc ad rfl) h1 (by omega) h63 hbytes (Nat.zero_le _) _ rfl fun g' cap w' h2 h3 h4 _ => ?_
    refine h _ w' (hS.grown i h3 h2 (fun b hb => ?_) hi) ?_
    · simp only [Value.ownBlock, Option.some.injEq] at hb
      subst hb
      rcases h4 with h4 | h4
      · exact .inl h4
      · exact .inr (by rw [h4]; exact Nat.le_refl _)
    · rcases h4 with h4 | h4
      · exact .inl h4.symm
      · exact .inr ⟨g', rfl, by rw [h4]; exact Nat.le_refl _⟩
theorem St.filled {F0 : Nat → Prop} {w0 w w' : World} {cs : List Ch} (i : Nat) {T : TypeId} {sz g n : Nat} {xs : List Value} (hS : St F0 w0 cs w) (hb : Blk w' g T xs) (hk : Keeps (fun b => b = g) w w')
    (hi : cs.getD i .emp = .row T sz (.slice (some ⟨g, 0, none⟩) 0 n) 0 [] := by rfl) : St F0 w0 (cs.set i (.pt g T xs)) w' :=
  hS.turn i hi fun F h => ⟨fun b => b = g, ⟨hb, fun _ => Iff.rfl⟩, hk.mono fun b hb => by rw [hb]; exact (h.2 g).2 rfl, fun b hb => .inl (by rw [hb]; exact (h.2 g).2 rfl)⟩
end Kw
end Go
