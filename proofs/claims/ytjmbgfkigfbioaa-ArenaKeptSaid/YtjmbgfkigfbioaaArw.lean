/-
  The arena's functions, walked: what each answers and what becomes of memory.
-/
import Derived.Test.YtjmbgfkigfbioaaProg
import Derived.Test.YtjmbgfkigfbioaaKw
import Derived.Test.YtjmbgfkigfbioaaKreg
import Derived.Test.YtjmbgfkigfbioaaKmix
import Derived.Test.YtjmbgfkigfbioaaArm
import Derived.KernelRfl
namespace Go.Proofs.Ytjmbgfkigfbioaa
open Go.RowKit Go.Kw Go.Kreg Go.Arm

abbrev TA : Nat := 63
abbrev TI : Nat := 3
abbrev TS : Nat := 28
abbrev TSS : Nat := 45
theorem infoI : (Try.prog.info? TI).map (fun i => (i.zero, i.size, i.bytes)) = some (some (.int .i64 0), 1, 8) := by kernel_rfl
theorem infoS : (Try.prog.info? TS).map (fun i => (i.zero, i.size, i.bytes)) = some (some (.slice none 0 0), 1, 24) := by kernel_rfl

def ints (l : List Int) : List Value := l.map (Value.int .i64)
def fad (wb s : Nat) (f : Fr) : Option Addr := if f.size = 0 then some ⟨wb, 0, none⟩ else some ⟨wb, s, none⟩
def frv (wb s : Nat) (f : Fr) : Value := .slice (fad wb s f) f.laid.length f.size
theorem fad_pos {wb s : Nat} {f : Fr} (h : 0 < f.size) : fad wb s f = some ⟨wb, s, none⟩ := by unfold fad; rw [if_neg (by omega)]
def frvs (wb : Nat) : Nat → List Fr → List Value
  | _, [] => []
  | s, f :: l => frv wb s f :: frvs wb (s + f.size) l
theorem frvs_append (wb : Nat) : ∀ (s : Nat) (a b : List Fr), frvs wb s (a ++ b) = frvs wb s a ++ frvs wb (s + sizes a) b
  | s, [], b => by simp [frvs, sizes]
  | s, f :: a, b => by simp [frvs, frvs_append wb (s + f.size) a b, sizes, Nat.add_assoc]
theorem frvs_len (wb : Nat) : ∀ (s : Nat) (a : List Fr), (frvs wb s a).length = a.length
  | _, [] => rfl
  | s, f :: a => by simp [frvs, frvs_len wb (s + f.size) a]
theorem ints_len (l : List Int) : (ints l).length = l.length := by simp [ints]

structure ARep (w : World) (p wb : Nat) (fv : Value) (m : AM) : Prop where
  ok : m.ok
  few : m.frs.length ≤ 1000000
  st : Blk w p TA [.slice (some ⟨wb, 0, none⟩) m.n m.n, fv, .int .i64 m.used, .int .i64 m.high]
  wd : Blk w wb TI (ints m.words)
  fr : Own w TS 1 fv m.frs.length (frvs wb 0 m.frs)

def foot (p wb : Nat) (fv : Value) : Nat → Prop := fun b => b = p ∨ b = wb ∨ fv.ownBlock = some b

/-- The cells of the struct, as the walk takes them. -/
theorem ARep.cells {w : World} {p wb : Nat} {fv : Value} {m : AM} (h : ARep w p wb fv m) :
    w.cell? ⟨p, 0, none⟩ = some (.slice (some ⟨wb, 0, none⟩) m.n m.n) ∧ w.cell? ⟨p, 1, none⟩ = some fv ∧ w.cell? ⟨p, 2, none⟩ = some (.int .i64 m.used) ∧ w.cell? ⟨p, 3, none⟩ = some (.int .i64 m.high) ∧ (∀ o, w.frozen? ⟨p, o, none⟩ = false) :=
  ⟨h.st.cell 0, h.st.cell 1, h.st.cell 2, h.st.cell 3, h.st.fz⟩

theorem room_any {w : World} {p wb : Nat} {fv : Value} {m : AM} (h : ARep w p wb fv m) :
    Calls Try.prog 19 #[.pointer (some ⟨p, 0, none⟩)] w fun e w' => e = .returned (.int .i64 ((m.n : Int) - m.used)) ∧ ∃ n, w' = w.drewN n := by
  obtain ⟨c0, c1, c2, c3, fz⟩ := h.cells
  have h1 := h.ok.used_n
  have h2 := h.ok.n_le
  go_enter Try.func19, Try.ntmps19
  go_wp2
  go_quiet (fail)
  go_wp2
  go_ret
  exact ⟨rfl, ⟨_, rfl⟩⟩

theorem used_any {w : World} {p wb : Nat} {fv : Value} {m : AM} (h : ARep w p wb fv m) :
    Calls Try.prog 18 #[.pointer (some ⟨p, 0, none⟩)] w fun e w' => e = .returned (.int .i64 m.used) ∧ w = w' := by
  obtain ⟨c0, c1, c2, c3, fz⟩ := h.cells
  go_enter Try.func18, Try.ntmps18
  go_wp2
  go_ret
  exact ⟨rfl, rfl⟩

theorem high_any {w : World} {p wb : Nat} {fv : Value} {m : AM} (h : ARep w p wb fv m) :
    Calls Try.prog 20 #[.pointer (some ⟨p, 0, none⟩)] w fun e w' => e = .returned (.int .i64 m.high) ∧ w = w' := by
  obtain ⟨c0, c1, c2, c3, fz⟩ := h.cells
  go_enter Try.func20, Try.ntmps20
  go_wp2
  go_ret
  exact ⟨rfl, rfl⟩

theorem depth_any {w : World} {p wb : Nat} {fv : Value} {m : AM} (h : ARep w p wb fv m) :
    Calls Try.prog 25 #[.pointer (some ⟨p, 0, none⟩)] w fun e w' => e = .returned (.int .i64 m.frs.length) ∧ w = w' := by
  obtain ⟨c0, c1, c2, c3, fz⟩ := h.cells
  obtain ⟨a, c, rfl, _⟩ := h.fr.shape
  go_enter Try.func25, Try.ntmps25
  go_wp2
  go_ret
  exact ⟨rfl, rfl⟩

theorem last_none {w : World} {p wb : Nat} {fv : Value} {m : AM} (h : ARep w p wb fv m) (hm : m.frs = []) :
    Calls Try.prog 34 #[.pointer (some ⟨p, 0, none⟩)] w fun e w' => e = .returned (.pointer none) ∧ ∃ n, w' = w.drewN n := by
  obtain ⟨c0, c1, c2, c3, fz⟩ := h.cells
  obtain ⟨a, c, rfl, _⟩ := h.fr.shape
  rw [hm] at c1
  clear hm
  go_enter Try.func34, Try.ntmps34
  go_wp2
  go_ret
  exact ⟨rfl, ⟨0, rfl⟩⟩

theorem last_some {w : World} {p wb : Nat} {fv : Value} {m : AM} (h : ARep w p wb fv m) {g : Nat} (hg : fv.ownBlock = some g) (hm : 0 < m.frs.length) :
    Calls Try.prog 34 #[.pointer (some ⟨p, 0, none⟩)] w fun e w' => e = .returned (.pointer (some ⟨g, m.frs.length - 1, none⟩)) ∧ ∃ n, w' = w.drewN n := by
  obtain ⟨c0, c1, c2, c3, fz⟩ := h.cells
  obtain ⟨g', cap, rfl, _⟩ := h.fr.form hm
  obtain rfl : g' = g := by simpa [Value.ownBlock] using hg
  have hb : ((m.frs.length : Int) == 0) = false := by simp; intro e; simp [e] at hm
  have hf := h.few
  clear hg
  go_enter Try.func34, Try.ntmps34
  go_wp2
  go_quiet (fail)
  go_wp2
  go_ret
  exact ⟨rfl, ⟨_, rfl⟩⟩

theorem open_neg {w : World} {p wb : Nat} {fv : Value} {m : AM} (_h : ARep w p wb fv m) (s : Int) (hs : s < 0) :
    Calls Try.prog 14 #[.pointer (some ⟨p, 0, none⟩), .int .i64 s] w fun e w' => e = .returned (.int .i64 1) ∧ ∃ n, w' = w.drewN n := by
  go_enter Try.func14, Try.ntmps14
  go_wp2
  go_ret
  exact ⟨rfl, ⟨0, rfl⟩⟩

theorem open_full {w : World} {p wb : Nat} {fv : Value} {m : AM} (h : ARep w p wb fv m) (s : Int) (hs : 0 ≤ s) (hf : (m.n : Int) - m.used < s) :
    Calls Try.prog 14 #[.pointer (some ⟨p, 0, none⟩), .int .i64 s] w fun e w' => e = .returned (.int .i64 11) ∧ ∃ n, w' = w.drewN n := by
  have h1 := h.ok.used_n
  have h2 := h.ok.n_le
  go_enter Try.func14, Try.ntmps14
  go_wp2_with (go_at_call 19; refine (room_any h).mono ?_; rintro e w' ⟨rfl, ⟨nq, rfl⟩⟩)
  go_ret
  exact ⟨rfl, ⟨_, rfl⟩⟩

/-- What becomes of the arena: it is there anew, and outside its blocks nothing has turned. -/
def Turned (w w' : World) (p wb : Nat) (fv : Value) (m' : AM) : Prop :=
  ∃ fv', ARep w' p wb fv' m' ∧ Keeps (foot p wb fv) w w' ∧ (∀ b, fv'.ownBlock = some b → fv.ownBlock = some b ∨ w.heap.size ≤ b)

theorem rows_split (m : AM) (s : Nat) (hf : m.used + s ≤ m.n) : rows (m.frs ++ [⟨s, []⟩]) ++ List.replicate (m.n - sizes (m.frs ++ [⟨s, []⟩])) 0 = m.words := by
  simp only [rows_append, AM.words, AM.used, sizes_append, sizes_one, List.append_assoc]
  congr 1
  simp only [rows, List.flatMap_cons, List.flatMap_nil, Fr.row, List.nil_append, List.append_nil, List.length_nil, Nat.sub_zero, List.replicate_append_replicate]
  congr 1
  simp only [AM.used] at hf
  omega

theorem open_turned {w w1 : World} {p wb g cap k k2 : Nat} {fv : Value} {m : AM} {ao : Option Addr} (h : ARep w p wb fv m) (s : Nat) (hf : m.used + s ≤ m.n) (hfew : m.frs.length < 1000000)
    (hao : (if s = 0 then some ⟨wb, 0, none⟩ else some ⟨wb, m.used, none⟩) = ao)
    (hown : Own w1 TS 1 (.slice (some ⟨g, 0, none⟩) (m.frs.length + 1) cap) (m.frs.length + 1) (frvs wb 0 m.frs ++ [.slice ao 0 s]))
    (hgrow : ((w.drewN k).alloc (.cells #[.slice ao 0 s] TS)).grownBy w1 fv.ownBlock) (hat : fv.ownBlock = some g ∨ g = ((w.drewN k).alloc (.cells #[.slice ao 0 s] TS)).heap.size)
    (x : Int) (hx : x = (max m.high (m.used + s) : Nat)) :
    Turned w ((((w1.setCell ⟨p, 1, none⟩ (.slice (some ⟨g, 0, none⟩) (m.frs.length + 1) cap)).setCell ⟨p, 2, none⟩ (.int .i64 ((m.used : Int) + s))).drewN k2).setCell ⟨p, 3, none⟩ (.int .i64 x)) p wb fv
      ⟨m.n, m.frs ++ [⟨s, []⟩], max m.high (m.used + s)⟩ := by
  have hfp : fv.ownBlock ≠ some p := h.fr.neT h.st (by decide)
  have hfw : fv.ownBlock ≠ some wb := h.fr.neT h.wd (by decide)
  have st1 := grown_blk hgrow ((h.st.drewN k).alloc _) (fun e => hfp e.symm)
  have wd1 := grown_blk hgrow ((h.wd.drewN k).alloc _) (fun e => hfw e.symm)
  have pw : p ≠ wb := h.st.neT h.wd (by decide)
  have hgp : g ≠ p := by
    rcases hat with e | e
    · intro e'; subst e'; exact hfp e
    · have := h.st.lt; simp at e; omega
  have hok : AM.ok ⟨m.n, m.frs ++ [⟨s, []⟩], max m.high (m.used + s)⟩ := by
    have := h.ok.opens s
    unfold AM.opens at this
    rw [if_neg (by omega), if_neg (by omega)] at this
    simpa using this
  have hlen : (m.frs ++ [(⟨s, []⟩ : Fr)]).length ≤ 1000000 := by simp; omega
  refine ⟨.slice (some ⟨g, 0, none⟩) (m.frs.length + 1) cap, ⟨hok, hlen, ?_, ?_, ?_⟩, ?_, ?_⟩
  · have := (((st1.set 1 (.slice (some ⟨g, 0, none⟩) (m.frs.length + 1) cap)).set 2 (.int .i64 ((m.used : Int) + s))).drewN k2).set 3 (.int .i64 x)
    simp only [List.set_cons_succ, List.set_cons_zero] at this
    have hu : AM.used ⟨m.n, m.frs ++ [⟨s, []⟩], max m.high (m.used + s)⟩ = m.used + s := by simp [AM.used, sizes_append, sizes_one]
    rw [hu]
    rw [hx] at this ⊢
    simpa using this
  · have := (((wd1.far (a := ⟨p, 1, none⟩) pw (.slice (some ⟨g, 0, none⟩) (m.frs.length + 1) cap)).far (a := ⟨p, 2, none⟩) pw (.int .i64 ((m.used : Int) + s))).drewN k2).far (a := ⟨p, 3, none⟩) pw (.int .i64 x)
    have e : AM.words ⟨m.n, m.frs ++ [⟨s, []⟩], max m.high (m.used + s)⟩ = m.words := rows_split m s hf
    rw [e]; exact this
  · have := ((hown.far (a := ⟨p, 1, none⟩) (by simp [Value.ownBlock, hgp]) (.slice (some ⟨g, 0, none⟩) (m.frs.length + 1) cap)).far (a := ⟨p, 2, none⟩) (by simp [Value.ownBlock, hgp]) (.int .i64 ((m.used : Int) + s))).far (a := ⟨p, 3, none⟩) (by simp [Value.ownBlock, hgp]) (.int .i64 x)
    rw [List.length_append, frvs_append, Nat.zero_add]
    have e : frvs wb (sizes m.frs) [⟨s, []⟩] = [.slice ao 0 s] := by
      rw [← hao]; rfl
    rw [e]
    exact this
  · have hk : Keeps (foot p wb fv) w w1 := by
      refine Keeps.grown ((((Keeps.refl _ w).drewN k)).alloc _) hgrow ?_
      intro b hb; exact .inl (.inr (.inr hb))
    exact (((hk.setCell (.inl (.inl rfl)) _).setCell (.inl (.inl rfl)) _).drewN k2).setCell (.inl (.inl rfl)) _
  · intro b hb
    simp only [Value.ownBlock, Option.some.injEq] at hb
    subst hb
    rcases hat with e | e
    · exact .inl e
    · right; simp at e; omega

set_option maxRecDepth 100000 in
theorem open_yes {w : World} {p wb : Nat} {fv : Value} {m : AM} (hr : ARep w p wb fv m) (s : Nat) (hf : m.used + s ≤ m.n) (hfew : m.frs.length < 1000000) :
    Calls Try.prog 14 #[.pointer (some ⟨p, 0, none⟩), .int .i64 s] w fun e w' => e = .returned (.int .i64 0) ∧
      Turned w w' p wb fv ⟨m.n, m.frs ++ [⟨s, []⟩], max m.high (m.used + s)⟩ := by
  obtain ⟨c0, c1, c2, c3, fz⟩ := hr.cells
  have h1 := hr.ok.used_n
  have h2 := hr.ok.n_le
  have b1 : decide ((s : Int) < 0) = false := by simp
  have b2 : decide ((m.n : Int) - m.used < s) = false := by simp; omega
  go_enter Try.func14, Try.ntmps14
  go_wp2_with (go_at_call 19; refine (room_any hr).mono ?_; rintro e w' ⟨rfl, ⟨nq, rfl⟩⟩)
  have hfp : fv.ownBlock ≠ some p := hr.fr.neT hr.st (by decide)
  have i0 : (0 : Int) ≤ (m.used : Int) := by omega
  have i1 : (m.used : Int) ≤ (m.used : Int) + (s : Int) := by omega
  have i2 : (m.used : Int) + (s : Int) ≤ (m.n : Int) := by omega
  have e1 : IntKind.i64.wrap ((m.used : Int) + (s : Int)) = (m.used : Int) + s := IntWalk.i64_in _ (by omega)
  have e2 : ((m.used : Int) + (s : Int)).toNat = m.used + s := by omega
  refine wp_region_mix (List.replicate 24 true ++ List.replicate 5 false) 2 (fun b => fv.ownBlock = some b) (by kernel_rfl) (by decide +kernel) ?_
  simp only [List.replicate_succ, List.replicate_zero, List.cons_append, List.nil_append, front, back, List.take_succ_cons, List.take_zero, List.drop_succ_cons, List.drop_zero, wpFront, wpSegs, cls]
  repeat (first | (refine wpQuiet_nil ?_) | quiet_step (fail))
  clear e1 e2
  generalize hao : (if s = 0 then (some ⟨wb, 0, none⟩ : Option Addr) else some ⟨wb, m.used, none⟩) = ao
  have Hao := hid hao
  clear hao
  go_wp2
  refine segQ_normal ((Keeps.refl _ _).drew.alloc _) ?_
  go_wp2_with (at_builtin; refine wpList_app _ _ TSS TS (.slice none 0 0) 1 24 infoS Try.underlying45 rfl (by decide) rfl rfl fv _ _ rfl ((hr.fr.drewN _).alloc _) w.heap.size 1 1 [.slice ao 0 s] rfl rfl (Blk.new _ _ _) (by simp [Value.oneCell']) (by omega) (by unfold maxLen; omega) (by omega) ?_; intro g cap w1 hown hgrow hat hlt; obtain ⟨d0, d1, d2, d3, dz⟩ := cells4 (grown_blk hgrow ((hr.st.drewN _).alloc _) (fun e => hfp e.symm)))
  refine segQ_normal (((Keeps.refl _ _).drew.alloc _).grown hgrow (fun b hb => .inl hb)) ?_
  go_wp2
  refine NoPanic.normal ?_
  go_wp2
  refine wp_region_pre 10 (by kernel_rfl) (by decide +kernel) ?_
  simp only [List.take_succ_cons, List.take_zero, List.drop_succ_cons, List.drop_zero]
  repeat (quiet_step (fail))
  refine wpQuiet_nil ?_
  intro k2
  go_wp2
  all_goals
    go_ret
    exact ⟨rfl, open_turned hr s hf hfew Hao.out hown hgrow hat _ (by omega)⟩
theorem open_few {m : AM} {s : Nat} (h : m.used + s ≤ m.n) : m.opens s = (0, ⟨m.n, m.frs ++ [⟨s, []⟩], max m.high (m.used + s)⟩) := by
  unfold AM.opens
  rw [if_neg (by omega), if_neg (by omega)]
  simp

/-! ### The last frame -/
theorem rows_last (n : Nat) (init : List Fr) (f : Fr) (hi : Nat) : AM.words ⟨n, init ++ [f], hi⟩ = rows init ++ (f.laid ++ List.replicate (f.size - f.laid.length) 0 ++ List.replicate (n - (sizes init + f.size)) 0) := by
  simp [AM.words, AM.used, sizes_append, sizes_one, rows, Fr.row]

/-- The last frame's value and where its words lie. -/
theorem ARep.lastCell {w : World} {p wb n hi : Nat} {fv : Value} {init : List Fr} {f : Fr} (h : ARep w p wb fv ⟨n, init ++ [f], hi⟩) :
    ∃ g cap, fv = .slice (some ⟨g, 0, none⟩) (init.length + 1) cap ∧ g < w.heap.size ∧ w.cell? ⟨g, init.length, none⟩ = some (frv wb (sizes init) f) ∧ (∀ o, w.frozen? ⟨g, o, none⟩ = false) := by
  obtain ⟨g, cap, e, hlt⟩ := h.fr.form (by simp)
  subst e
  refine ⟨g, cap, by simp, hlt, ?_, h.fr.fz rfl⟩
  refine h.fr.cells' rfl ?_
  rw [frvs_append, List.getElem?_append_right (by simp [frvs_len]), frvs_len, Nat.zero_add]
  simp [frvs]

theorem last_at {w : World} {p wb n hi g cap : Nat} {init : List Fr} {f : Fr} (h : ARep w p wb (.slice (some ⟨g, 0, none⟩) (init.length + 1) cap) ⟨n, init ++ [f], hi⟩) :
    Calls Try.prog 34 #[.pointer (some ⟨p, 0, none⟩)] w fun e w' => e = .returned (.pointer (some ⟨g, init.length, none⟩)) ∧ ∃ n, w' = w.drewN n := by
  refine (last_some h (g := g) rfl (by simp)).mono fun e w' ⟨h1, h2⟩ => ⟨?_, h2⟩
  rw [h1]; simp

theorem relaid {w w' : World} {p wb n hi : Nat} {fv : Value} {init : List Fr} {f : Fr} (h : ARep w p wb fv ⟨n, init ++ [f], hi⟩) (f' : Fr) (hsz : f'.size = f.size) (hl : f'.laid.length ≤ f.size)
    (hst : Blk w' p TA [.slice (some ⟨wb, 0, none⟩) n n, fv, .int .i64 (AM.used ⟨n, init ++ [f], hi⟩), .int .i64 hi]) (hwd : Blk w' wb TI (ints (AM.words ⟨n, init ++ [f'], hi⟩)))
    (hfr : Own w' TS 1 fv (init.length + 1) ((frvs wb 0 (init ++ [f])).set init.length (frv wb (sizes init) f'))) (hk : Keeps (foot p wb fv) w w') :
    Turned w w' p wb fv ⟨n, init ++ [f'], hi⟩ := by
  have hu : AM.used ⟨n, init ++ [f'], hi⟩ = AM.used ⟨n, init ++ [f], hi⟩ := by simp [AM.used, sizes_append, sizes_one, hsz]
  have hset : (frvs wb 0 (init ++ [f])).set init.length (frv wb (sizes init) f') = frvs wb 0 (init ++ [f']) := by
    rw [frvs_append, frvs_append, List.set_append_right _ _ (by simp [frvs_len]), frvs_len]
    simp [frvs]
  refine ⟨fv, ⟨?_, by have := h.few; simpa using this, by rw [hu]; exact hst, hwd, ?_⟩, hk, fun b hb => .inl hb⟩
  · have := h.ok.relay (f := f) (by simp) hl
    simp only [List.dropLast_concat] at this
    have e : f' = ⟨f.size, f'.laid⟩ := by rw [← hsz]
    rw [e]; exact this
  · rw [hset] at hfr
    simpa using hfr

theorem ints_set (l : List Int) (i : Nat) (v : Int) : (ints l).set i (.int .i64 v) = ints (l.set i v) := by simp [ints, List.map_set]

theorem push_none {w : World} {p wb : Nat} {fv : Value} {m : AM} (h : ARep w p wb fv m) (hm : m.frs = []) (v : Int) :
    Calls Try.prog 12 #[.pointer (some ⟨p, 0, none⟩), .int .i64 v] w fun e w' => e = .returned (.int .i64 6) ∧ ∃ n, w' = w.drewN n := by
  go_enter Try.func12, Try.ntmps12
  go_wp2_with (go_at_call 34; refine (last_none h hm).mono ?_; rintro e w' ⟨rfl, ⟨nq, rfl⟩⟩)
  go_ret
  exact ⟨rfl, ⟨_, rfl⟩⟩

theorem push_full {w : World} {p wb n hi : Nat} {fv : Value} {init : List Fr} {f : Fr} (h : ARep w p wb fv ⟨n, init ++ [f], hi⟩) (hf : f.laid.length = f.size) (v : Int) :
    Calls Try.prog 12 #[.pointer (some ⟨p, 0, none⟩), .int .i64 v] w fun e w' => e = .returned (.int .i64 12) ∧ ∃ n, w' = w.drewN n := by
  obtain ⟨g, cap, rfl, hlt, hc, hz⟩ := h.lastCell
  have hb : ((f.laid.length : Int) == f.size) = true := by simp [hf]
  unfold frv at hc
  clear hf
  go_enter Try.func12, Try.ntmps12
  go_wp2_with (go_at_call 34; refine (last_at h).mono ?_; rintro e w' ⟨rfl, ⟨nq, rfl⟩⟩)
  go_quiet (fail)
  go_wp2
  go_ret
  exact ⟨rfl, dn2 _ _ _⟩

set_option maxRecDepth 100000 in
theorem push_yes {w : World} {p wb n hi : Nat} {fv : Value} {init : List Fr} {f : Fr} (h : ARep w p wb fv ⟨n, init ++ [f], hi⟩) (hf : f.laid.length < f.size) (v : Int) :
    Calls Try.prog 12 #[.pointer (some ⟨p, 0, none⟩), .int .i64 v] w fun e w' => e = .returned (.int .i64 0) ∧
      Turned w w' p wb fv ⟨n, init ++ [⟨f.size, f.laid ++ [v]⟩], hi⟩ := by
  obtain ⟨g, cap, rfl, hlt, hc, hz⟩ := h.lastCell
  have hb : ((f.laid.length : Int) == f.size) = false := by simp; omega
  unfold frv at hc
  rw [fad_pos (by omega)] at hc
  have hg : (Value.slice (some ⟨g, 0, none⟩) (init.length + 1) cap).ownBlock ≠ some wb := h.fr.neT h.wd (by decide)
  have hg1 : g ≠ wb := by simpa [Value.ownBlock] using hg
  have hg2 : wb ≠ g := hg1.symm
  have hwl : sizes init + f.laid.length < (ints (AM.words ⟨n, init ++ [f], hi⟩)).length := by
    have := h.ok.used_n
    simp only [AM.used, sizes_append, sizes_one] at this
    rw [ints_len, AM.words_len h.ok]; simp only []; omega
  go_enter Try.func12, Try.ntmps12
  go_wp2_with (go_at_call 34; refine (last_at h).mono ?_; rintro e w' ⟨rfl, ⟨nq0, rfl⟩⟩)
  go_quiet (fail)
  go_wp2_with (at_builtin; refine wpList_app_mid _ _ TS TI (.int .i64 0) 8 infoI Try.underlying28 rfl rfl ((h.wd.drewN _).alloc _) (sizes init) f.laid.length f.size w.heap.size 1 (.int .i64 v) rfl rfl (Blk.new _ _ _) rfl (by omega) hwl ?_)
  go_ret
  refine ⟨rfl, relaid h ⟨f.size, f.laid ++ [v]⟩ rfl (by simp; omega) ?_ ?_ ?_ ?_⟩
  · exact (((h.st.drewN _).alloc _).far (h.st.neT h.wd (by decide)).symm _).far (by simpa [Value.ownBlock] using h.fr.neT h.st (by decide)) _
  · have := (((h.wd.drewN (nq0 + nq)).alloc (.cells #[.int .i64 v] TI)).set (sizes init + f.laid.length) (.int .i64 v)).far (a := ⟨g, init.length, none⟩) hg1 (.slice (some ⟨wb, sizes init, none⟩) (f.laid.length + 1) f.size)
    rw [ints_set, words_push h.ok hf] at this
    exact this
  · have h1 := ((h.fr.drewN (nq0 + nq)).alloc (.cells #[.int .i64 v] TI)).far (a := ⟨wb, sizes init + f.laid.length, none⟩) hg (.int .i64 v)
    have h2 := Own.setIn h1 (g := g) rfl init.length (.slice (some ⟨wb, sizes init, none⟩) (f.laid.length + 1) f.size)
    have e : frv wb (sizes init) ⟨f.size, f.laid ++ [v]⟩ = .slice (some ⟨wb, sizes init, none⟩) (f.laid.length + 1) f.size := by
      unfold frv; rw [fad_pos (by simp; omega)]; simp
    rw [e]
    simpa using h2
  · exact (((Keeps.refl _ w).drewN _).alloc _).setCell (.inl (.inr (.inl rfl))) _ |>.setCell (.inl (.inr (.inr rfl))) _

theorem pop_none {w : World} {p wb : Nat} {fv : Value} {m : AM} (h : ARep w p wb fv m) (hm : m.frs = []) :
    Calls Try.prog 21 #[.pointer (some ⟨p, 0, none⟩)] w fun e w' => e = .returned (.tuple #[.int .i64 0, .int .i64 6]) ∧ ∃ n, w' = w.drewN n := by
  go_enter Try.func21, Try.ntmps21
  go_wp2_with (go_at_call 34; refine (last_none h hm).mono ?_; rintro e w' ⟨rfl, ⟨nq, rfl⟩⟩)
  go_ret2
  exact ⟨rfl, ⟨_, rfl⟩⟩

theorem pop_empty {w : World} {p wb n hi s : Nat} {fv : Value} {init : List Fr} (h : ARep w p wb fv ⟨n, init ++ [⟨s, []⟩], hi⟩) :
    Calls Try.prog 21 #[.pointer (some ⟨p, 0, none⟩)] w fun e w' => e = .returned (.tuple #[.int .i64 0, .int .i64 10]) ∧ ∃ n, w' = w.drewN n := by
  obtain ⟨g, cap, rfl, hlt, hc, hz⟩ := h.lastCell
  unfold frv at hc
  simp only [List.length_nil] at hc
  go_enter Try.func21, Try.ntmps21
  go_wp2_with (go_at_call 34; refine (last_at h).mono ?_; rintro e w' ⟨rfl, ⟨nq, rfl⟩⟩)
  go_ret2
  exact ⟨rfl, ⟨_, rfl⟩⟩

set_option maxRecDepth 100000 in
theorem pop_yes {w : World} {p wb n hi s : Nat} {fv : Value} {init : List Fr} {l : List Int} {v : Int} (h : ARep w p wb fv ⟨n, init ++ [⟨s, l ++ [v]⟩], hi⟩) :
    Calls Try.prog 21 #[.pointer (some ⟨p, 0, none⟩)] w fun e w' => e = .returned (.tuple #[.int .i64 v, .int .i64 0]) ∧
      Turned w w' p wb fv ⟨n, init ++ [⟨s, l⟩], hi⟩ := by
  obtain ⟨g, cap, rfl, hlt, hc, hz⟩ := h.lastCell
  have hs : l.length < s := by have := h.ok.laid_le ⟨s, l ++ [v]⟩ (by simp); simp at this; omega
  have hu := h.ok.used_n
  have hn := h.ok.n_le
  simp only [AM.used, sizes_append, sizes_one] at hu hn
  unfold frv at hc
  rw [fad_pos (by simp; omega)] at hc
  simp only [List.length_append, List.length_singleton] at hc
  have hg : (Value.slice (some ⟨g, 0, none⟩) (init.length + 1) cap).ownBlock ≠ some wb := h.fr.neT h.wd (by decide)
  have hg1 : g ≠ wb := by simpa [Value.ownBlock] using hg
  have hg2 : wb ≠ g := hg1.symm
  have hv : w.cell? ⟨wb, sizes init + l.length, none⟩ = some (.int .i64 v) := by
    refine h.wd.at ?_
    rw [ints, List.getElem?_map, words_at h.ok]; rfl
  have hwz := h.wd.fz
  have hl0 : (0 : Int) ≤ (l.length : Int) := by omega
  go_enter Try.func21, Try.ntmps21
  go_wp2_with (go_at_call 34; refine (last_at h).mono ?_; rintro e w' ⟨rfl, ⟨nq, rfl⟩⟩)
  go_ret2
  refine ⟨rfl, relaid h ⟨s, l⟩ rfl (by simp; omega) ?_ ?_ ?_ ?_⟩
  · exact ((h.st.drewN _).far (h.st.neT h.wd (by decide)).symm _).far (by simpa [Value.ownBlock] using h.fr.neT h.st (by decide)) _
  · have := ((h.wd.drewN nq).set (sizes init + l.length) (.int .i64 0)).far (a := ⟨g, init.length, none⟩) hg1 (.slice (some ⟨wb, sizes init, none⟩) l.length s)
    rw [ints_set, words_pop h.ok] at this
    exact this
  · have h1 := (h.fr.drewN nq).far (a := ⟨wb, sizes init + l.length, none⟩) hg (.int .i64 0)
    have h2 := Own.setIn h1 (g := g) rfl init.length (.slice (some ⟨wb, sizes init, none⟩) l.length s)
    have e : frv wb (sizes init) ⟨s, l⟩ = .slice (some ⟨wb, sizes init, none⟩) l.length s := by
      unfold frv; rw [fad_pos (by simp; omega)]
    rw [e]
    simpa using h2
  · exact ((Keeps.refl _ w).drewN _).setCell (.inl (.inr (.inl rfl))) _ |>.setCell (.inl (.inr (.inr rfl))) _

theorem top_none {w : World} {p wb : Nat} {fv : Value} {m : AM} (h : ARep w p wb fv m) (hm : m.frs = []) :
    Calls Try.prog 32 #[.pointer (some ⟨p, 0, none⟩)] w fun e w' => e = .returned (.tuple #[.int .i64 0, .bool false]) ∧ ∃ n, w' = w.drewN n := by
  go_enter Try.func32, Try.ntmps32
  go_wp2_with (go_at_call 34; refine (last_none h hm).mono ?_; rintro e w' ⟨rfl, ⟨nq, rfl⟩⟩)
  go_ret2
  exact ⟨rfl, ⟨_, rfl⟩⟩

theorem top_empty {w : World} {p wb n hi s : Nat} {fv : Value} {init : List Fr} (h : ARep w p wb fv ⟨n, init ++ [⟨s, []⟩], hi⟩) :
    Calls Try.prog 32 #[.pointer (some ⟨p, 0, none⟩)] w fun e w' => e = .returned (.tuple #[.int .i64 0, .bool false]) ∧ ∃ n, w' = w.drewN n := by
  obtain ⟨g, cap, rfl, hlt, hc, hz⟩ := h.lastCell
  unfold frv at hc
  simp only [List.length_nil] at hc
  go_enter Try.func32, Try.ntmps32
  go_wp2_with (go_at_call 34; refine (last_at h).mono ?_; rintro e w' ⟨rfl, ⟨nq, rfl⟩⟩)
  go_ret2
  exact ⟨rfl, ⟨_, rfl⟩⟩

set_option maxRecDepth 100000 in
theorem top_yes {w : World} {p wb n hi s : Nat} {fv : Value} {init : List Fr} {l : List Int} {v : Int} (h : ARep w p wb fv ⟨n, init ++ [⟨s, l ++ [v]⟩], hi⟩) :
    Calls Try.prog 32 #[.pointer (some ⟨p, 0, none⟩)] w fun e w' => e = .returned (.tuple #[.int .i64 v, .bool true]) ∧ ∃ n, w' = w.drewN n := by
  obtain ⟨g, cap, rfl, hlt, hc, hz⟩ := h.lastCell
  have hs : l.length < s := by have := h.ok.laid_le ⟨s, l ++ [v]⟩ (by simp); simp at this; omega
  have hu := h.ok.used_n
  have hn := h.ok.n_le
  simp only [AM.used, sizes_append, sizes_one] at hu hn
  unfold frv at hc
  rw [fad_pos (by simp; omega)] at hc
  simp only [List.length_append, List.length_singleton] at hc
  have hv : w.cell? ⟨wb, sizes init + l.length, none⟩ = some (.int .i64 v) := by
    refine h.wd.at ?_
    rw [ints, List.getElem?_map, words_at h.ok]; rfl
  have hl0 : (0 : Int) ≤ (l.length : Int) := by omega
  have hb0 : ((l.length : Int) + 1 == 0) = false := by simp; omega
  have hb1 : ((l.length + 1 : Nat) == 0) = false := by simp
  go_enter Try.func32, Try.ntmps32
  go_wp2_with (go_at_call 34; refine (last_at h).mono ?_; rintro e w' ⟨rfl, ⟨nq, rfl⟩⟩)
  go_quiet (fail)
  go_wp2
  go_ret2
  exact ⟨rfl, dn2 _ _ _⟩

theorem size_no {w : World} {p wb : Nat} {fv : Value} {m : AM} (h : ARep w p wb fv m) (i : Int) (hi : i < 0 ∨ (m.frs.length : Int) ≤ i) :
    Calls Try.prog 42 #[.pointer (some ⟨p, 0, none⟩), .int .i64 i] w fun e w' => e = .returned (.tuple #[.int .i64 0, .bool false]) ∧ ∃ n, w' = w.drewN n := by
  obtain ⟨c0, c1, c2, c3, fz⟩ := h.cells
  obtain ⟨a, c, rfl, _⟩ := h.fr.shape
  by_cases hneg : i < 0
  · clear hi
    go_enter Try.func42, Try.ntmps42
    go_wp2
    go_ret2
    exact ⟨rfl, ⟨0, rfl⟩⟩
  · have hge : (m.frs.length : Int) ≤ i := by omega
    have b1 : decide (i < 0) = false := by simpa using hneg
    clear hi
    go_enter Try.func42, Try.ntmps42
    go_wp2
    go_ret2
    exact ⟨rfl, ⟨0, rfl⟩⟩

/-- The cell of a frame's slice. -/
theorem ARep.frCell {w : World} {p wb : Nat} {fv : Value} {m : AM} (h : ARep w p wb fv m) {i : Nat} {f : Fr} (hf : m.frs[i]? = some f) :
    ∃ g cap, fv = .slice (some ⟨g, 0, none⟩) m.frs.length cap ∧ g < w.heap.size ∧ w.cell? ⟨g, i, none⟩ = some (frv wb (sizes (m.frs.take i)) f) := by
  have hi : i < m.frs.length := (List.getElem?_eq_some_iff.1 hf).1
  obtain ⟨g, cap, e, hlt⟩ := h.fr.form (by omega)
  subst e
  refine ⟨g, cap, rfl, hlt, ?_⟩
  refine h.fr.cells' rfl ?_
  have hs : m.frs = m.frs.take i ++ (f :: m.frs.drop (i + 1)) := by
    have := (List.getElem?_eq_some_iff.1 hf).2
    rw [← this, List.getElem_cons_drop, List.take_append_drop]
  have ht : (m.frs.take i).length = i := by simp; omega
  conv => lhs; rw [hs]
  rw [frvs_append, List.getElem?_append_right (by rw [frvs_len]; omega), frvs_len, ht, Nat.zero_add, Nat.sub_self]
  rfl

theorem size_yes {w : World} {p wb : Nat} {fv : Value} {m : AM} (h : ARep w p wb fv m) {i : Nat} {f : Fr} (hf : m.frs[i]? = some f) :
    Calls Try.prog 42 #[.pointer (some ⟨p, 0, none⟩), .int .i64 i] w fun e w' => e = .returned (.tuple #[.int .i64 f.size, .bool true]) ∧ ∃ n, w' = w.drewN n := by
  obtain ⟨g, cap, rfl, hlt, hc⟩ := h.frCell hf
  obtain ⟨c0, c1, c2, c3, fz⟩ := h.cells
  unfold frv at hc
  have hi : i < m.frs.length := (List.getElem?_eq_some_iff.1 hf).1
  have hi' : (i : Int) < (m.frs.length : Int) := by omega
  have hi0 : (0 : Int) ≤ (i : Int) := by omega
  clear hf
  go_enter Try.func42, Try.ntmps42
  go_wp2
  go_ret2
  exact ⟨rfl, ⟨0, rfl⟩⟩

set_option maxRecDepth 100000 in
theorem words_any {w : World} {p wb : Nat} {fv : Value} {m : AM} (h : ARep w p wb fv m) :
    Calls Try.prog 17 #[.pointer (some ⟨p, 0, none⟩)] w fun e w' => ∃ v, e = .returned v ∧ Fresh w w' TI v m.n (ints m.words) := by
  obtain ⟨c0, c1, c2, c3, fz⟩ := h.cells
  have hn := h.ok.n_le
  have hlen := AM.words_len h.ok
  go_enter Try.func17, Try.ntmps17
  go_wp2
  refine wp_region_mix [true, true, true, true, true, false, true, true, true, true, false, false] 1 (fun _ => False) (by kernel_rfl) (by decide +kernel) ?_
  simp only [front, back, List.take_succ_cons, List.take_zero, List.drop_succ_cons, List.drop_zero]
  repeat ((first | refine wpFront_load rfl ?_ | refine wpFront_other rfl ?_); (first | go_big_quiet_step (fail) | quiet_step (fail)); refine wpQuiet_nil ?_)
  refine wpFront_nil ?_
  simp only [wpSegs]
  go_wp2_with (at_make; refine wpList_mk _ _ TS TI (.int .i64 0) 1 8 infoI Try.underlying28 rfl rfl .i64 .i64 _ m.n rfl rfl rfl (by omega) (by unfold maxLen; omega) ?_; intro w1 hown hk)
  have hk1 := (Keeps.refl (fun _ => False) w).drew.trans hk
  refine segQ_normal hk1 ?_
  have hwd := hk1.blk h.wd id
  have hgt := hown.lt _ rfl
  go_wp2_with (at_builtin; refine wpList_app_copy _ _ TS TI (.int .i64 0) 1 8 infoI Try.underlying28 rfl rfl _ m.n rfl hown (some ⟨wb, 0, none⟩) m.n (ints m.words) rfl (by rw [ints_len, hlen]; omega) (by simp) (by rintro ad rfl_ j u hu; cases rfl_; rw [add_at, Nat.zero_add]; exact hwd.at hu) (by intro u hu; simp only [ints, List.mem_map] at hu; obtain ⟨_, _, rfl⟩ := hu; rfl) ?_; intro w2 hb hk2)
  refine NoPanic.normal ?_
  go_wp2
  go_ret
  refine ⟨_, rfl, w.heap.size, rfl, Nat.le_refl _, hb, ?_⟩
  exact hk1.trans' hk2 (fun b hb => .inr (by rw [hb]; exact Nat.le_refl _))

set_option maxRecDepth 100000 in
theorem frame_yes {w : World} {p wb : Nat} {fv : Value} {m : AM} (h : ARep w p wb fv m) {i : Nat} {f : Fr} (hf : m.frs[i]? = some f) :
    Calls Try.prog 15 #[.pointer (some ⟨p, 0, none⟩), .int .i64 i] w fun e w' => ∃ v, e = .returned (.tuple #[v, .bool true]) ∧ Fresh w w' TI v f.laid.length (ints f.laid) := by
  obtain ⟨g, cap, rfl, hlt, hc⟩ := h.frCell hf
  obtain ⟨c0, c1, c2, c3, fz⟩ := h.cells
  unfold frv at hc
  have hn := h.ok.n_le
  have hmem : f ∈ m.frs := List.mem_of_getElem? hf
  have hll := h.ok.laid_le f hmem
  have hsz : sizes (m.frs.take i) + f.size ≤ m.used := by
    have hs : m.frs = m.frs.take i ++ (f :: m.frs.drop (i + 1)) := by
      have := (List.getElem?_eq_some_iff.1 hf).2
      rw [← this, List.getElem_cons_drop, List.take_append_drop]
    unfold AM.used
    conv => rhs; rw [hs]
    rw [sizes_append]; simp [sizes]
  have hun := h.ok.used_n
  have hi : i < m.frs.length := (List.getElem?_eq_some_iff.1 hf).1
  have hi' : (i : Int) < (m.frs.length : Int) := by omega
  have hi0 : (0 : Int) ≤ (i : Int) := by omega
  have b1 : decide ((i : Int) < 0) = false := by simp
  have b2 : decide ((m.frs.length : Int) ≤ (i : Int)) = false := by simp; omega
  have hsrc : ∀ ad, fad wb (sizes (m.frs.take i)) f = some ad → ∀ j u, (ints f.laid)[j]? = some u → (ints m.words)[ad.off + j]? = some u ∧ ad.block = wb ∧ ad.spot = none := by
    intro ad had j u hu
    rw [ints, List.getElem?_map] at hu
    cases hx : f.laid[j]? with
    | none => rw [hx] at hu; cases hu
    | some x =>
      rw [hx] at hu
      have hj : j < f.laid.length := (List.getElem?_eq_some_iff.1 hx).1
      rw [fad_pos (by omega)] at had
      cases had
      refine ⟨?_, rfl, rfl⟩
      rw [ints, List.getElem?_map, words_frame h.ok hf hx]
      exact hu
  have Hs := hid hsrc
  have Hf := hid hf
  clear hf hsrc
  generalize had : fad wb (sizes (m.frs.take i)) f = ao at *
  have Hd := hid had
  clear had
  go_enter Try.func15, Try.ntmps15
  go_wp2
  refine wp_region_mix [true, true, true, true, true, true, true, true, false, true, true, true, true, true, true, true, false, false, false] 1 (fun _ => False) (by kernel_rfl) (by decide +kernel) ?_
  simp only [front, back, List.take_succ_cons, List.take_zero, List.drop_succ_cons, List.drop_zero]
  repeat ((first | refine wpFront_load rfl ?_ | refine wpFront_other rfl ?_); (first | go_big_quiet_step (fail) | quiet_step (fail)); refine wpQuiet_nil ?_)
  refine wpFront_nil ?_
  simp only [wpSegs]
  go_wp2_with (at_make; refine wpList_mk _ _ TS TI (.int .i64 0) 1 8 infoI Try.underlying28 rfl rfl .i64 .i64 _ f.laid.length rfl rfl rfl (by omega) (by unfold maxLen; omega) ?_; intro w1 hown hk)
  have hk1 := (Keeps.refl (fun _ => False) w).drew.trans hk
  refine segQ_normal hk1 ?_
  have hwd := hk1.blk h.wd id
  have hgt := hown.lt _ rfl
  go_wp2_with (at_builtin; refine wpList_app_copy _ _ TS TI (.int .i64 0) 1 8 infoI Try.underlying28 rfl rfl _ f.laid.length rfl hown ao f.size (ints f.laid) rfl (by rw [ints_len]; omega) (by intro e; have := Hd.out; unfold fad at this; split at this <;> (rw [e] at this; cases this)) (by intro ad hao j u hu; obtain ⟨h1, h2, h3⟩ := Hs.out ad hao j u hu; cases ad; simp only at h1 h2 h3; subst h2; subst h3; rw [add_at]; exact hwd.at h1) (by intro u hu; simp only [ints, List.mem_map] at hu; obtain ⟨_, _, rfl⟩ := hu; rfl) ?_; intro w2 hb hk2)
  refine NoPanic.normal ?_
  go_wp2
  go_ret2
  refine ⟨_, rfl, w.heap.size, rfl, Nat.le_refl _, hb, ?_⟩
  exact hk1.trans' hk2 (fun b hb => .inr (by rw [hb]; exact Nat.le_refl _))

theorem frame_no {w : World} {p wb : Nat} {fv : Value} {m : AM} (h : ARep w p wb fv m) (i : Int) (hi : i < 0 ∨ (m.frs.length : Int) ≤ i) :
    Calls Try.prog 15 #[.pointer (some ⟨p, 0, none⟩), .int .i64 i] w fun e w' => e = .returned (.tuple #[.slice none 0 0, .bool false]) ∧ ∃ n, w' = w.drewN n := by
  obtain ⟨c0, c1, c2, c3, fz⟩ := h.cells
  obtain ⟨a, c, rfl, _⟩ := h.fr.shape
  by_cases hneg : i < 0
  · clear hi
    go_enter Try.func15, Try.ntmps15
    go_wp2
    go_ret2
    exact ⟨rfl, ⟨0, rfl⟩⟩
  · have hge : (m.frs.length : Int) ≤ i := by omega
    have b1 : decide (i < 0) = false := by simpa using hneg
    clear hi
    go_enter Try.func15, Try.ntmps15
    go_wp2
    go_ret2
    exact ⟨rfl, ⟨0, rfl⟩⟩

theorem new_no (w : World) (n : Int) (hn : n < 0 ∨ 65536 < n) :
    Calls Try.prog 11 #[.int .i64 n] w fun e w' => e = .returned (.tuple #[.pointer none, .int .i64 1]) ∧ ∃ n, w' = w.drewN n := by
  by_cases hneg : n < 0
  · clear hn
    go_enter Try.func11, Try.ntmps11
    go_wp2
    go_ret2
    exact ⟨rfl, ⟨0, rfl⟩⟩
  · have hge : 65536 < n := by omega
    have b1 : decide (n < 0) = false := by simpa using hneg
    clear hn
    go_enter Try.func11, Try.ntmps11
    go_wp2
    go_ret2
    exact ⟨rfl, ⟨0, rfl⟩⟩

theorem new_yes (w : World) (n : Nat) (hn : n ≤ 65536) :
    Calls Try.prog 11 #[.int .i64 n] w fun e w' => ∃ p wb, e = .returned (.tuple #[.pointer (some ⟨p, 0, none⟩), .int .i64 0]) ∧ w.heap.size ≤ p ∧ w.heap.size ≤ wb ∧
      ARep w' p wb (.slice none 0 0) (AM.new n) ∧ Keeps (fun _ => False) w w' := by
  have b1 : decide ((n : Int) < 0) = false := by simp
  have b2 : decide (65536 < (n : Int)) = false := by simp; omega
  go_enter Try.func11, Try.ntmps11
  go_wp2_with (at_make; refine wpList_mkfull _ _ TS TI (.int .i64 0) 8 infoI Try.underlying28 rfl rfl rfl .i64 .i64 _ _ n rfl rfl rfl rfl (by omega) (by unfold maxLen; omega) ?_; intro w1 hb hk hsz)
  go_ret2
  refine ⟨w.heap.size + 1, w.heap.size, rfl, by omega, Nat.le_refl _, ⟨AM.ok.new hn, by simp [AM.new], ?_, ?_, ?_⟩, hk.alloc _⟩
  · have := Blk.new w1 TA [.slice (some ⟨w.heap.size, 0, none⟩) n n, .slice none 0 0, .int .i64 0, .int .i64 0]
    rw [hsz] at this
    exact this
  · have e : ints (AM.new n).words = List.replicate n (.int .i64 0) := by simp [AM.words, AM.new, AM.used, sizes, rows, ints]
    rw [e]
    exact hb.alloc _
  · exact World.ownsRow_nil _ _ _ _

theorem close_none {w : World} {p wb : Nat} {fv : Value} {m : AM} (h : ARep w p wb fv m) (hm : m.frs = []) :
    Calls Try.prog 13 #[.pointer (some ⟨p, 0, none⟩)] w fun e w' => e = .returned (.int .i64 6) ∧ ∃ n, w' = w.drewN n := by
  go_enter Try.func13, Try.ntmps13
  go_wp2_with (go_at_call 34; refine (last_none h hm).mono ?_; rintro e w' ⟨rfl, ⟨nq, rfl⟩⟩)
  go_ret
  exact ⟨rfl, ⟨_, rfl⟩⟩

set_option maxRecDepth 100000 in
theorem close_yes {w : World} {p wb n hi : Nat} {fv : Value} {init : List Fr} {f : Fr} (h : ARep w p wb fv ⟨n, init ++ [f], hi⟩) :
    Calls Try.prog 13 #[.pointer (some ⟨p, 0, none⟩)] w fun e w' => e = .returned (.int .i64 0) ∧ Turned w w' p wb fv ⟨n, init, hi⟩ := by
  obtain ⟨g, cap, rfl, hlt, hc, hz⟩ := h.lastCell
  obtain ⟨c0, c1, c2, c3, fz⟩ := h.cells
  have hfew := h.few
  simp only [List.length_append, List.length_singleton] at c1 hfew
  have hn := h.ok.n_le
  have hu := h.ok.used_n
  have hus : AM.used ⟨n, init ++ [f], hi⟩ = sizes init + f.size := by simp [AM.used, sizes_append, sizes_one]
  rw [hus] at c2 hu
  simp only at hn hu
  unfold frv at hc
  have hg : (Value.slice (some ⟨g, 0, none⟩) (init.length + 1) cap).ownBlock ≠ some wb := h.fr.neT h.wd (by decide)
  have hgp : (Value.slice (some ⟨g, 0, none⟩) (init.length + 1) cap).ownBlock ≠ some p := h.fr.neT h.st (by decide)
  have hpw : p ≠ wb := h.st.neT h.wd (by decide)
  have hg1 : g ≠ wb := by simpa [Value.ownBlock] using hg
  have hwl : sizes init + f.size ≤ (ints (AM.words ⟨n, init ++ [f], hi⟩)).length := by
    rw [ints_len, AM.words_len h.ok]; exact hu
  have i0 : (0 : Int) ≤ (f.size : Int) := by omega
  generalize had : fad wb (sizes init) f = ao at *
  have Hd := hid had
  have Hu := hid hus
  clear had hus
  go_enter Try.func13, Try.ntmps13
  go_wp2_with (go_at_call 34; refine (last_at h).mono ?_; rintro e w' ⟨rfl, ⟨nq0, rfl⟩⟩)
  refine wp_region_mix [true, true, true, true, true, true, true, true, false] 0 (fun _ => False) (by kernel_rfl) (by decide +kernel) ?_
  simp only [front, back, List.take_zero, List.drop_zero]
  repeat ((first | refine wpFront_load rfl ?_ | refine wpFront_other rfl ?_); (first | go_big_quiet_step (fail) | quiet_step (fail)); refine wpQuiet_nil ?_)
  refine wpFront_nil ?_
  simp only [wpSegs]
  refine wpList_clear _ TS TI (.int .i64 0) 8 infoI rfl rfl Try.underlying28 rfl rfl ((h.wd.drewN nq0).drew) (sizes init) f.size f.size ao rfl (by intro hp; have := Hd.out; rw [fad_pos hp] at this; exact this.symm) hwl ?_
  intro w1 hwd hk
  have hst1 : Blk w1 p TA _ := hk.blk ((h.st.drewN nq0).drew) hpw
  rw [Hu.out] at hst1
  have hfr1 := Own.keeps (Own.drew (h.fr.drewN nq0)) hk (fun b hb e => hg (by rw [hb, e]))
  obtain ⟨d0, d1, d2, d3, dz⟩ := cells4 hst1
  obtain ⟨g', cap', he, hlt', hc', hz'⟩ : ∃ g' cap', Value.slice (some ⟨g, 0, none⟩) (init.length + 1) cap = .slice (some ⟨g', 0, none⟩) (init.length + 1) cap' ∧ g' < w1.heap.size ∧ w1.cell? ⟨g', init.length, none⟩ = some (frv wb (sizes init) f) ∧ (∀ o, w1.frozen? ⟨g', o, none⟩ = false) := by
    refine ⟨g, cap, rfl, hfr1.lt g rfl, ?_, hfr1.fz rfl⟩
    refine hfr1.cells' rfl ?_
    rw [frvs_append, List.getElem?_append_right (by simp [frvs_len]), frvs_len, Nat.zero_add]
    simp [frvs]
  cases he
  unfold frv at hc'
  rw [Hd.out] at hc'
  clear c0 c1 c2 c3 fz hc hz hlt
  refine wpList_nil (NoPanic.normal ?_)
  go_wp2
  have e1 : IntKind.i64.wrap ((sizes init : Nat) : Int) = (sizes init : Int) := IntWalk.i64_in _ (by omega)
  refine wp_region_mix [true, true, true, true, true, true, true, true, true, false, false, false] 0 (fun _ => False) (by kernel_rfl) (by decide +kernel) ?_
  simp only [front, back, List.take_zero, List.drop_zero]
  repeat ((first | refine wpFront_load rfl ?_ | refine wpFront_other rfl ?_); (first | go_big_quiet_step (fail) | quiet_step (fail)); refine wpQuiet_nil ?_)
  refine wpFront_nil ?_
  simp only [wpSegs]
  go_wp2
  refine NoPanic.normal ?_
  go_wp2
  have hgp' : g ≠ p := by simpa [Value.ownBlock] using hgp
  have i1 : (0 : Int) ≤ (init.length : Int) := by omega
  have i2 : (init.length : Int) ≤ (cap : Int) := by
    obtain ⟨_, c, e, hle⟩ := hfr1.shape
    simp only [Value.slice.injEq] at e
    simp only [List.length_append, List.length_singleton] at hle
    omega
  have e2 : IntKind.i64.wrap ((init.length : Nat) : Int) = (init.length : Int) := IntWalk.i64_in _ (by omega)
  refine wp_region_mix [true, true, true, true, true, true, true, true, true, true, true, true, false, false, false] 0 (fun _ => False) (by kernel_rfl) (by decide +kernel) ?_
  simp only [front, back, List.take_zero, List.drop_zero]
  repeat ((first | refine wpFront_load rfl ?_ | refine wpFront_other rfl ?_); (first | go_big_quiet_step (fail) | quiet_step (fail)); refine wpQuiet_nil ?_)
  refine wpFront_nil ?_
  simp only [wpSegs]
  go_wp2
  refine NoPanic.normal ?_
  go_wp2
  go_ret
  refine ⟨rfl, .slice (some ⟨g, 0, none⟩) init.length cap, ⟨?_, by simp only; omega, ?_, ?_, ?_⟩, ?_, ?_⟩
  · have := h.ok.closes
    simpa [AM.closes] using this
  · have := (((hst1.drewN 1).set 2 (.int .i64 (sizes init))).drewN 1).set 1 (.slice (some ⟨g, 0, none⟩) init.length cap)
    simp only [List.set_cons_succ, List.set_cons_zero] at this
    exact this
  · have := (((hwd.drewN 1).far (a := ⟨p, 2, none⟩) hpw (.int .i64 (sizes init))).drewN 1).far (a := ⟨p, 1, none⟩) hpw (.slice (some ⟨g, 0, none⟩) init.length cap)
    have e3 : (ints (AM.words ⟨n, init ++ [f], hi⟩)).take (sizes init) ++ List.replicate f.size (.int .i64 0) ++ (ints (AM.words ⟨n, init ++ [f], hi⟩)).drop (sizes init + f.size) = ints (AM.words ⟨n, init, hi⟩) := by
      rw [← words_close h.ok]; simp [ints]
    rw [e3] at this
    exact this
  · have h2 := ((hfr1.drewN 1).far (a := ⟨p, 2, none⟩) hgp (.int .i64 (sizes init))).far (a := ⟨p, 1, none⟩) hgp (.slice (some ⟨g, 0, none⟩) init.length cap)
    have h3 := Own.shorter h2 init.length (by simp)
    rw [Nat.mul_one] at h3
    have e4 : (frvs wb 0 (init ++ [f])).take init.length = frvs wb 0 init := by
      rw [frvs_append, List.take_left' (frvs_len ..)]
    simp only [cut] at h3
    rw [e4] at h3
    exact h3
  · have := ((((Keeps.refl (foot p wb (.slice (some ⟨g, 0, none⟩) (init.length + 1) cap)) w).drewN nq0).drew.trans' hk (fun b hb => .inl (.inr (.inl hb)))).drew.setCell (a := ⟨p, 2, none⟩) (.inl (.inl rfl)) (.int .i64 (sizes init))).drew.setCell (a := ⟨p, 1, none⟩) (.inl (.inl rfl)) (.slice (some ⟨g, 0, none⟩) init.length cap)
    exact this
  · intro b hb; exact .inl hb

end Go.Proofs.Ytjmbgfkigfbioaa
