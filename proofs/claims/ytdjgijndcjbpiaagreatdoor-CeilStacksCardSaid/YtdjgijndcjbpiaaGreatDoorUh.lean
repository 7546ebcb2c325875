/-
  The units' table in memory; New, Len, Free, walked.
-/
import Derived.Test.YtdjgijndcjbpiaaGreatDoorUi
import Derived.Test.YtdjgijndcjbpiaaGreatDoorUm
import Derived.Test.YtdjgijndcjbpiaaGreatDoorG16
import Derived.Test.YtdjgijndcjbpiaaGreatDoorG05
namespace Go.Proofs.YtdjgijndcjbpiaaGreatDoor
open Go.RowKit Go.Kw Go.Kreg Go.Tm Go.Um
set_option linter.unusedSimpArgs false
set_option linter.unusedVariables false

abbrev TUt : Nat := 177
abbrev THo : Nat := 193
abbrev TLk : Nat := 196
theorem infoLk : (Tryz.prog.info? TLk).map (fun i => (i.zero, i.size, i.bytes)) = some (some (.agg #[.int .i64 0, .int .i64 0]), 2, 16) := by kernel_rfl
def locksC (l : List Tkn) : List Value := l.flatMap fun x => [.int .i64 x.res, .int .i64 x.n]
theorem locksC_app (l r : List Tkn) : locksC (l ++ r) = locksC l ++ locksC r := by simp [locksC]
def holdCs (l : List Tkn) (j : Int) (a : Nat) (lv : Value) : List Ch := [.pt a THo (lv :: intsC (heldL l j)), .row TLk 2 lv (l.filter (ofJob j)).length (locksC (l.filter (ofJob j)))]
def holdC (l : List Tkn) (j : Int) (a : Nat) : Ch := .ex fun lv => .stars (holdCs l j a lv)
structure UX where
  uv : Value
  fv : Value
  cv : Value
  jv : Value
  ns : List In.Row
def unitsCs (p : Nat) (m : UM) (x : UX) : List Ch :=
  [.pt p TUt [x.uv, x.fv, x.cv, x.jv], .row TI' 1 x.uv m.us.length (intsC m.us), .row TI' 1 x.fv m.us.length (intsC m.frees), .row TI' 1 x.cv m.us.length (intsC m.cs), .row THr 2 x.jv x.ns.length (hrowsC x.ns),
    .stars (x.ns.map fun a => holdC m.l a.1 a.2), .pr (m.Ok ∧ Jobs m.l x.ns)]
def unitsC (p : Nat) (m : UM) : Ch := .ex fun x => .stars (unitsCs p m x)

/-- The table, read. -/
structure UAt (w : World) (p : Nat) (m : UM) (x : UX) : Prop where
  c0 : w.cell? ⟨p, 0, none⟩ = some x.uv
  c1 : w.cell? ⟨p, 1, none⟩ = some x.fv
  uns : Own w TI' 1 x.uv m.us.length (intsC m.us)
  frs : Own w TI' 1 x.fv m.us.length (intsC m.frees)
  ok : m.Ok
  c3 : w.cell? ⟨p, 3, none⟩ = some x.jv
  jb : Own w THr 2 x.jv x.ns.length (hrowsC x.ns)
  jo : Jobs m.l x.ns
theorem u_at {w w0 : World} {F0 : Nat → Prop} {cs : List Ch} {p : Nat} {m : UM} (i : Nat) (hS : St F0 w0 cs w) (hi : cs.getD i .emp = unitsC p m := by rfl) : ∃ x, UAt w p m x := by
  obtain ⟨G, h, _⟩ := hS.at i hi
  obtain ⟨x, h⟩ := h
  have hS := St.of (cs := unitsCs p m x) h
  have hb := hS.blk 0
  obtain ⟨_, hp, _⟩ := hS.at 6 rfl
  exact ⟨x, hb.cell 0, hb.cell 1, hS.own 1, hS.own 2, hp.1.1, hb.cell 3, hS.own 4, hp.1.2⟩
theorem UAt.keeps {w w' : World} {p : Nat} {m : UM} {x : UX} (h : UAt w p m x) (hk : Keeps (fun _ => False) w w') : UAt w' p m x :=
  ⟨cellIn hk h.c0, cellIn hk h.c1, h.uns.keeps hk fun _ _ => id, h.frs.keeps hk fun _ _ => id, h.ok, cellIn hk h.c3, h.jb.keeps hk fun _ _ => id, h.jo⟩
theorem UAt.few {w : World} {p : Nat} {m : UM} {x : UX} (h : UAt w p m x) : x.ns.length ≤ 100000 := by
  have := h.jo.few; have := locks_few h.ok; omega

def UM.start (us : List Int) : UM := ⟨us, [], List.replicate us.length 0⟩
theorem start_ok {us : List Int} (h1 : us.length ≤ 16) (h2 : ∀ (i : Nat) n, us[i]? = some n → 1 ≤ n ∧ n ≤ 255) : (UM.start us).Ok := by
  refine ⟨h1, fun u hu => ?_, fun x hx => by simp [UM.start] at hx, fun r hr => ?_, by simp [UM.start]⟩
  · obtain ⟨i, hi⟩ := List.getElem?_of_mem hu
    exact h2 i u hi
  · have hr' := hr
    unfold UM.has UM.start at hr'
    simp only at hr'
    have hl : r.toNat < us.length := by omega
    have := h2 r.toNat us[r.toNat] (List.getElem?_eq_getElem hl)
    show (0 : Int) ≤ us.getD r.toNat 0
    rw [List.getD_eq_getElem?_getD, List.getElem?_eq_getElem hl]
    show 0 ≤ us[r.toNat]
    omega
theorem start_frees (us : List Int) : (UM.start us).frees = us := by
  refine List.ext_getElem? fun i => ?_
  unfold UM.frees UM.start UM.tot
  rw [List.getElem?_map]
  by_cases hi : i < us.length
  · rw [List.getElem?_range hi, List.getElem?_eq_getElem hi]
    simp [sumOf, List.getD_eq_getElem?_getD, List.getElem?_eq_getElem hi]
  · rw [List.getElem?_eq_none (by simp; omega), List.getElem?_eq_none (by omega)]; rfl

theorem st_addFull {w w' w0 : World} {F0 : Nat → Prop} {cs : List Ch} {g n : Nat} {T : TypeId} {xs : List Value} (hS : St F0 w0 cs w) (hb : Blk w' g T xs) (hl : xs.length = n) (hk : Keeps (fun _ => False) w w') (hg : w.heap.size ≤ g) (hn : n ≤ maxLen) :
    St F0 w0 (cs ++ [.row T 1 (.slice (some ⟨g, 0, none⟩) n n) n xs]) w' := by
  have ho := Own.of_blk (n := n) (cap := n) (sz := 1) hb (by omega) (Nat.le_refl _) hn
  rw [List.take_of_length_le (by omega)] at ho
  exact hS.add hk (G := fun b => (Value.slice (some ⟨g, 0, none⟩) n n).ownBlock = some b) (c := .row T 1 (.slice (some ⟨g, 0, none⟩) n n) n xs) ⟨ho, fun _ => Iff.rfl⟩ fun b hb => by
    simp only [Value.ownBlock, Option.some.injEq] at hb; rw [← hb]; exact hg
/-- What New's box makes. -/
theorem st_units {w w0 : World} {F0 : Nat → Prop} {us : List Int} {uv fv cv : Value} (hok : (UM.start us).Ok)
    (hS : St F0 w0 [.row TI' 1 uv us.length (intsC us), .row TI' 1 fv us.length (intsC us), .row TI' 1 cv us.length (List.replicate us.length (.int .i64 0))] w) :
    St F0 w0 [unitsC w.heap.size (UM.start us)] (w.alloc (.cells #[uv, fv, cv, .slice none 0 0] TUt)) := by
  have hS2 := hS.new TUt [uv, fv, cv, .slice none 0 0]
  have hS3 := hS2.add (Keeps.refl (fun _ => False) _) (G := fun _ => False) (c := .row THr 2 (.slice none 0 0) 0 (hrowsC [])) ⟨⟨rfl, .inl ⟨rfl, rfl⟩⟩, fun b => by simp [Value.ownBlock]⟩ (fun _ h => h.elim)
  have hS4 := hS3.add (Keeps.refl (fun _ => False) _) (G := fun _ => False) (c := .stars []) (fun _ => id) (fun _ h => h.elim)
  have hS5 := hS4.add (Keeps.refl (fun _ => False) _) (G := fun _ => False) (c := .pr ((UM.start us).Ok ∧ Jobs (UM.start us).l [])) ⟨⟨hok, Jobs.nil⟩, fun _ => id⟩ (fun _ h => h.elim)
  have hS6 := hS5.fold [3, 0, 1, 2, 4, 5, 6] (unitsC w.heap.size (UM.start us)) (fun F h => ⟨⟨uv, fv, cv, .slice none 0 0, []⟩, by
    have h2 : Sts [.pt w.heap.size TUt [uv, fv, cv, .slice none 0 0], .row TI' 1 uv us.length (intsC us), .row TI' 1 fv us.length (intsC us), .row TI' 1 cv us.length (List.replicate us.length (.int .i64 0)), .row THr 2 (.slice none 0 0) 0 (hrowsC []), .stars [], .pr ((UM.start us).Ok ∧ Jobs (UM.start us).l [])] F _ := h
    show Sts (unitsCs _ _ _) F _
    unfold unitsCs
    rw [start_frees, show intsC (UM.start us).cs = List.replicate us.length (.int .i64 0) by simp [UM.start, intsC]]
    exact h2⟩)
  exact hS6.sub [3]

section
variable {w : World} {v : Value}
set_option maxRecDepth 100000 in
set_option maxHeartbeats 2000000 in
theorem unew_any {us : List Int} (hv : SlIn w v us) (hb1 : us.length ≤ 16) (hb2 : ∀ (i : Nat) n, us[i]? = some n → 1 ≤ n ∧ n ≤ 255) :
    Calls Tryz.prog 34 #[v] w fun e w' => ∃ p, e = .returned (.tuple #[.pointer (some ⟨p, 0, none⟩), .int .i64 0]) ∧ St (fun _ => False) w [unitsC p (UM.start us)] w' := by
  have hv' := hv
  obtain ⟨ao, c, rfl, hl, hlc, hcm, hc, h0⟩ := hv
  have b3 : decide ((16 : Int) < (us.length : Int)) = false := by simp; omega
  have Hv := hid hv'
  have Hc := hid hc
  have Hok := hid (start_ok hb1 hb2)
  have Hb2 := hid hb2
  clear hv' hc h0 hb2
  go_enter Tryz.func34, Tryz.ntmps34
  go_wp2_with fail
  go_loopw [11] (fun y wr => ∃ k : Nat, k ≤ us.length ∧ y = .int .i64 k ∧ wr = w) (fun y _ => us.length - (intOf y).toNat)
  case atStart => exact ⟨0, Nat.zero_le _, rfl, rfl⟩
  case round =>
    obtain ⟨k, hk, rfl, rfl⟩ := hrel
    by_cases hlt : k < us.length
    · have b4 : decide (k < us.length) = true := by simpa using hlt
      have hx := List.getElem?_eq_getElem hlt
      obtain ⟨b, o, rfl, d0⟩ := Hc.out k _ hx
      have hn := Hb2.out k _ hx
      generalize us[k] = n at *
      have i0 : (0 : Int) ≤ (k : Int) := by omega
      have i1 : (k : Int) < (us.length : Int) := by omega
      have c1 : decide (n < 1) = false := by simp; omega
      have c2 : decide (255 < n) = false := by simp; omega
      clear hx hn
      go_wp2_with fail
      go_roundw
      case rel => exact ⟨k + 1, by omega, by go_num, by trivial⟩
      case measure => simp [intOf]; omega
    · have b4 : decide (k < us.length) = false := by simpa using hlt
      have HK0 := hid (St.start wr)
      have hcl := fun w' (h : SlIn w' (.slice ao us.length c) us) => cloneI_any h (by omega)
      go_wp2_with fail
      refine wp_region_tree [true, false, true, false, true, true, false, false, false, false, false] 3 (.two 1 (.two 3 (.one 6 .done) 6 (.one 3 .done)) 6 (.one 1 (.one 3 .done))) (fun _ => False) (by kernel_rfl) (by decide +kernel) ?_
      simp only [front, back, List.drop_succ_cons, List.drop_zero]
      repeat ((first | refine wpFront_load rfl ?_ | refine wpFront_other rfl ?_); (first | go_big_quiet_step (fail) | quiet_step (fail)); refine wpQuiet_nil ?_)
      refine wpFront_nil ?_
      simp only [wpTr]
      refine And.intro ?_ ?_
      · refine at'_of rfl ?_
        go_wp2_with fail
        refine (hcl _ (Hv.out.new (Keeps.refl _ _).drew)).mono ?_; rintro e w2 ⟨uv, rfl, hA⟩
        have hS2 := HK0.out.drew.adds hA
        have HS2 := hid hS2
        obtain ⟨xa, xc, rfl, -⟩ := (hS2.own 0).shape
        clear hA hS2
        go_wp2_with fail
        refine segQ_normal HS2.out.keeps ?_
        refine And.intro ?_ ?_
        · refine at'_of rfl ?_
          go_wp2_with fail
          refine (hcl _ (Hv.out.new HS2.out.keeps)).mono ?_; rintro e w3 ⟨fv, rfl, hA⟩
          have hS3 := HS2.out.adds hA
          have HS3 := hid hS3
          obtain ⟨ya, yc, rfl, -⟩ := (hS3.own 1).shape
          clear hA hS3
          go_wp2_with fail
          refine segQ_normal HS3.out.keeps ?_
          refine at'_of rfl ?_
          refine wpList_mkfull _ _ 22 TI' (.int .i64 0) 8 infoI Tryz.underlying22 rfl rfl rfl .i64 .i64 _ _ us.length rfl rfl rfl rfl (by omega) (by unfold maxLen; omega) ?_
          intro w4 hb4 hk4 hg4
          have HS4 := hid (st_addFull (n := us.length) HS3.out hb4 (by simp) hk4 (Nat.le_refl _) (by unfold maxLen; omega))
          clear hb4
          go_wp2_with fail
          refine segQ_normal HS4.out.keeps ?_
          have hF := st_units Hok.out HS4.out
          rw [hg4] at hF
          have HF := hid hF
          clear hF
          go_wp2_with fail
          refine NoPanic.normal ?_
          go_wp2_with fail
          go_ret2
          exact ⟨_, rfl, HF.out⟩
        · refine at'_of rfl ?_
          refine wpList_mkfull _ _ 22 TI' (.int .i64 0) 8 infoI Tryz.underlying22 rfl rfl rfl .i64 .i64 _ _ us.length rfl rfl rfl rfl (by omega) (by unfold maxLen; omega) ?_
          intro w4 hb4 hk4 hg4
          have HS4 := hid (st_addFull (n := us.length) HS2.out hb4 (by simp) hk4 (Nat.le_refl _) (by unfold maxLen; omega))
          clear hb4
          go_wp2_with fail
          refine segQ_normal HS4.out.keeps ?_
          refine at'_of rfl ?_
          go_wp2_with fail
          refine (hcl _ (Hv.out.new HS4.out.keeps)).mono ?_; rintro e w3 ⟨fv, rfl, hA⟩
          have hS3 := HS4.out.adds hA
          have HS3 := hid (show St (fun _ => False) _ [.row TI' 1 (.slice xa us.length xc) us.length (intsC us), .row TI' 1 fv us.length (intsC us), .row TI' 1 _ us.length _] w3 from hS3.sub [0, 2, 1])
          obtain ⟨ya, yc, rfl, -⟩ := (hS3.own 2).shape
          clear hA hS3
          go_wp2_with fail
          refine segQ_normal HS3.out.keeps ?_
          have HF := hid (st_units Hok.out HS3.out)
          go_wp2_with fail
          refine NoPanic.normal ?_
          go_wp2_with fail
          go_ret2
          exact ⟨_, rfl, HF.out⟩
      · refine at'_of rfl ?_
        refine wpList_mkfull _ _ 22 TI' (.int .i64 0) 8 infoI Tryz.underlying22 rfl rfl rfl .i64 .i64 _ _ us.length rfl rfl rfl rfl (by omega) (by unfold maxLen; omega) ?_
        intro w4 hb4 hk4 hg4
        have HS4 := hid (st_addFull (n := us.length) HK0.out.drew hb4 (by simp) hk4 (Nat.le_refl _) (by unfold maxLen; omega))
        clear hb4
        go_wp2_with fail
        refine segQ_normal HS4.out.keeps ?_
        refine at'_of rfl ?_
        go_wp2_with fail
        refine (hcl _ (Hv.out.new HS4.out.keeps)).mono ?_; rintro e w2 ⟨uv, rfl, hA⟩
        have hS2 := HS4.out.adds hA
        have HS2 := hid hS2
        obtain ⟨xa, xc, rfl, -⟩ := (hS2.own 1).shape
        clear hA hS2
        go_wp2_with fail
        refine segQ_normal HS2.out.keeps ?_
        refine at'_of rfl ?_
        go_wp2_with fail
        refine (hcl _ (Hv.out.new HS2.out.keeps)).mono ?_; rintro e w3 ⟨fv, rfl, hA⟩
        have hS3 := HS2.out.adds hA
        have HS3 := hid (show St (fun _ => False) _ [.row TI' 1 (.slice xa us.length xc) us.length (intsC us), .row TI' 1 fv us.length (intsC us), .row TI' 1 _ us.length _] w3 from hS3.sub [1, 2, 0])
        obtain ⟨ya, yc, rfl, -⟩ := (hS3.own 2).shape
        clear hA hS3
        go_wp2_with fail
        refine segQ_normal HS3.out.keeps ?_
        have HF := hid (st_units Hok.out HS3.out)
        go_wp2_with fail
        refine NoPanic.normal ?_
        go_wp2_with fail
        go_ret2
        exact ⟨_, rfl, HF.out⟩
end
end Go.Proofs.YtdjgijndcjbpiaaGreatDoor
