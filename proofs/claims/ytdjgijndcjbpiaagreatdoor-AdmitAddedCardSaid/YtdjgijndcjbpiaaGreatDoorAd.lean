/-
  The laws' sets of tasks as plain data. No program.
-/
import Derived.Test.YtdjgijndcjbpiaaGreatDoorAc
import Derived.Test.YtdjgijndcjbpiaaGreatDoorUd
namespace Go
namespace Tm
def clampW (n : Int) : Int := if n < 0 then 0 else if 65536 < n then 65536 else n
def fitT (x : Task) : Bool := decide (x.code.size ≤ 4096) && decide (x.needs.length ≤ 20)
def setT (ts : List Task) : List Task := (ts.take 10).filter fitT
def setU (us : List Int) : List Int := (us.take 16).map clampI
def addsM (ts : List Task) (m : TM) : TM := ts.foldl (fun m x => (m.add x).2.2) m
def setM (w : Int) (us : List Int) (ts : List Task) : TM := addsM (setT ts) ⟨clampW w, setU us, []⟩
theorem clampW_bd (n : Int) : 0 ≤ clampW n ∧ clampW n ≤ 65536 := by unfold clampW; split <;> (try split) <;> omega
theorem set_begins (w : Int) (us : List Int) : begins (clampW w) (setU us) = 0 := by
  have h := clampW_bd w
  unfold begins
  rw [if_neg (by omega), if_neg (by unfold setU; rw [List.length_map, List.length_take]; omega), if_pos]
  rw [List.all_eq_true]
  intro x hx
  obtain ⟨y, _, rfl⟩ := List.mem_map.1 hx
  have := clamp_bd y
  simp; omega
theorem adds_take {ts : List Task} {k : Nat} {x : Task} (h : ts[k]? = some x) (m : TM) : addsM (ts.take (k + 1)) m = ((addsM (ts.take k) m).add x).2.2 := by
  obtain ⟨hk, rfl⟩ := List.getElem?_eq_some_iff.1 h
  unfold addsM
  rw [List.take_succ_eq_append_getElem hk, List.foldl_append]; rfl
theorem adds_ok : ∀ (ts : List Task) {m : TM}, m.Ok → (addsM ts m).Ok
  | [], _, h => h
  | x :: ts, _, h => adds_ok ts (TM.add_ok h x)
theorem add_len (m : TM) (x : Task) : (m.add x).2.2.ts.length ≤ m.ts.length + 1 ∧ (m.add x).2.2.units = m.units ∧ (m.add x).2.2.words = m.words := by
  unfold TM.add
  split
  · exact ⟨Nat.le_succ _, rfl, rfl⟩
  · exact ⟨by simp, rfl, rfl⟩
theorem adds_len : ∀ (ts : List Task) (m : TM), (addsM ts m).ts.length ≤ m.ts.length + ts.length ∧ (addsM ts m).units = m.units
  | [], _ => ⟨Nat.le_refl _, rfl⟩
  | x :: ts, m => by
    obtain ⟨h1, h2⟩ := adds_len ts (m.add x).2.2
    obtain ⟨h3, h4, _⟩ := add_len m x
    refine ⟨?_, h2.trans h4⟩
    show (addsM ts (m.add x).2.2).ts.length ≤ _
    simp only [List.length_cons]; omega
theorem zero_ok {w : Int} {us : List Int} (h : begins w us = 0) : TM.Ok ⟨w, us, []⟩ := by
  refine ⟨h, by simp, by simp, by simp, by simp, ?_⟩
  have : bound [] = 0 := by decide
  simp only
  rw [this]
  unfold begins at h
  split at h <;> omega
theorem setM_ok (w : Int) (us : List Int) (ts : List Task) : (setM w us ts).Ok := adds_ok _ (zero_ok (set_begins w us))
theorem setM_len (w : Int) (us : List Int) (ts : List Task) : (setM w us ts).ts.length ≤ 10 := by
  have h := (adds_len (setT ts) ⟨clampW w, setU us, []⟩).1
  have h2 : (setT ts).length ≤ 10 := by
    unfold setT
    refine Nat.le_trans (List.length_filter_le _ _) ?_
    rw [List.length_take]; omega
  simp only [List.length_nil] at h
  unfold setM; omega
theorem setT_take {ts : List Task} {k : Nat} {x : Task} (h : ts[k]? = some x) : (ts.take (k + 1)).filter fitT = (ts.take k).filter fitT ++ (if fitT x then [x] else []) := by
  obtain ⟨hk, rfl⟩ := List.getElem?_eq_some_iff.1 h
  rw [List.take_succ_eq_append_getElem hk, List.filter_append]
  congr 1
  by_cases hf : fitT ts[k] = true <;> simp [hf]
end Tm
end Go
