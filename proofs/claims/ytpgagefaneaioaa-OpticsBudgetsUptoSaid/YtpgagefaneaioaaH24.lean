/- Budgets; OpticsBudgets answers true. -/
import Derived.Test.YtpgagefaneaioaaH8
import Derived.Test.YtpgagefaneaioaaR1
namespace Go.Ab
open Go
set_option maxRecDepth 1000000
set_option maxHeartbeats 1000000
set_option linter.unusedVariables false
set_option linter.unusedSimpArgs false
attribute [local congr] bindC iterC

/-- What is left of a total. -/
def lf (T : Int) (e a : List Int) : Nat → Int
  | 0 => T * T
  | n + 1 => lf T e a n - gi e (n : Int) * gi a (n : Int) * (gi e (n : Int) * gi a (n : Int))
def buF (e a : List Int) (i : Nat) : Int := if (0 ≤ gi e (i : Int) ∧ gi e (i : Int) ≤ 10000) ∧ (0 ≤ gi a (i : Int) ∧ gi a (i : Int) ≤ 10000) then 0 else 2
theorem buF_two {e a : List Int} {i : Nat} (h : ¬ buF e a i = 0) : buF e a i = 2 := by
  unfold buF at *
  split at h
  · exact absurd rfl h
  · rename_i c; rw [if_neg c]
theorem buF_ok {e a : List Int} {i : Nat} (h : buF e a i = 0) : (0 ≤ gi e (i : Int) ∧ gi e (i : Int) ≤ 10000) ∧ (0 ≤ gi a (i : Int) ∧ gi a (i : Int) ≤ 10000) := by
  unfold buF at h
  split at h
  · assumption
  · cases h
def buX (e a : List Int) : Int := firstErr (fun i => buF e a i) e.length
def fnV (T : Int) (e a : List Int) : Int := if lf T e a e.length < 0 then 0 else lf T e a e.length
def fnE (T : Int) (e a : List Int) : Int := if lf T e a e.length < 0 then 26 else 0
def buV (T : Int) (e a : List Int) : Int := if buX e a ≠ 0 then 0 else fnV T e a
def buG (T : Int) (e a : List Int) : Int := if buX e a ≠ 0 then buX e a else fnE T e a
theorem lf_bd {T : Int} {e a : List Int} (hT : 0 ≤ T ∧ T ≤ 100000000) : ∀ {i : Nat}, (∀ j, j < i → buF e a j = 0) → -(10000000000000000 * (i : Int)) ≤ lf T e a i ∧ lf T e a i ≤ 10000000000000000
  | 0, _ => by
    have h1 := mul_bd (a := T) (b := T) (m := 100000000) (n := 100000000) (by omega) (by omega) (by omega) (by omega)
    have h2 := Int.mul_nonneg hT.1 hT.1
    show _ ≤ T * T ∧ T * T ≤ _
    omega
  | i + 1, h => by
    obtain ⟨h1, h2⟩ := lf_bd hT (i := i) (fun j hj => h j (by omega))
    obtain ⟨c1, c2⟩ := buF_ok (h i (by omega))
    have m1 := mul_bd (a := gi e (i : Int)) (b := gi a (i : Int)) (m := 10000) (n := 10000) (by omega) (by omega) (by omega) (by omega)
    have m2 := mul_bd (a := gi e (i : Int) * gi a (i : Int)) (b := gi e (i : Int) * gi a (i : Int)) (m := 100000000) (n := 100000000) (by omega) (by omega) (by omega) (by omega)
    have m3 : 0 ≤ gi e (i : Int) * gi a (i : Int) * (gi e (i : Int) * gi a (i : Int)) := Int.mul_nonneg (Int.mul_nonneg c1.1 c2.1) (Int.mul_nonneg c1.1 c2.1)
    show _ ≤ lf T e a i - _ ∧ lf T e a i - _ ≤ _
    omega
theorem k_bud {T : Int} {e a : List Int} (hT : 0 ≤ T ∧ T ≤ 100000000) (he : e.length ≤ 30) (ha : a.length = e.length) : iterF (fun y => (T_optics_CheckBudget_l1 (T, e, a) y.1 y.2.1).run) FUEL (T * T, 0, ()) = some ((buV T e a, buG T e a, ()), ()) := by
  have hTT := mul_bd (a := T) (b := T) (m := 100000000) (n := 100000000) (by omega) (by omega) (by omega) (by omega)
  have hT0 := Int.mul_nonneg hT.1 hT.1
  refine iter_err (st := fun i => (lf T e a i, (i : Int), ())) (f := fun i => buF e a i) e.length (by omega) (fun x => ((if x ≠ 0 then 0 else fnV T e a, if x ≠ 0 then x else fnE T e a, ()), ())) ?_ ?_ ?_
  · intro i hi hp hc
    have hc : ¬ buF e a i = 0 := hc
    have h2 := buF_two hc
    have w1 := k_within (gi e (i : Int)) 0 10000
    have w2 := k_within (gi a (i : Int)) 0 10000
    have b1 : inB (i : Int) e.length = true := inB_t' (by omega) (by omega)
    have b2 : inB (i : Int) a.length = true := inB_t' (by omega) (by omega)
    simp only [T_optics_CheckBudget_l1]
    rw [if_pos (by rw [h2]; decide), if_pos (by rw [h2]; decide), h2]
    refine (br_t (decide_eq_true (by first | omega | (dsimp only; omega)))).trans ?_
    refine (q_of b1).trans ?_
    refine (r_bs w1).trans ?_
    by_cases c1 : 0 ≤ gi e (i : Int) ∧ gi e (i : Int) ≤ 10000
    · refine (br_f (by simp [c1])).trans ?_
      refine (q_of b2).trans ?_
      refine (r_bs w2).trans ?_
      have c2 : ¬ (0 ≤ gi a (i : Int) ∧ gi a (i : Int) ≤ 10000) := fun h => hc (by unfold buF; rw [if_pos ⟨c1, h⟩])
      exact (br_t (by simp only [c2, decide_false, Bool.not_false])).trans (r_ret _)
    · exact (br_t (by simp only [c1, decide_false, Bool.not_false])).trans (r_ret _)
  · intro i hi hp hc
    have hc : buF e a i = 0 := hc
    obtain ⟨c1, c2⟩ := buF_ok hc
    have hb := lf_bd hT (i := i) hp
    have w1 := k_within (gi e (i : Int)) 0 10000
    have w2 := k_within (gi a (i : Int)) 0 10000
    have b1 : inB (i : Int) e.length = true := inB_t' (by omega) (by omega)
    have b2 : inB (i : Int) a.length = true := inB_t' (by omega) (by omega)
    have m1 := mul_bd (a := gi e (i : Int)) (b := gi a (i : Int)) (m := 10000) (n := 10000) (by omega) (by omega) (by omega) (by omega)
    have m2 := mul_bd (a := gi e (i : Int) * gi a (i : Int)) (b := gi e (i : Int) * gi a (i : Int)) (m := 100000000) (n := 100000000) (by omega) (by omega) (by omega) (by omega)
    simp only [T_optics_CheckBudget_l1]
    refine (br_t (decide_eq_true (by first | omega | (dsimp only; omega)))).trans ?_
    refine (q_of b1).trans ?_
    refine (r_bs w1).trans ?_
    refine (br_f (by simp [c1])).trans ?_
    refine (q_of b2).trans ?_
    refine (r_bs w2).trans ?_
    refine (br_f (by simp [c2])).trans ?_
    refine (q_of b2).trans ?_
    refine (r_ret _).trans ?_
    have f1 : IntKind.i64.wrap (lf T e a i - IntKind.i64.wrap (IntKind.i64.wrap (gi e (i : Int) * gi a (i : Int)) * IntKind.i64.wrap (gi e (i : Int) * gi a (i : Int)))) = lf T e a (i + 1) := by
      rw [w64' (x := gi e (i : Int) * gi a (i : Int)) (by omega) (by omega), w64' (x := gi e (i : Int) * gi a (i : Int) * (gi e (i : Int) * gi a (i : Int))) (by omega) (by omega)]
      exact w64' (by omega) (by omega)
    try dsimp only
    rw [f1, w64' (x := (i : Int) + 1) (by omega) (by omega)]
    rfl
  · intro hp
    simp only [T_optics_CheckBudget_l1]
    refine (br_f (decide_eq_false (by first | omega | (dsimp only; omega)))).trans ?_
    by_cases c : lf T e a e.length < 0
    · refine (br_t (decide_eq_true c)).trans ((r_ret _).trans ?_)
      unfold fnV fnE
      rw [if_pos c, if_pos c]; rfl
    · refine (br_f (decide_eq_false c)).trans ((r_ret _).trans ?_)
      unfold fnV fnE
      rw [if_neg c, if_neg c]; rfl
theorem k_rbud {T : Int} {e a : List Int} (hT : 0 ≤ T ∧ T ≤ 100000000) (he : e.length ≤ 30) (ha : a.length = e.length) : iterF (fun y => (T_ref02xCheckBudget_l1 (T, e, a) y.1 y.2.1).run) FUEL (T * T, 0, ()) = some ((buV T e a, buG T e a, ()), ()) := by
  have hTT := mul_bd (a := T) (b := T) (m := 100000000) (n := 100000000) (by omega) (by omega) (by omega) (by omega)
  have hT0 := Int.mul_nonneg hT.1 hT.1
  refine iter_err (st := fun i => (lf T e a i, (i : Int), ())) (f := fun i => buF e a i) e.length (by omega) (fun x => ((if x ≠ 0 then 0 else fnV T e a, if x ≠ 0 then x else fnE T e a, ()), ())) ?_ ?_ ?_
  · intro i hi hp hc
    have hc : ¬ buF e a i = 0 := hc
    have h2 := buF_two hc
    have w1 := k_Within (gi e (i : Int)) 0 10000
    have w2 := k_Within (gi a (i : Int)) 0 10000
    have b1 : inB (i : Int) e.length = true := inB_t' (by omega) (by omega)
    have b2 : inB (i : Int) a.length = true := inB_t' (by omega) (by omega)
    simp only [T_ref02xCheckBudget_l1]
    rw [if_pos (by rw [h2]; decide), if_pos (by rw [h2]; decide), h2]
    refine (br_t (decide_eq_true (by first | omega | (dsimp only; omega)))).trans ?_
    refine (q_of b1).trans ?_
    refine (r_bs w1).trans ?_
    by_cases c1 : 0 ≤ gi e (i : Int) ∧ gi e (i : Int) ≤ 10000
    · refine (br_f (by simp [c1])).trans ?_
      refine (q_of b2).trans ?_
      refine (r_bs w2).trans ?_
      have c2 : ¬ (0 ≤ gi a (i : Int) ∧ gi a (i : Int) ≤ 10000) := fun h => hc (by unfold buF; rw [if_pos ⟨c1, h⟩])
      exact (br_t (by simp only [c2, decide_false, Bool.not_false])).trans (r_ret _)
    · exact (br_t (by simp only [c1, decide_false, Bool.not_false])).trans (r_ret _)
  · intro i hi hp hc
    have hc : buF e a i = 0 := hc
    obtain ⟨c1, c2⟩ := buF_ok hc
    have hb := lf_bd hT (i := i) hp
    have w1 := k_Within (gi e (i : Int)) 0 10000
    have w2 := k_Within (gi a (i : Int)) 0 10000
    have b1 : inB (i : Int) e.length = true := inB_t' (by omega) (by omega)
    have b2 : inB (i : Int) a.length = true := inB_t' (by omega) (by omega)
    have m1 := mul_bd (a := gi e (i : Int)) (b := gi a (i : Int)) (m := 10000) (n := 10000) (by omega) (by omega) (by omega) (by omega)
    have m2 := mul_bd (a := gi e (i : Int) * gi a (i : Int)) (b := gi e (i : Int) * gi a (i : Int)) (m := 100000000) (n := 100000000) (by omega) (by omega) (by omega) (by omega)
    simp only [T_ref02xCheckBudget_l1]
    refine (br_t (decide_eq_true (by first | omega | (dsimp only; omega)))).trans ?_
    refine (q_of b1).trans ?_
    refine (r_bs w1).trans ?_
    refine (br_f (by simp [c1])).trans ?_
    refine (q_of b2).trans ?_
    refine (r_bs w2).trans ?_
    refine (br_f (by simp [c2])).trans ?_
    refine (q_of b1).trans ?_
    refine (q_of b2).trans ?_
    refine (r_ret _).trans ?_
    have f1 : IntKind.i64.wrap (lf T e a i - IntKind.i64.wrap (IntKind.i64.wrap (gi e (i : Int) * gi a (i : Int)) * IntKind.i64.wrap (gi e (i : Int) * gi a (i : Int)))) = lf T e a (i + 1) := by
      rw [w64' (x := gi e (i : Int) * gi a (i : Int)) (by omega) (by omega), w64' (x := gi e (i : Int) * gi a (i : Int) * (gi e (i : Int) * gi a (i : Int))) (by omega) (by omega)]
      exact w64' (by omega) (by omega)
    try dsimp only
    rw [f1, w64' (x := (i : Int) + 1) (by omega) (by omega)]
    rfl
  · intro hp
    simp only [T_ref02xCheckBudget_l1]
    refine (br_f (decide_eq_false (by first | omega | (dsimp only; omega)))).trans ?_
    by_cases c : lf T e a e.length < 0
    · refine (br_t (decide_eq_true c)).trans ((r_ret _).trans ?_)
      unfold fnV fnE
      rw [if_pos c, if_pos c]; rfl
    · refine (br_f (decide_eq_false c)).trans ((r_ret _).trans ?_)
      unfold fnV fnE
      rw [if_neg c, if_neg c]; rfl

/-- What a budget leaves, and the error. -/
def bgE (T : Int) (e a : List Int) : Int := if ¬ (0 ≤ T ∧ T ≤ 100000000) then 2 else if 30 < e.length then 8 else if a.length ≠ e.length then 10 else buG T e a
def bgV (T : Int) (e a : List Int) : Int := if ¬ (0 ≤ T ∧ T ≤ 100000000) then 0 else if 30 < e.length then 0 else if a.length ≠ e.length then 0 else buV T e a
theorem k_CheckBudget {T : Int} {e a : List Int} : optics_CheckBudget (T, e, a) = some ((bgV T e a, bgE T e a, ()), ()) := by
  simp only [optics_CheckBudget, T_optics_CheckBudget]
  unfold bgV bgE
  have kw := k_within T 0 100000000
  refine (r_bs kw).trans ?_
  by_cases c0 : 0 ≤ T ∧ T ≤ 100000000
  · refine (br_f (by simp [c0])).trans ?_
    have n0 : ¬ ¬ (0 ≤ T ∧ T ≤ 100000000) := fun h => h c0
    rw [if_neg n0, if_neg n0]
    by_cases c1 : 30 < e.length
    · rw [if_pos c1, if_pos c1]
      exact (br_t (decide_eq_true (by first | omega | (dsimp only; omega)))).trans (r_ret _)
    · rw [if_neg c1, if_neg c1]
      refine (br_f (decide_eq_false (by first | omega | (dsimp only; omega)))).trans ?_
      by_cases c2 : a.length = e.length
      · have n2 : ¬ (a.length ≠ e.length) := fun h => h c2
        rw [if_neg n2, if_neg n2]
        refine (br_f (by rw [decide_eq_true (show ((a.length : Nat) : Int) = e.length by omega)]; rfl)).trans ?_
        rw [r_iter]
        have hTT := mul_bd (a := T) (b := T) (m := 100000000) (n := 100000000) (by omega) (by omega) (by omega) (by omega)
        try dsimp only
        rw [w64' (x := T * T) (by omega) (by omega)]
        exact k_bud c0 (by omega) c2
      · rw [if_pos c2, if_pos c2]
        exact (br_t (by rw [decide_eq_false (show ¬ ((a.length : Nat) : Int) = e.length by omega)]; rfl)).trans (r_ret _)
  · rw [if_pos c0, if_pos c0]
    exact (br_t (by simp only [c0, decide_false, Bool.not_false])).trans (r_ret _)
def ctE (T : Int) (n : Int) : Int := if ¬ (0 ≤ T ∧ T ≤ 100000000) then 2 else if 30 < n then 8 else 0
theorem k_CheckTotal (T n : Int) : ref02xCheckTotal T n = some ((ctE T n, ()), ()) := by
  simp only [ref02xCheckTotal, T_ref02xCheckTotal, ctE]
  by_cases c0 : 0 ≤ T ∧ T ≤ 100000000
  · by_cases c1 : 30 < n
    · simp (maxSteps := 1000000) (disch := first | omega | assumption) only [↓r_ret, ↓r_fail, ↓r_br, ↓r_bind, ↓r_iter, ↓r_req, decide_eq_true_eq, Bool.not_eq_eq_eq_not, decide_eq_false_iff_not, ite_not, inB_t', app_t', bnd_t', str_t', nz_t, Int.reduceEq, Int.reduceLT, Int.reduceLE, w64', Option.bind_some, Option.bind_none, List.length_cons, List.length_nil, List.length_append, Nat.zero_add, if_pos, if_neg, decide_true, decide_false, if_true, if_false, Bool.not_true, Bool.not_false, Bool.false_eq_true, Bool.true_eq_false, not_true_eq_false, not_false_eq_true, ↓reduceIte, List.nil_append, k_Within, c0, c1, and_self]
    · simp (maxSteps := 1000000) (disch := first | omega | assumption) only [↓r_ret, ↓r_fail, ↓r_br, ↓r_bind, ↓r_iter, ↓r_req, decide_eq_true_eq, Bool.not_eq_eq_eq_not, decide_eq_false_iff_not, ite_not, inB_t', app_t', bnd_t', str_t', nz_t, Int.reduceEq, Int.reduceLT, Int.reduceLE, w64', Option.bind_some, Option.bind_none, List.length_cons, List.length_nil, List.length_append, Nat.zero_add, if_pos, if_neg, decide_true, decide_false, if_true, if_false, Bool.not_true, Bool.not_false, Bool.false_eq_true, Bool.true_eq_false, not_true_eq_false, not_false_eq_true, ↓reduceIte, List.nil_append, k_Within, c0, c1, and_self]
  · simp (maxSteps := 1000000) (disch := first | omega | assumption) only [↓r_ret, ↓r_fail, ↓r_br, ↓r_bind, ↓r_iter, ↓r_req, decide_eq_true_eq, Bool.not_eq_eq_eq_not, decide_eq_false_iff_not, ite_not, inB_t', app_t', bnd_t', str_t', nz_t, Int.reduceEq, Int.reduceLT, Int.reduceLE, w64', Option.bind_some, Option.bind_none, List.length_cons, List.length_nil, List.length_append, Nat.zero_add, if_pos, if_neg, decide_true, decide_false, if_true, if_false, Bool.not_true, Bool.not_false, Bool.false_eq_true, Bool.true_eq_false, not_true_eq_false, not_false_eq_true, ↓reduceIte, List.nil_append, k_Within, c0]
theorem k_rCheckBudget {T : Int} {e a : List Int} : ref02xCheckBudget (T, e, a) = some ((bgV T e a, bgE T e a, ()), ()) := by
  simp only [ref02xCheckBudget, T_ref02xCheckBudget]
  unfold bgV bgE
  refine (r_bs (k_CheckTotal T e.length)).trans ?_
  unfold ctE
  by_cases c0 : 0 ≤ T ∧ T ≤ 100000000
  · have n0 : ¬ ¬ (0 ≤ T ∧ T ≤ 100000000) := fun h => h c0
    rw [if_neg n0, if_neg n0, if_neg n0]
    by_cases c1 : 30 < e.length
    · rw [if_pos c1, if_pos c1, if_pos (by omega)]
      exact (br_t rfl).trans (r_ret _)
    · rw [if_neg c1, if_neg c1, if_neg (by omega)]
      refine (br_f rfl).trans ?_
      by_cases c2 : a.length = e.length
      · have n2 : ¬ (a.length ≠ e.length) := fun h => h c2
        rw [if_neg n2, if_neg n2]
        refine (br_f (by rw [decide_eq_true (show ((a.length : Nat) : Int) = e.length by omega)]; rfl)).trans ?_
        rw [r_iter]
        have hTT := mul_bd (a := T) (b := T) (m := 100000000) (n := 100000000) (by omega) (by omega) (by omega) (by omega)
        try dsimp only
        rw [w64' (x := T * T) (by omega) (by omega)]
        exact k_rbud c0 (by omega) c2
      · rw [if_pos c2, if_pos c2]
        exact (br_t (by rw [decide_eq_false (show ¬ ((a.length : Nat) : Int) = e.length by omega)]; rfl)).trans (r_ret _)
  · rw [if_pos c0, if_pos c0, if_pos c0]
    exact (br_t rfl).trans (r_ret _)
end Go.Ab
