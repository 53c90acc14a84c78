/- Elements and their matrix. -/
import Derived.Test.YtpgagefaneaioaaH3
import Derived.Test.YtpgagefaneaioaaR1
namespace Go.Ab
open Go
set_option maxRecDepth 1000000
set_option maxHeartbeats 1000000
set_option linter.unusedVariables false
set_option linter.unusedSimpArgs false
attribute [local congr] bindC iterC



/-- The error of an element, of elements. -/
def elemE (x : Int × Int) : Int := if ¬ (1 ≤ x.1 ∧ x.1 ≤ 3) then 15 else if ¬ (-10000000 ≤ x.2 ∧ x.2 ≤ 10000000) then 2 else if x.1 = 1 then (if x.2 < 0 then 2 else 0) else if x.2 = 0 then 2 else 0
def elE (l : List (Int × Int)) : Int := if 20 < l.length then 8 else firstErr (fun i => elemE (gi l i)) l.length
theorem k_rCheckElements {l : List (Int × Int)} (hl : l.length ≤ 1099511627776) : ref02xCheckElements l = some ((elE l, ()), ()) := by
  simp only [ref02xCheckElements, T_ref02xCheckElements, elE]
  by_cases h : 20 < l.length
  · have h' : (20 : Int) < l.length := by omega
    simp (maxSteps := 1000000) (disch := first | omega | assumption) only [↓r_ret, ↓r_fail, ↓r_br, ↓r_bind, ↓r_iter, ↓r_req, decide_eq_true_eq, Bool.not_eq_eq_eq_not, decide_eq_false_iff_not, ite_not, inB_t', app_t', bnd_t', str_t', nz_t, Int.reduceEq, Int.reduceLT, Int.reduceLE, w64', Option.bind_some, Option.bind_none, List.length_cons, List.length_nil, List.length_append, Nat.zero_add, if_pos, if_neg, decide_true, decide_false, if_true, if_false, Bool.not_true, Bool.not_false, Bool.false_eq_true, Bool.true_eq_false, not_true_eq_false, not_false_eq_true, ↓reduceIte, List.nil_append, h, h']
  · have h' : ¬ (20 : Int) < l.length := by omega
    simp (maxSteps := 1000000) (disch := first | omega | assumption) only [↓r_ret, ↓r_fail, ↓r_br, ↓r_bind, ↓r_iter, ↓r_req, decide_eq_true_eq, Bool.not_eq_eq_eq_not, decide_eq_false_iff_not, ite_not, inB_t', app_t', bnd_t', str_t', nz_t, Int.reduceEq, Int.reduceLT, Int.reduceLE, w64', Option.bind_some, Option.bind_none, List.length_cons, List.length_nil, List.length_append, Nat.zero_add, if_pos, if_neg, decide_true, decide_false, if_true, if_false, Bool.not_true, Bool.not_false, Bool.false_eq_true, Bool.true_eq_false, not_true_eq_false, not_false_eq_true, ↓reduceIte, List.nil_append, h, h']
    refine iter_err (fun i => ((i : Int), ())) (fun i => elemE (gi l i)) l.length (by omega) (fun e => ((e, ()), ())) ?_ ?_ ?_
    all_goals try intro i hi _ hc
    all_goals try simp only [elemE] at hc ⊢
    all_goals simp only [T_ref02xCheckElements_l0]
    · by_cases c1 : 1 ≤ (gi l (i : Int)).1 ∧ (gi l (i : Int)).1 ≤ 3
      · by_cases c2 : -10000000 ≤ (gi l (i : Int)).2 ∧ (gi l (i : Int)).2 ≤ 10000000
        · by_cases c3 : (gi l (i : Int)).1 = 1
          · by_cases c4 : (gi l (i : Int)).2 < 0
            · simp (maxSteps := 1000000) (disch := first | omega | assumption) only [↓r_ret, ↓r_fail, ↓r_br, ↓r_bind, ↓r_iter, ↓r_req, decide_eq_true_eq, Bool.not_eq_eq_eq_not, decide_eq_false_iff_not, ite_not, inB_t', app_t', bnd_t', str_t', nz_t, Int.reduceEq, Int.reduceLT, Int.reduceLE, w64', Option.bind_some, Option.bind_none, List.length_cons, List.length_nil, List.length_append, Nat.zero_add, if_pos, if_neg, decide_true, decide_false, if_true, if_false, Bool.not_true, Bool.not_false, Bool.false_eq_true, Bool.true_eq_false, not_true_eq_false, not_false_eq_true, ↓reduceIte, List.nil_append, k_Within, c1, c2, c3, c4, and_self]
            · simp [c1, c2, c3, c4] at hc
          · by_cases c4 : (gi l (i : Int)).2 = 0
            · simp (maxSteps := 1000000) (disch := first | omega | assumption) only [↓r_ret, ↓r_fail, ↓r_br, ↓r_bind, ↓r_iter, ↓r_req, decide_eq_true_eq, Bool.not_eq_eq_eq_not, decide_eq_false_iff_not, ite_not, inB_t', app_t', bnd_t', str_t', nz_t, Int.reduceEq, Int.reduceLT, Int.reduceLE, w64', Option.bind_some, Option.bind_none, List.length_cons, List.length_nil, List.length_append, Nat.zero_add, if_pos, if_neg, decide_true, decide_false, if_true, if_false, Bool.not_true, Bool.not_false, Bool.false_eq_true, Bool.true_eq_false, not_true_eq_false, not_false_eq_true, ↓reduceIte, List.nil_append, k_Within, c1, c2, c3, c4, and_self]
            · simp [c1, c2, c3, c4] at hc
        · simp (maxSteps := 1000000) (disch := first | omega | assumption) only [↓r_ret, ↓r_fail, ↓r_br, ↓r_bind, ↓r_iter, ↓r_req, decide_eq_true_eq, Bool.not_eq_eq_eq_not, decide_eq_false_iff_not, ite_not, inB_t', app_t', bnd_t', str_t', nz_t, Int.reduceEq, Int.reduceLT, Int.reduceLE, w64', Option.bind_some, Option.bind_none, List.length_cons, List.length_nil, List.length_append, Nat.zero_add, if_pos, if_neg, decide_true, decide_false, if_true, if_false, Bool.not_true, Bool.not_false, Bool.false_eq_true, Bool.true_eq_false, not_true_eq_false, not_false_eq_true, ↓reduceIte, List.nil_append, k_Within, c1, c2, and_self]
      · simp (maxSteps := 1000000) (disch := first | omega | assumption) only [↓r_ret, ↓r_fail, ↓r_br, ↓r_bind, ↓r_iter, ↓r_req, decide_eq_true_eq, Bool.not_eq_eq_eq_not, decide_eq_false_iff_not, ite_not, inB_t', app_t', bnd_t', str_t', nz_t, Int.reduceEq, Int.reduceLT, Int.reduceLE, w64', Option.bind_some, Option.bind_none, List.length_cons, List.length_nil, List.length_append, Nat.zero_add, if_pos, if_neg, decide_true, decide_false, if_true, if_false, Bool.not_true, Bool.not_false, Bool.false_eq_true, Bool.true_eq_false, not_true_eq_false, not_false_eq_true, ↓reduceIte, List.nil_append, k_Within, c1]
    · by_cases c1 : 1 ≤ (gi l (i : Int)).1 ∧ (gi l (i : Int)).1 ≤ 3
      · by_cases c2 : -10000000 ≤ (gi l (i : Int)).2 ∧ (gi l (i : Int)).2 ≤ 10000000
        · by_cases c3 : (gi l (i : Int)).1 = 1
          · by_cases c4 : (gi l (i : Int)).2 < 0
            · simp [c1, c2, c3, c4] at hc
            · simp (maxSteps := 1000000) (disch := first | omega | assumption) only [↓r_ret, ↓r_fail, ↓r_br, ↓r_bind, ↓r_iter, ↓r_req, decide_eq_true_eq, Bool.not_eq_eq_eq_not, decide_eq_false_iff_not, ite_not, inB_t', app_t', bnd_t', str_t', nz_t, Int.reduceEq, Int.reduceLT, Int.reduceLE, w64', Option.bind_some, Option.bind_none, List.length_cons, List.length_nil, List.length_append, Nat.zero_add, if_pos, if_neg, decide_true, decide_false, if_true, if_false, Bool.not_true, Bool.not_false, Bool.false_eq_true, Bool.true_eq_false, not_true_eq_false, not_false_eq_true, ↓reduceIte, List.nil_append, k_Within, c1, c2, c3, c4, and_self]
              rfl
          · by_cases c4 : (gi l (i : Int)).2 = 0
            · simp [c1, c2, c3, c4] at hc
            · simp (maxSteps := 1000000) (disch := first | omega | assumption) only [↓r_ret, ↓r_fail, ↓r_br, ↓r_bind, ↓r_iter, ↓r_req, decide_eq_true_eq, Bool.not_eq_eq_eq_not, decide_eq_false_iff_not, ite_not, inB_t', app_t', bnd_t', str_t', nz_t, Int.reduceEq, Int.reduceLT, Int.reduceLE, w64', Option.bind_some, Option.bind_none, List.length_cons, List.length_nil, List.length_append, Nat.zero_add, if_pos, if_neg, decide_true, decide_false, if_true, if_false, Bool.not_true, Bool.not_false, Bool.false_eq_true, Bool.true_eq_false, not_true_eq_false, not_false_eq_true, ↓reduceIte, List.nil_append, k_Within, c1, c2, c3, c4, and_self]
              rfl
        · simp [c1, c2] at hc
      · rw [if_pos c1] at hc; cases hc
    · intro _
      simp (maxSteps := 1000000) (disch := first | omega | assumption) only [↓r_ret, ↓r_fail, ↓r_br, ↓r_bind, ↓r_iter, ↓r_req, decide_eq_true_eq, Bool.not_eq_eq_eq_not, decide_eq_false_iff_not, ite_not, inB_t', app_t', bnd_t', str_t', nz_t, Int.reduceEq, Int.reduceLT, Int.reduceLE, w64', Option.bind_some, Option.bind_none, List.length_cons, List.length_nil, List.length_append, Nat.zero_add, if_pos, if_neg, decide_true, decide_false, if_true, if_false, Bool.not_true, Bool.not_false, Bool.false_eq_true, Bool.true_eq_false, not_true_eq_false, not_false_eq_true, ↓reduceIte, List.nil_append, ]
theorem k_CheckElements {l : List (Int × Int)} (hl : l.length ≤ 1099511627776) : optics_CheckElements l = some ((elE l, ()), ()) := by
  simp only [optics_CheckElements, T_optics_CheckElements, elE]
  by_cases h : 20 < l.length
  · have h' : (20 : Int) < l.length := by omega
    simp (maxSteps := 1000000) (disch := first | omega | assumption) only [↓r_ret, ↓r_fail, ↓r_br, ↓r_bind, ↓r_iter, ↓r_req, decide_eq_true_eq, Bool.not_eq_eq_eq_not, decide_eq_false_iff_not, ite_not, inB_t', app_t', bnd_t', str_t', nz_t, Int.reduceEq, Int.reduceLT, Int.reduceLE, w64', Option.bind_some, Option.bind_none, List.length_cons, List.length_nil, List.length_append, Nat.zero_add, if_pos, if_neg, decide_true, decide_false, if_true, if_false, Bool.not_true, Bool.not_false, Bool.false_eq_true, Bool.true_eq_false, not_true_eq_false, not_false_eq_true, ↓reduceIte, List.nil_append, h, h']
  · have h' : ¬ (20 : Int) < l.length := by omega
    simp (maxSteps := 1000000) (disch := first | omega | assumption) only [↓r_ret, ↓r_fail, ↓r_br, ↓r_bind, ↓r_iter, ↓r_req, decide_eq_true_eq, Bool.not_eq_eq_eq_not, decide_eq_false_iff_not, ite_not, inB_t', app_t', bnd_t', str_t', nz_t, Int.reduceEq, Int.reduceLT, Int.reduceLE, w64', Option.bind_some, Option.bind_none, List.length_cons, List.length_nil, List.length_append, Nat.zero_add, if_pos, if_neg, decide_true, decide_false, if_true, if_false, Bool.not_true, Bool.not_false, Bool.false_eq_true, Bool.true_eq_false, not_true_eq_false, not_false_eq_true, ↓reduceIte, List.nil_append, h, h']
    refine iter_err (fun i => ((i : Int), ())) (fun i => elemE (gi l i)) l.length (by omega) (fun e => ((e, ()), ())) ?_ ?_ ?_
    all_goals try intro i hi _ hc
    all_goals try simp only [elemE] at hc ⊢
    all_goals simp only [T_optics_CheckElements_l0]
    · by_cases c1 : 1 ≤ (gi l (i : Int)).1 ∧ (gi l (i : Int)).1 ≤ 3
      · by_cases c2 : -10000000 ≤ (gi l (i : Int)).2 ∧ (gi l (i : Int)).2 ≤ 10000000
        · by_cases c3 : (gi l (i : Int)).1 = 1
          · by_cases c4 : (gi l (i : Int)).2 < 0
            · simp (maxSteps := 1000000) (disch := first | omega | assumption) only [↓r_ret, ↓r_fail, ↓r_br, ↓r_bind, ↓r_iter, ↓r_req, decide_eq_true_eq, Bool.not_eq_eq_eq_not, decide_eq_false_iff_not, ite_not, inB_t', app_t', bnd_t', str_t', nz_t, Int.reduceEq, Int.reduceLT, Int.reduceLE, w64', Option.bind_some, Option.bind_none, List.length_cons, List.length_nil, List.length_append, Nat.zero_add, if_pos, if_neg, decide_true, decide_false, if_true, if_false, Bool.not_true, Bool.not_false, Bool.false_eq_true, Bool.true_eq_false, not_true_eq_false, not_false_eq_true, ↓reduceIte, List.nil_append, k_within, k_small, c1, c2, c3, c4, and_self]
            · simp [c1, c2, c3, c4] at hc
          · by_cases c4 : (gi l (i : Int)).2 = 0
            · simp (maxSteps := 1000000) (disch := first | omega | assumption) only [↓r_ret, ↓r_fail, ↓r_br, ↓r_bind, ↓r_iter, ↓r_req, decide_eq_true_eq, Bool.not_eq_eq_eq_not, decide_eq_false_iff_not, ite_not, inB_t', app_t', bnd_t', str_t', nz_t, Int.reduceEq, Int.reduceLT, Int.reduceLE, w64', Option.bind_some, Option.bind_none, List.length_cons, List.length_nil, List.length_append, Nat.zero_add, if_pos, if_neg, decide_true, decide_false, if_true, if_false, Bool.not_true, Bool.not_false, Bool.false_eq_true, Bool.true_eq_false, not_true_eq_false, not_false_eq_true, ↓reduceIte, List.nil_append, k_within, k_small, c1, c2, c3, c4, and_self]
            · simp [c1, c2, c3, c4] at hc
        · simp (maxSteps := 1000000) (disch := first | omega | assumption) only [↓r_ret, ↓r_fail, ↓r_br, ↓r_bind, ↓r_iter, ↓r_req, decide_eq_true_eq, Bool.not_eq_eq_eq_not, decide_eq_false_iff_not, ite_not, inB_t', app_t', bnd_t', str_t', nz_t, Int.reduceEq, Int.reduceLT, Int.reduceLE, w64', Option.bind_some, Option.bind_none, List.length_cons, List.length_nil, List.length_append, Nat.zero_add, if_pos, if_neg, decide_true, decide_false, if_true, if_false, Bool.not_true, Bool.not_false, Bool.false_eq_true, Bool.true_eq_false, not_true_eq_false, not_false_eq_true, ↓reduceIte, List.nil_append, k_within, k_small, c1, c2, and_self]
      · simp (maxSteps := 1000000) (disch := first | omega | assumption) only [↓r_ret, ↓r_fail, ↓r_br, ↓r_bind, ↓r_iter, ↓r_req, decide_eq_true_eq, Bool.not_eq_eq_eq_not, decide_eq_false_iff_not, ite_not, inB_t', app_t', bnd_t', str_t', nz_t, Int.reduceEq, Int.reduceLT, Int.reduceLE, w64', Option.bind_some, Option.bind_none, List.length_cons, List.length_nil, List.length_append, Nat.zero_add, if_pos, if_neg, decide_true, decide_false, if_true, if_false, Bool.not_true, Bool.not_false, Bool.false_eq_true, Bool.true_eq_false, not_true_eq_false, not_false_eq_true, ↓reduceIte, List.nil_append, k_within, k_small, c1]
    · by_cases c1 : 1 ≤ (gi l (i : Int)).1 ∧ (gi l (i : Int)).1 ≤ 3
      · by_cases c2 : -10000000 ≤ (gi l (i : Int)).2 ∧ (gi l (i : Int)).2 ≤ 10000000
        · by_cases c3 : (gi l (i : Int)).1 = 1
          · by_cases c4 : (gi l (i : Int)).2 < 0
            · simp [c1, c2, c3, c4] at hc
            · simp (maxSteps := 1000000) (disch := first | omega | assumption) only [↓r_ret, ↓r_fail, ↓r_br, ↓r_bind, ↓r_iter, ↓r_req, decide_eq_true_eq, Bool.not_eq_eq_eq_not, decide_eq_false_iff_not, ite_not, inB_t', app_t', bnd_t', str_t', nz_t, Int.reduceEq, Int.reduceLT, Int.reduceLE, w64', Option.bind_some, Option.bind_none, List.length_cons, List.length_nil, List.length_append, Nat.zero_add, if_pos, if_neg, decide_true, decide_false, if_true, if_false, Bool.not_true, Bool.not_false, Bool.false_eq_true, Bool.true_eq_false, not_true_eq_false, not_false_eq_true, ↓reduceIte, List.nil_append, k_within, k_small, c1, c2, c3, c4, and_self]
              rfl
          · by_cases c4 : (gi l (i : Int)).2 = 0
            · simp [c1, c2, c3, c4] at hc
            · simp (maxSteps := 1000000) (disch := first | omega | assumption) only [↓r_ret, ↓r_fail, ↓r_br, ↓r_bind, ↓r_iter, ↓r_req, decide_eq_true_eq, Bool.not_eq_eq_eq_not, decide_eq_false_iff_not, ite_not, inB_t', app_t', bnd_t', str_t', nz_t, Int.reduceEq, Int.reduceLT, Int.reduceLE, w64', Option.bind_some, Option.bind_none, List.length_cons, List.length_nil, List.length_append, Nat.zero_add, if_pos, if_neg, decide_true, decide_false, if_true, if_false, Bool.not_true, Bool.not_false, Bool.false_eq_true, Bool.true_eq_false, not_true_eq_false, not_false_eq_true, ↓reduceIte, List.nil_append, k_within, k_small, c1, c2, c3, c4, and_self]
              rfl
        · simp [c1, c2] at hc
      · rw [if_pos c1] at hc; cases hc
    · intro _
      simp (maxSteps := 1000000) (disch := first | omega | assumption) only [↓r_ret, ↓r_fail, ↓r_br, ↓r_bind, ↓r_iter, ↓r_req, decide_eq_true_eq, Bool.not_eq_eq_eq_not, decide_eq_false_iff_not, ite_not, inB_t', app_t', bnd_t', str_t', nz_t, Int.reduceEq, Int.reduceLT, Int.reduceLE, w64', Option.bind_some, Option.bind_none, List.length_cons, List.length_nil, List.length_append, Nat.zero_add, if_pos, if_neg, decide_true, decide_false, if_true, if_false, Bool.not_true, Bool.not_false, Bool.false_eq_true, Bool.true_eq_false, not_true_eq_false, not_false_eq_true, ↓reduceIte, List.nil_append, ]
/-- A right element. -/
def ElOk (x : Int × Int) : Prop := (1 ≤ x.1 ∧ x.1 ≤ 3) ∧ (-10000000 ≤ x.2 ∧ x.2 ≤ 10000000) ∧ (x.1 = 1 → 0 ≤ x.2) ∧ (x.1 ≠ 1 → x.2 ≠ 0)
theorem elemE_ok {x : Int × Int} (h : elemE x = 0) : ElOk x := by
  unfold elemE at h
  split at h; · cases h
  split at h; · cases h
  rename_i h1 h2
  refine ⟨Decidable.of_not_not h1, Decidable.of_not_not h2, fun h3 => ?_, fun h3 => ?_⟩
  · rw [if_pos h3] at h; split at h
    · cases h
    · omega
  · rw [if_neg h3] at h; split at h
    · cases h
    · assumption
theorem elE_ok {l : List (Int × Int)} (h : elE l = 0) : l.length ≤ 20 ∧ ∀ i : Nat, i < l.length → ElOk (gi l i) := by
  unfold elE at h
  split at h; · cases h
  exact ⟨by omega, fun i hi => elemE_ok (firstErr_eq0 h i hi)⟩

/-- One element more: the matrix, and whether a part was large on the way. -/
def stepV (x : Int × Int) (m : Mx) : Mx :=
  if x.1 = 1 then (addv m.1 (mulv (x.2, 1) m.2.2.1), addv m.2.1 (mulv (x.2, 1) m.2.2.2), m.2.2.1, m.2.2.2)
  else (m.1, m.2.1, subv m.2.2.1 (mulv (quov (if x.1 = 2 then 2 else 1, 1) (x.2, 1)) m.1), subv m.2.2.2 (mulv (quov (if x.1 = 2 then 2 else 1, 1) (x.2, 1)) m.2.1))
def stepL (l : Bool) (x : Int × Int) (m : Mx) : Bool :=
  if x.1 = 1 then l || mull (x.2, 1) m.2.2.1 || addl m.1 (mulv (x.2, 1) m.2.2.1) || mull (x.2, 1) m.2.2.2 || addl m.2.1 (mulv (x.2, 1) m.2.2.2)
  else l || quol (if x.1 = 2 then 2 else 1, 1) (x.2, 1) || mull (quov (if x.1 = 2 then 2 else 1, 1) (x.2, 1)) m.1 || subl m.2.2.1 (mulv (quov (if x.1 = 2 then 2 else 1, 1) (x.2, 1)) m.1) ||
    mull (quov (if x.1 = 2 then 2 else 1, 1) (x.2, 1)) m.2.1 || subl m.2.2.2 (mulv (quov (if x.1 = 2 then 2 else 1, 1) (x.2, 1)) m.2.1)
theorem stepV_small {x : Int × Int} {m : Mx} (h : SmallM m) : SmallM (stepV x m) := by
  obtain ⟨h1, h2, h3, h4⟩ := h
  unfold stepV
  split
  · exact ⟨small_addv _ _, small_addv _ _, h3, h4⟩
  · exact ⟨h1, h2, small_subv _ _, small_subv _ _⟩
def one4 : Mx := ((1, 1), (0, 1), (0, 1), (1, 1))
theorem one4_small : SmallM one4 := ⟨small_one (by decide) (by decide), small_one (by decide) (by decide), small_one (by decide) (by decide), small_one (by decide) (by decide)⟩
/-- The matrix of the first elements, and whether a part was large on the way. -/
def matP (l : List (Int × Int)) : Nat → Bool × Mx
  | 0 => (false, one4)
  | n + 1 => (stepL (matP l n).1 (gi l n) (matP l n).2, stepV (gi l n) (matP l n).2)
theorem matP_small (l : List (Int × Int)) : ∀ n, SmallM (matP l n).2
  | 0 => one4_small
  | n + 1 => stepV_small (matP_small l n)
def zero4 : Mx := ((0, 0), (0, 0), (0, 0), (0, 0))
def matR (l : List (Int × Int)) : Mx := if (matP l l.length).1 = true then zero4 else (matP l l.length).2

theorem quol_one {s : Int} (h : s ≠ 0) (h1 : -10000000 ≤ s) (h2 : s ≤ 10000000) (b : Int) (hb : b = 1 ∨ b = 2) : quol (b, 1) (s, 1) = false := by
  have hb' := low_bd (n := b * 1) (d := 1 * s) (by omega)
  have hs := low_is (n := b * 1) (d := 1 * s) (by omega)
  have : Small (low (b * 1) (1 * s)) := ⟨hs, by omega, by omega, by omega⟩
  simp only [quol, lg, h, if_false, this, decide_true, Bool.not_true]

theorem k_rMatrixOf {l : List (Int × Int)} (h : elE l = 0) : ref02xMatrixOf l = some ((matR l, e8 (matP l l.length).1, ()), ()) := by
  obtain ⟨hl, hx⟩ := elE_ok h
  simp only [ref02xMatrixOf, T_ref02xMatrixOf]
  simp (maxSteps := 1000000) (disch := first | omega | assumption) only [↓r_ret, ↓r_fail, ↓r_br, ↓r_bind, ↓r_iter, ↓r_req, decide_eq_true_eq, Bool.not_eq_eq_eq_not, decide_eq_false_iff_not, ite_not, inB_t', app_t', bnd_t', str_t', nz_t, Int.reduceEq, Int.reduceLT, Int.reduceLE, w64', Option.bind_some, Option.bind_none, List.length_cons, List.length_nil, List.length_append, Nat.zero_add, if_pos, if_neg, decide_true, decide_false, if_true, if_false, Bool.not_true, Bool.not_false, Bool.false_eq_true, Bool.true_eq_false, not_true_eq_false, not_false_eq_true, ↓reduceIte, List.nil_append, k_rWhole]
  refine iter_eq (fun i x => x = ((i : Int), (matP l i).1, (matP l i).2, ())) _ l.length (by omega) ?_ rfl
  rintro i x hi rfl
  have hm := matP_small l i
  have hd : matP l (i + 1) = (stepL (matP l i).1 (gi l i) (matP l i).2, stepV (gi l i) (matP l i).2) := rfl
  by_cases hlt : i < l.length
  · left
    obtain ⟨c1, c2, c3, c4⟩ := hx i hlt
    refine ⟨_, ?_, hlt, rfl⟩
    rw [hd]
    generalize hmm : (matP l i).2 = m at *
    generalize (matP l i).1 = w at *
    obtain ⟨m1, m2, m3, m4⟩ := hm
    generalize hxx : gi l (i : Int) = x at *
    have sx : Small (x.2, 1) := small_one (by omega) (by omega)
    have s1 : Small (1, 1) := small_one (by decide) (by decide)
    have s2 : Small (2, 1) := small_one (by decide) (by decide)
    have e1 : IntKind.i64.wrap ((i : Int) + 1) = ((i + 1 : Nat) : Int) := by rw [w64' (by omega) (by omega)]; rfl
    simp only [T_ref02xMatrixOf_l4, hxx]
    by_cases k1 : x.1 = 1
    · simp (maxSteps := 1000000) (disch := first | assumption | exact small_mulv _ _ | exact small_addv _ _ | exact small_subv _ _ | exact small_quov _ _ | exact Small.i1 (by assumption) | exact Small.i2 (by assumption) | omega) only [↓r_ret, ↓r_fail, ↓r_br, ↓r_bind, ↓r_iter, ↓r_req, decide_eq_true_eq, Bool.not_eq_eq_eq_not, decide_eq_false_iff_not, ite_not, inB_t', app_t', bnd_t', str_t', nz_t, Int.reduceEq, Int.reduceLT, Int.reduceLE, w64', Option.bind_some, Option.bind_none, List.length_cons, List.length_nil, List.length_append, Nat.zero_add, if_pos, if_neg, decide_true, decide_false, if_true, if_false, Bool.not_true, Bool.not_false, Bool.false_eq_true, Bool.true_eq_false, not_true_eq_false, not_false_eq_true, ↓reduceIte, List.nil_append, eta2, k_rWhole, k_rMul, k_rAdd, k1, stepL, stepV, e1]
    · by_cases k2 : x.1 = 2
      · have q1 := quol_one (c4 k1) c2.1 c2.2 1 (.inl rfl)
        simp (maxSteps := 1000000) (disch := first | assumption | exact small_mulv _ _ | exact small_addv _ _ | exact small_subv _ _ | exact small_quov _ _ | exact Small.i1 (by assumption) | exact Small.i2 (by assumption) | omega) only [↓r_ret, ↓r_fail, ↓r_br, ↓r_bind, ↓r_iter, ↓r_req, decide_eq_true_eq, Bool.not_eq_eq_eq_not, decide_eq_false_iff_not, ite_not, inB_t', app_t', bnd_t', str_t', nz_t, Int.reduceEq, Int.reduceLT, Int.reduceLE, w64', Option.bind_some, Option.bind_none, List.length_cons, List.length_nil, List.length_append, Nat.zero_add, if_pos, if_neg, decide_true, decide_false, if_true, if_false, Bool.not_true, Bool.not_false, Bool.false_eq_true, Bool.true_eq_false, not_true_eq_false, not_false_eq_true, ↓reduceIte, List.nil_append, eta2, k_rWhole, k_rMul, k_rQuo, k_rSub, k2, stepL, stepV, e1, q1, Bool.or_false]
      · simp (maxSteps := 1000000) (disch := first | assumption | exact small_mulv _ _ | exact small_addv _ _ | exact small_subv _ _ | exact small_quov _ _ | exact Small.i1 (by assumption) | exact Small.i2 (by assumption) | omega) only [↓r_ret, ↓r_fail, ↓r_br, ↓r_bind, ↓r_iter, ↓r_req, decide_eq_true_eq, Bool.not_eq_eq_eq_not, decide_eq_false_iff_not, ite_not, inB_t', app_t', bnd_t', str_t', nz_t, Int.reduceEq, Int.reduceLT, Int.reduceLE, w64', Option.bind_some, Option.bind_none, List.length_cons, List.length_nil, List.length_append, Nat.zero_add, if_pos, if_neg, decide_true, decide_false, if_true, if_false, Bool.not_true, Bool.not_false, Bool.false_eq_true, Bool.true_eq_false, not_true_eq_false, not_false_eq_true, ↓reduceIte, List.nil_append, eta2, k_rWhole, k_rMul, k_rQuo, k_rSub, k1, k2, stepL, stepV, e1]
  · right
    have : i = l.length := by omega
    subst this
    simp only [T_ref02xMatrixOf_l4]
    unfold matR
    cases (matP l l.length).1 with
    | true => simp (maxSteps := 1000000) (disch := first | omega | assumption) only [↓r_ret, ↓r_fail, ↓r_br, ↓r_bind, ↓r_iter, ↓r_req, decide_eq_true_eq, Bool.not_eq_eq_eq_not, decide_eq_false_iff_not, ite_not, inB_t', app_t', bnd_t', str_t', nz_t, Int.reduceEq, Int.reduceLT, Int.reduceLE, w64', Option.bind_some, Option.bind_none, List.length_cons, List.length_nil, List.length_append, Nat.zero_add, if_pos, if_neg, decide_true, decide_false, if_true, if_false, Bool.not_true, Bool.not_false, Bool.false_eq_true, Bool.true_eq_false, not_true_eq_false, not_false_eq_true, ↓reduceIte, List.nil_append, ]; rfl
    | false => simp (maxSteps := 1000000) (disch := first | omega | assumption) only [↓r_ret, ↓r_fail, ↓r_br, ↓r_bind, ↓r_iter, ↓r_req, decide_eq_true_eq, Bool.not_eq_eq_eq_not, decide_eq_false_iff_not, ite_not, inB_t', app_t', bnd_t', str_t', nz_t, Int.reduceEq, Int.reduceLT, Int.reduceLE, w64', Option.bind_some, Option.bind_none, List.length_cons, List.length_nil, List.length_append, Nat.zero_add, if_pos, if_neg, decide_true, decide_false, if_true, if_false, Bool.not_true, Bool.not_false, Bool.false_eq_true, Bool.true_eq_false, not_true_eq_false, not_false_eq_true, ↓reduceIte, List.nil_append, eta2]; rfl

def AgreeM (l : Bool) (m m' : Mx) : Prop := Agree l m.1 m'.1 ∧ Agree l m.2.1 m'.2.1 ∧ Agree l m.2.2.1 m'.2.2.1 ∧ Agree l m.2.2.2 m'.2.2.2
theorem AgreeM.same {m m' : Mx} (h : AgreeM false m m') : m' = m :=
  Prod.ext (h.1.same rfl) (Prod.ext (h.2.1.same rfl) (Prod.ext (h.2.2.1.same rfl) (h.2.2.2.same rfl)))

theorem k_matrix {l : List (Int × Int)} (h : elE l = 0) : ∃ m', AgreeM (matP l l.length).1 (matP l l.length).2 m' ∧ optics_counter_matrix l 0 = some ((m', ()), (e8 (matP l l.length).1, ())) := by
  obtain ⟨hl, hx⟩ := elE_ok h
  simp only [optics_counter_matrix, T_optics_counter_matrix]
  simp (maxSteps := 1000000) (disch := first | omega | assumption) only [↓r_ret, ↓r_fail, ↓r_br, ↓r_bind, ↓r_iter, ↓r_req, decide_eq_true_eq, Bool.not_eq_eq_eq_not, decide_eq_false_iff_not, ite_not, inB_t', app_t', bnd_t', str_t', nz_t, Int.reduceEq, Int.reduceLT, Int.reduceLE, w64', Option.bind_some, Option.bind_none, List.length_cons, List.length_nil, List.length_append, Nat.zero_add, if_pos, if_neg, decide_true, decide_false, if_true, if_false, Bool.not_true, Bool.not_false, Bool.false_eq_true, Bool.true_eq_false, not_true_eq_false, not_false_eq_true, ↓reduceIte, List.nil_append, k_owhole]
  obtain ⟨r, h1, m', h2, h3⟩ := iter_post (b := fun y : Int × Int × Mx × Unit => (T_optics_counter_matrix_l4 l y.1 y.2.1 y.2.2.1).run) (x0 := (0, 0, ((1, 1), (0, 1), (0, 1), (1, 1)), ()))
    (fun i x => ∃ m', x = ((i : Int), e8 (matP l i).1, m', ()) ∧ AgreeM (matP l i).1 (matP l i).2 m') (fun r => ∃ m', r = ((m', ()), (e8 (matP l l.length).1, ())) ∧ AgreeM (matP l l.length).1 (matP l l.length).2 m') l.length (by omega) (by
    rintro i x hi ⟨m', rfl, hm⟩
    have hd : matP l (i + 1) = (stepL (matP l i).1 (gi l i) (matP l i).2, stepV (gi l i) (matP l i).2) := rfl
    by_cases hlt : i < l.length
    · left
      obtain ⟨c1, c2, c3, c4⟩ := hx i hlt
      simp only [hd]
      generalize hmm : (matP l i).2 = m at *
      generalize (matP l i).1 = w at *
      obtain ⟨m1, m2, m3, m4⟩ := hm
      generalize hxx : gi l (i : Int) = x at *
      have sx : Small (x.2, 1) := small_one (by omega) (by omega)
      have s1 : Small (1, 1) := small_one (by decide) (by decide)
      have s2 : Small (2, 1) := small_one (by decide) (by decide)
      have e1 : IntKind.i64.wrap ((i : Int) + 1) = ((i + 1 : Nat) : Int) := by rw [w64' (by omega) (by omega)]; rfl
      have b0 : decide ((i : Int) < l.length) = true := decide_eq_true (by omega)
      have b3 : inB (i : Int) l.length = true := inB_t' (by omega) (by omega)
      simp only [T_optics_counter_matrix_l4, hxx]
      by_cases k1 : x.1 = 1
      · obtain ⟨v1, g1, q1⟩ := c_mul (l := w) (.self sx) m3
        obtain ⟨v2, g2, q2⟩ := c_addA g1 m1.o g1
        obtain ⟨v3, g3, q3⟩ := c_mulA g2 (.self sx) m4.o.o
        obtain ⟨v4, g4, q4⟩ := c_addA g3 m2.o.o.o g3
        refine ⟨_, by simp (maxSteps := 1000000) (disch := first | omega | assumption) only [↓r_ret, ↓r_fail, ↓r_br, ↓r_bind, ↓r_iter, ↓r_req, decide_eq_true_eq, Bool.not_eq_eq_eq_not, decide_eq_false_iff_not, ite_not, inB_t', app_t', bnd_t', str_t', nz_t, Int.reduceEq, Int.reduceLT, Int.reduceLE, w64', Option.bind_some, Option.bind_none, List.length_cons, List.length_nil, List.length_append, Nat.zero_add, if_pos, if_neg, decide_true, decide_false, if_true, if_false, Bool.not_true, Bool.not_false, Bool.false_eq_true, Bool.true_eq_false, not_true_eq_false, not_false_eq_true, ↓reduceIte, List.nil_append, k_owhole, q1, q2, q3, q4, eta2, k1, e1] <;> rfl, hlt, (v2, v4, m'.2.2.1, m'.2.2.2), ?_, ?_⟩
        · simp only [stepL, k1, if_true]
        · simp only [stepL, stepV, k1, if_true]
          exact ⟨g2.o.o, g4, m3.o.o.o.o, m4.o.o.o.o⟩
      · have b1 : decide (x.1 = 1) = false := decide_eq_false k1
        by_cases k2 : x.1 = 2
        · obtain ⟨v0, g0, q0⟩ := c_quo (l := w) (.self s2) (.self sx) (fun _ => c4 k1)
          obtain ⟨v1, g1, q1⟩ := c_mulA g0 g0 m1.o
          obtain ⟨v2, g2, q2⟩ := c_subA g1 m3.o.o g1
          obtain ⟨v3, g3, q3⟩ := c_mulA g2 g0.o.o m2.o.o.o
          obtain ⟨v4, g4, q4⟩ := c_subA g3 m4.o.o.o.o g3
          have hb : (if x.1 = 2 then (2 : Int) else 1) = 2 := if_pos k2
          refine ⟨_, by rw [br_t b0, r_req, if_pos b3, br_f b1, br_t (decide_eq_true k2), r_bs (k_owhole 2), r_bs (k_owhole x.2), r_bs q0, r_bs q1, r_bs q2, r_bs q3, r_bs q4, r_ret, e1], hlt, (m'.1, m'.2.1, v2, v4), ?_, ?_⟩
          · simp only [stepL, hb, k1, if_false]
          · simp only [stepL, stepV, hb, k1, if_false]
            exact ⟨m1.o.o.o.o.o, m2.o.o.o.o.o, g2.o.o, g4⟩
        · have hb : (if x.1 = 2 then (2 : Int) else 1) = 1 := if_neg k2
          obtain ⟨v0, g0, q0⟩ := c_quo (l := w) (.self s1) (.self sx) (fun _ => c4 k1)
          obtain ⟨v1, g1, q1⟩ := c_mulA g0 g0 m1.o
          obtain ⟨v2, g2, q2⟩ := c_subA g1 m3.o.o g1
          obtain ⟨v3, g3, q3⟩ := c_mulA g2 g0.o.o m2.o.o.o
          obtain ⟨v4, g4, q4⟩ := c_subA g3 m4.o.o.o.o g3
          refine ⟨_, by rw [br_t b0, r_req, if_pos b3, br_f b1, br_f (decide_eq_false k2), r_bs (k_owhole 1), r_bs (k_owhole x.2), r_bs q0, r_bs q1, r_bs q2, r_bs q3, r_bs q4, r_ret, e1], hlt, (m'.1, m'.2.1, v2, v4), ?_, ?_⟩
          · simp only [stepL, hb, k1, if_false]
          · simp only [stepL, stepV, hb, k1, if_false]
            exact ⟨m1.o.o.o.o.o, m2.o.o.o.o.o, g2.o.o, g4⟩
    · right
      have : i = l.length := by omega
      subst this
      refine ⟨_, ?_, m', rfl, hm⟩
      simp only [T_optics_counter_matrix_l4]
      simp (maxSteps := 1000000) (disch := first | omega | assumption) only [↓r_ret, ↓r_fail, ↓r_br, ↓r_bind, ↓r_iter, ↓r_req, decide_eq_true_eq, Bool.not_eq_eq_eq_not, decide_eq_false_iff_not, ite_not, inB_t', app_t', bnd_t', str_t', nz_t, Int.reduceEq, Int.reduceLT, Int.reduceLE, w64', Option.bind_some, Option.bind_none, List.length_cons, List.length_nil, List.length_append, Nat.zero_add, if_pos, if_neg, decide_true, decide_false, if_true, if_false, Bool.not_true, Bool.not_false, Bool.false_eq_true, Bool.true_eq_false, not_true_eq_false, not_false_eq_true, ↓reduceIte, List.nil_append, eta2]) ⟨one4, rfl, .self one4_small.1, .self one4_small.2.1, .self one4_small.2.2.1, .self one4_small.2.2.2⟩
  subst h2
  exact ⟨m', h3, h1⟩
theorem k_MatrixOf {l : List (Int × Int)} (h : elE l = 0) : optics_MatrixOf l = some ((matR l, e8 (matP l l.length).1, ()), ()) := by
  obtain ⟨hl, _⟩ := elE_ok h
  obtain ⟨m', hm, hq⟩ := k_matrix h
  have kc := k_CheckElements (l := l) (by omega)
  rw [h] at kc
  have kt := k_toldM m' (matP l l.length).1
  simp only [optics_MatrixOf, T_optics_MatrixOf]
  simp (maxSteps := 1000000) (disch := first | omega | assumption) only [↓r_ret, ↓r_fail, ↓r_br, ↓r_bind, ↓r_iter, ↓r_req, decide_eq_true_eq, Bool.not_eq_eq_eq_not, decide_eq_false_iff_not, ite_not, inB_t', app_t', bnd_t', str_t', nz_t, Int.reduceEq, Int.reduceLT, Int.reduceLE, w64', Option.bind_some, Option.bind_none, List.length_cons, List.length_nil, List.length_append, Nat.zero_add, if_pos, if_neg, decide_true, decide_false, if_true, if_false, Bool.not_true, Bool.not_false, Bool.false_eq_true, Bool.true_eq_false, not_true_eq_false, not_false_eq_true, ↓reduceIte, List.nil_append, kc, hq, kt, eta2]
  unfold matR zero4
  generalize hL : (matP l l.length).1 = L at *
  cases L with
  | true => rfl
  | false => rw [hm.same]
theorem k_MatrixOfE {l : List (Int × Int)} (hl : l.length ≤ 1099511627776) (h : ¬ elE l = 0) : optics_MatrixOf l = some ((zero4, elE l, ()), ()) := by
  have kc := k_CheckElements hl
  simp only [optics_MatrixOf, T_optics_MatrixOf]
  simp (maxSteps := 1000000) (disch := first | omega | assumption) only [↓r_ret, ↓r_fail, ↓r_br, ↓r_bind, ↓r_iter, ↓r_req, decide_eq_true_eq, Bool.not_eq_eq_eq_not, decide_eq_false_iff_not, ite_not, inB_t', app_t', bnd_t', str_t', nz_t, Int.reduceEq, Int.reduceLT, Int.reduceLE, w64', Option.bind_some, Option.bind_none, List.length_cons, List.length_nil, List.length_append, Nat.zero_add, if_pos, if_neg, decide_true, decide_false, if_true, if_false, Bool.not_true, Bool.not_false, Bool.false_eq_true, Bool.true_eq_false, not_true_eq_false, not_false_eq_true, ↓reduceIte, List.nil_append, kc, h, zero4]
end Go.Ab
