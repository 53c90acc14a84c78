/- Tables of reflectances: CheckCurve and At of the program and of the reference. -/
import Derived.Test.YtpnpehoebfdcoaaQ0
import Derived.Test.YtpnpehoebfdcoaaB1
import Derived.Test.YtpnpehoebfdcoaaG3
namespace Go.Ab
open Go
set_option maxRecDepth 1000000
set_option maxHeartbeats 1000000
set_option linter.unusedVariables false
set_option linter.unusedSimpArgs false

theorem awake_ok : law08xawake = some ((true, ()), ()) := by kernel_rfl
theorem k_within (n lo hi : Int) : coat_within n lo hi = some ((decide (lo ≤ n ∧ n ≤ hi), ()), ()) := by
  simp only [coat_within, T_coat_within, r_br, r_ret]
  by_cases h : lo ≤ n <;> simp [h]
theorem k_Within (n lo hi : Int) : base_Within n lo hi = some ((decide (lo ≤ n ∧ n ≤ hi), ()), ()) := by
  simp only [base_Within, T_base_Within, r_br, r_ret]
  by_cases h : lo ≤ n <;> simp [h]
theorem k_floor {n b : Int} (hb : 0 < b) (hb' : b ≤ 9223372036854775807) (h1 : -9223372036854775807 ≤ n) (h2 : n ≤ 9223372036854775807) : coat_floor n b = some ((n / b, ()), ()) := by
  have t := tdiv_bd hb h1 h2
  have d := ediv_bd hb h1 h2
  have e := fdiv_eq' (a := n) hb
  have z : b ≠ 0 := by omega
  simp only [coat_floor, T_coat_floor]
  by_cases hm : n.tmod b < 0
  · rw [if_pos hm] at e
    simp (maxSteps := 1000000) (disch := first | omega | assumption) only [↓r_ret, ↓r_fail, ↓r_br, ↓r_bind, ↓r_iter, ↓r_req, decide_eq_true_eq, Bool.not_eq_eq_eq_not, decide_eq_false_iff_not, ite_not, inB_t', app_t', bnd_t', str_t', nz_t, Int.reduceEq, Int.reduceLT, Int.reduceLE, w64', Option.bind_some, Option.bind_none, List.length_cons, List.length_nil, List.length_append, Nat.zero_add, if_pos, if_neg, decide_true, decide_false, if_true, if_false, Bool.not_true, Bool.not_false, Bool.false_eq_true, Bool.true_eq_false, not_true_eq_false, not_false_eq_true, ↓reduceIte, List.nil_append, z, hm, e]
  · rw [if_neg hm] at e
    simp (maxSteps := 1000000) (disch := first | omega | assumption) only [↓r_ret, ↓r_fail, ↓r_br, ↓r_bind, ↓r_iter, ↓r_req, decide_eq_true_eq, Bool.not_eq_eq_eq_not, decide_eq_false_iff_not, ite_not, inB_t', app_t', bnd_t', str_t', nz_t, Int.reduceEq, Int.reduceLT, Int.reduceLE, w64', Option.bind_some, Option.bind_none, List.length_cons, List.length_nil, List.length_append, Nat.zero_add, if_pos, if_neg, decide_true, decide_false, if_true, if_false, Bool.not_true, Bool.not_false, Bool.false_eq_true, Bool.true_eq_false, not_true_eq_false, not_false_eq_true, ↓reduceIte, List.nil_append, z, hm, e]
theorem k_ceil {n b : Int} (hb : 0 < b) (hb' : b ≤ 9223372036854775807) (h1 : -9223372036854775807 ≤ n) (h2 : n ≤ 9223372036854775807) : coat_ceil n b = some ((-(-n / b), ()), ()) := by
  have k := k_floor (n := -n) hb hb' (by omega) (by omega)
  have d := ediv_bd (n := -n) (m := 9223372036854775807) hb (by omega) (by omega)
  simp only [coat_ceil, T_coat_ceil]
  simp (maxSteps := 1000000) (disch := first | omega | assumption) only [↓r_ret, ↓r_fail, ↓r_br, ↓r_bind, ↓r_iter, ↓r_req, decide_eq_true_eq, Bool.not_eq_eq_eq_not, decide_eq_false_iff_not, ite_not, inB_t', app_t', bnd_t', str_t', nz_t, Int.reduceEq, Int.reduceLT, Int.reduceLE, w64', Option.bind_some, Option.bind_none, List.length_cons, List.length_nil, List.length_append, Nat.zero_add, if_pos, if_neg, decide_true, decide_false, if_true, if_false, Bool.not_true, Bool.not_false, Bool.false_eq_true, Bool.true_eq_false, not_true_eq_false, not_false_eq_true, ↓reduceIte, List.nil_append, k, Int.zero_sub]
theorem k_Floor {n b : Int} (hb : 0 < b) (hb' : b ≤ 9223372036854775807) (h1 : -9223372036854775807 ≤ n) (h2 : n ≤ 9223372036854775807) : base_Floor n b = some ((n / b, ()), ()) := by
  have t := tdiv_bd hb h1 h2
  have d := ediv_bd hb h1 h2
  have e := fdiv_eq' (a := n) hb
  have z : b ≠ 0 := by omega
  simp only [base_Floor, T_base_Floor]
  by_cases hm : n.tmod b < 0
  · rw [if_pos hm] at e
    simp (maxSteps := 1000000) (disch := first | omega | assumption) only [↓r_ret, ↓r_fail, ↓r_br, ↓r_bind, ↓r_iter, ↓r_req, decide_eq_true_eq, Bool.not_eq_eq_eq_not, decide_eq_false_iff_not, ite_not, inB_t', app_t', bnd_t', str_t', nz_t, Int.reduceEq, Int.reduceLT, Int.reduceLE, w64', Option.bind_some, Option.bind_none, List.length_cons, List.length_nil, List.length_append, Nat.zero_add, if_pos, if_neg, decide_true, decide_false, if_true, if_false, Bool.not_true, Bool.not_false, Bool.false_eq_true, Bool.true_eq_false, not_true_eq_false, not_false_eq_true, ↓reduceIte, List.nil_append, z, hm, e]
  · rw [if_neg hm] at e
    simp (maxSteps := 1000000) (disch := first | omega | assumption) only [↓r_ret, ↓r_fail, ↓r_br, ↓r_bind, ↓r_iter, ↓r_req, decide_eq_true_eq, Bool.not_eq_eq_eq_not, decide_eq_false_iff_not, ite_not, inB_t', app_t', bnd_t', str_t', nz_t, Int.reduceEq, Int.reduceLT, Int.reduceLE, w64', Option.bind_some, Option.bind_none, List.length_cons, List.length_nil, List.length_append, Nat.zero_add, if_pos, if_neg, decide_true, decide_false, if_true, if_false, Bool.not_true, Bool.not_false, Bool.false_eq_true, Bool.true_eq_false, not_true_eq_false, not_false_eq_true, ↓reduceIte, List.nil_append, z, hm, e]
theorem k_Ceil {n b : Int} (hb : 0 < b) (hb' : b ≤ 9223372036854775807) (h1 : -9223372036854775807 ≤ n) (h2 : n ≤ 9223372036854775807) : base_Ceil n b = some ((-(-n / b), ()), ()) := by
  have k := k_Floor (n := -n) hb hb' (by omega) (by omega)
  have d := ediv_bd (n := -n) (m := 9223372036854775807) hb (by omega) (by omega)
  simp only [base_Ceil, T_base_Ceil]
  simp (maxSteps := 1000000) (disch := first | omega | assumption) only [↓r_ret, ↓r_fail, ↓r_br, ↓r_bind, ↓r_iter, ↓r_req, decide_eq_true_eq, Bool.not_eq_eq_eq_not, decide_eq_false_iff_not, ite_not, inB_t', app_t', bnd_t', str_t', nz_t, Int.reduceEq, Int.reduceLT, Int.reduceLE, w64', Option.bind_some, Option.bind_none, List.length_cons, List.length_nil, List.length_append, Nat.zero_add, if_pos, if_neg, decide_true, decide_false, if_true, if_false, Bool.not_true, Bool.not_false, Bool.false_eq_true, Bool.true_eq_false, not_true_eq_false, not_false_eq_true, ↓reduceIte, List.nil_append, k, Int.zero_sub]

abbrev Cur := List (Int × Int × Int)
/-- The error of a row. -/
def cvE (l : Cur) (i : Nat) : Int :=
  if ¬ (1 ≤ (gi l (i : Int)).1 ∧ (gi l (i : Int)).1 ≤ 100000) then 2 else if ¬ (0 ≤ (gi l (i : Int)).2.1 ∧ (gi l (i : Int)).2.1 ≤ (gi l (i : Int)).2.2) then 2
  else if 1000 < (gi l (i : Int)).2.2 then 2 else if 0 < i ∧ (gi l (i : Int)).1 ≤ (gi l ((i : Int) - 1)).1 then 9 else 0
def curveE (l : Cur) : Int := if 2 ≤ l.length ∧ l.length ≤ 60 then firstErr (cvE l) l.length else 10

theorem row_p {l : Cur} {i : Nat} (hi : i < l.length) (hl : l.length ≤ 60) : (T_coat_CheckCurve_l1 l (i : Int)).run = if cvE l i = 0 then some (.inl ((i : Int) + 1, ())) else some (.inr ((cvE l i, ()), ())) := by
  unfold T_coat_CheckCurve_l1
  refine (br_t (decide_eq_true (by omega))).trans ?_
  refine (q_of (inB_t' (by omega) (by omega))).trans ?_
  refine (r_bs (k_within _ _ _)).trans ?_
  by_cases h1 : 1 ≤ (gi l (i : Int)).1 ∧ (gi l (i : Int)).1 ≤ 100000
  · refine (br_f (by simp [h1])).trans ?_
    refine (r_bs (k_within _ _ _)).trans ?_
    by_cases h2 : 0 ≤ (gi l (i : Int)).2.1 ∧ (gi l (i : Int)).2.1 ≤ (gi l (i : Int)).2.2
    · refine (br_f (by simp [h2])).trans ?_
      by_cases h3 : 1000 < (gi l (i : Int)).2.2
      · refine (br_t (decide_eq_true h3)).trans ?_
        simp [cvE, h1, h2, h3, r_ret]
      · refine (br_f (decide_eq_false h3)).trans ?_
        by_cases h4 : 0 < i
        · refine (br_t (decide_eq_true (by omega))).trans ?_
          rw [w64' (x := (i : Int) - 1) (by omega) (by omega), w64' (x := (i : Int) + 1) (by omega) (by omega)]
          refine (q_of (inB_t' (by omega) (by omega))).trans ?_
          by_cases h5 : (gi l (i : Int)).1 ≤ (gi l ((i : Int) - 1)).1
          · refine (br_t (decide_eq_true h5)).trans ?_
            simp [cvE, h1, h2, h3, h4, h5, r_ret]
          · refine (br_f (decide_eq_false h5)).trans ?_
            simp [cvE, h1, h2, h3, h4, h5, r_ret]
        · refine (br_f (decide_eq_false (by omega))).trans ?_
          rw [w64' (x := (i : Int) + 1) (by omega) (by omega)]
          simp [cvE, h1, h2, h3, h4, r_ret]
    · refine (br_t (by simp [h2])).trans ?_
      simp [cvE, h1, h2, r_ret]
  · refine (br_t (by simp [h1])).trans ?_
    simp [cvE, h1, r_ret]
theorem row_r {l : Cur} {i : Nat} (hi : i < l.length) (hl : l.length ≤ 60) : (T_ref08xCheckCurve_l1 l (i : Int)).run = if cvE l i = 0 then some (.inl ((i : Int) + 1, ())) else some (.inr ((cvE l i, ()), ())) := by
  unfold T_ref08xCheckCurve_l1
  have q := inB_t' (n := (i : Int)) (len := l.length) (by omega) (by omega)
  refine (br_t (decide_eq_true (by omega))).trans ?_
  refine (q_of q).trans ?_
  refine (r_bs (k_Within _ _ _)).trans ?_
  by_cases h1 : 1 ≤ (gi l (i : Int)).1 ∧ (gi l (i : Int)).1 ≤ 100000
  · refine (br_f (by simp [h1])).trans ?_
    refine (q_of q).trans ?_
    refine (q_of q).trans ?_
    refine (r_bs (k_Within _ _ _)).trans ?_
    by_cases h2 : 0 ≤ (gi l (i : Int)).2.1 ∧ (gi l (i : Int)).2.1 ≤ (gi l (i : Int)).2.2
    · refine (br_f (by simp [h2])).trans ?_
      refine (q_of q).trans ?_
      by_cases h3 : 1000 < (gi l (i : Int)).2.2
      · refine (br_t (decide_eq_true h3)).trans ?_
        simp [cvE, h1, h2, h3, r_ret]
      · refine (br_f (decide_eq_false h3)).trans ?_
        by_cases h4 : 0 < i
        · refine (br_t (decide_eq_true (by omega))).trans ?_
          rw [w64' (x := (i : Int) - 1) (by omega) (by omega), w64' (x := (i : Int) + 1) (by omega) (by omega)]
          refine (q_of q).trans ?_
          refine (q_of (inB_t' (by omega) (by omega))).trans ?_
          by_cases h5 : (gi l (i : Int)).1 ≤ (gi l ((i : Int) - 1)).1
          · refine (br_t (decide_eq_true h5)).trans ?_
            simp [cvE, h1, h2, h3, h4, h5, r_ret]
          · refine (br_f (decide_eq_false h5)).trans ?_
            simp [cvE, h1, h2, h3, h4, h5, r_ret]
        · refine (br_f (decide_eq_false (by omega))).trans ?_
          rw [w64' (x := (i : Int) + 1) (by omega) (by omega)]
          simp [cvE, h1, h2, h3, h4, r_ret]
    · refine (br_t (by simp [h2])).trans ?_
      simp [cvE, h1, h2, r_ret]
  · refine (br_t (by simp [h1])).trans ?_
    simp [cvE, h1, r_ret]

theorem k_CheckCurve (l : Cur) : coat_CheckCurve l = some ((curveE l, ()), ()) := by
  simp only [coat_CheckCurve, T_coat_CheckCurve, curveE]
  refine (r_bs (k_within _ _ _)).trans ?_
  by_cases h : 2 ≤ l.length ∧ l.length ≤ 60
  · have h' : (2 : Int) ≤ l.length ∧ (l.length : Int) ≤ 60 := by omega
    refine (br_f (by simp [h'])).trans ?_
    rw [if_pos h, r_iter]
    refine iter_err (fun i => ((i : Int), ())) (cvE l) l.length (by omega) (fun e => ((e, ()), ())) (fun i hi _ he => ?_) (fun i hi _ he => ?_) (fun _ => ?_)
    · exact (row_p hi h.2).trans (if_neg he)
    · exact (row_p hi h.2).trans (if_pos he)
    · exact (br_f (decide_eq_false (by omega))).trans (r_ret _)
  · have h' : ¬ ((2 : Int) ≤ l.length ∧ (l.length : Int) ≤ 60) := by omega
    refine (br_t (by simp only [h', decide_false]; rfl)).trans ?_
    rw [if_neg h]; exact r_ret _
theorem k_rCheckCurve (l : Cur) : ref08xCheckCurve l = some ((curveE l, ()), ()) := by
  simp only [ref08xCheckCurve, T_ref08xCheckCurve, curveE]
  refine (r_bs (k_Within _ _ _)).trans ?_
  by_cases h : 2 ≤ l.length ∧ l.length ≤ 60
  · have h' : (2 : Int) ≤ l.length ∧ (l.length : Int) ≤ 60 := by omega
    refine (br_f (by simp [h'])).trans ?_
    rw [if_pos h, r_iter]
    refine iter_err (fun i => ((i : Int), ())) (cvE l) l.length (by omega) (fun e => ((e, ()), ())) (fun i hi _ he => ?_) (fun i hi _ he => ?_) (fun _ => ?_)
    · exact (row_r hi h.2).trans (if_neg he)
    · exact (row_r hi h.2).trans (if_pos he)
    · exact (br_f (decide_eq_false (by omega))).trans (r_ret _)
  · have h' : ¬ ((2 : Int) ≤ l.length ∧ (l.length : Int) ≤ 60) := by omega
    refine (br_t (by simp only [h', decide_false]; rfl)).trans ?_
    rw [if_neg h]; exact r_ret _

/-- A right table. -/
structure Cv (l : Cur) : Prop where
  len : 2 ≤ l.length ∧ l.length ≤ 60
  row : ∀ i : Nat, i < l.length → 1 ≤ (gi l (i : Int)).1 ∧ (gi l (i : Int)).1 ≤ 100000 ∧ 0 ≤ (gi l (i : Int)).2.1 ∧ (gi l (i : Int)).2.1 ≤ (gi l (i : Int)).2.2 ∧ (gi l (i : Int)).2.2 ≤ 1000
  up : ∀ i : Nat, i + 1 < l.length → (gi l (i : Int)).1 < (gi l ((i + 1 : Nat) : Int)).1
theorem cv_of {l : Cur} (h : curveE l = 0) : Cv l := by
  unfold curveE at h
  split at h
  · rename_i hl
    have hr := firstErr_eq0 h
    have key : ∀ i : Nat, i < l.length → (1 ≤ (gi l (i : Int)).1 ∧ (gi l (i : Int)).1 ≤ 100000) ∧ (0 ≤ (gi l (i : Int)).2.1 ∧ (gi l (i : Int)).2.1 ≤ (gi l (i : Int)).2.2) ∧ ¬ 1000 < (gi l (i : Int)).2.2 ∧ ¬ (0 < i ∧ (gi l (i : Int)).1 ≤ (gi l ((i : Int) - 1)).1) := fun i hi => by
      have := hr i hi
      unfold cvE at this
      split at this
      · cases this
      rename_i h1
      split at this
      · cases this
      rename_i h2
      split at this
      · cases this
      rename_i h3
      split at this
      · cases this
      rename_i h4
      exact ⟨Classical.not_not.1 h1, Classical.not_not.1 h2, h3, h4⟩
    refine ⟨hl, fun i hi => ?_, fun i hi => ?_⟩
    · obtain ⟨h1, h2, h3, _⟩ := key i hi
      omega
    · obtain ⟨_, _, _, h4⟩ := key (i + 1) hi
      have e : (((i + 1 : Nat) : Int) - 1) = (i : Int) := by omega
      rw [e] at h4
      omega
  · cases h
theorem Cv.mono {l : Cur} (h : Cv l) : ∀ j i : Nat, i < j → j < l.length → (gi l (i : Int)).1 < (gi l (j : Int)).1
  | 0, i, hi, _ => by omega
  | j + 1, i, hi, hj => by
    have := h.up j hj
    by_cases e : i = j
    · subst e; exact this
    · have := h.mono j i (by omega) (by omega)
      omega
end Go.Ab
