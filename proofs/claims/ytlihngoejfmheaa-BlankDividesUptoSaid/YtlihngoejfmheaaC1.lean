/- Annealings: what CheckAnnealing, LeastMinutes, StressOf and CoolSystem of the program and of the reference compute. -/
import Derived.Test.YtlihngoejfmheaaQ0
import Derived.Test.YtlihngoejfmheaaB1
import Derived.Test.YtlihngoejfmheaaG3
namespace Go.Ab
open Go
set_option maxRecDepth 1000000
set_option maxHeartbeats 1000000
set_option linter.unusedVariables false
set_option linter.unusedSimpArgs false

theorem awake_ok : law03xawake = some ((true, ()), ()) := by kernel_rfl
theorem k_within (n lo hi : Int) : blank_within n lo hi = some ((decide (lo ≤ n ∧ n ≤ hi), ()), ()) := by
  simp only [blank_within, T_blank_within, r_br, r_ret]
  by_cases h : lo ≤ n <;> simp [h]
theorem k_Within (n lo hi : Int) : base_Within n lo hi = some ((decide (lo ≤ n ∧ n ≤ hi), ()), ()) := by
  simp only [base_Within, T_base_Within, r_br, r_ret]
  by_cases h : lo ≤ n <;> simp [h]
theorem nd {p : Prop} [Decidable p] (h : p) : (!decide p) = false := by simp [h]
theorem nd' {p : Prop} [Decidable p] (h : ¬ p) : (!decide p) = true := by simp [h]

abbrev Tri := Int × Int × Int
abbrev Ann := Int × Int × List Tri × List Tri
def stE (s : Tri) : Int := if 1 ≤ s.1 ∧ s.1 ≤ 1000 then if 1 ≤ s.2.1 ∧ s.2.1 ≤ 1000000000 then if 1 ≤ s.2.2 ∧ s.2.2 ≤ 100000 then 0 else 2 else 2 else 2
def wiE (last : Int) (w : Tri) : Int := if 0 ≤ w.1 ∧ w.1 ≤ last then if 0 ≤ w.2.1 ∧ w.2.1 ≤ 1000000 then if 0 ≤ w.2.2 ∧ w.2.2 ≤ 1000000 then if w.2.2 < w.2.1 then 9 else 0 else 2 else 2 else 6
def anW (a : Ann) : Int := if 60 < a.2.2.2.length then 8 else firstErr (fun k => wiE (a.2.2.1.length : Int) (gi a.2.2.2 (k : Int))) a.2.2.2.length
def anS (a : Ann) : Int := firstErr (fun k => stE (gi a.2.2.1 (k : Int))) a.2.2.1.length
def annE (a : Ann) : Int := if 1 ≤ a.1 ∧ a.1 ≤ 500 then if 0 ≤ a.2.1 ∧ a.2.1 ≤ 1000 then if 1 ≤ a.2.2.1.length ∧ a.2.2.1.length ≤ 30 then if anS a = 0 then anW a else anS a else 10 else 2 else 2

theorem k_checkStep (s : Tri) : blank_checkStep s = some ((stE s, ()), ()) := by
  simp only [blank_checkStep, T_blank_checkStep, stE]
  refine (r_bs (k_within _ _ _)).trans ?_
  by_cases h1 : 1 ≤ s.1 ∧ s.1 ≤ 1000
  · refine (br_f (nd h1)).trans ?_
    rw [if_pos h1]
    refine (r_bs (k_within _ _ _)).trans ?_
    by_cases h2 : 1 ≤ s.2.1 ∧ s.2.1 ≤ 1000000000
    · refine (br_f (nd h2)).trans ?_
      rw [if_pos h2]
      refine (r_bs (k_within _ _ _)).trans ?_
      by_cases h3 : 1 ≤ s.2.2 ∧ s.2.2 ≤ 100000
      · refine (br_f (nd h3)).trans ?_
        rw [if_pos h3]; exact r_ret _
      · refine (br_t (nd' h3)).trans ?_
        rw [if_neg h3]; exact r_ret _
    · refine (br_t (nd' h2)).trans ?_
      rw [if_neg h2]; exact r_ret _
  · refine (br_t (nd' h1)).trans ?_
    rw [if_neg h1]; exact r_ret _
theorem k_checkWindow (w : Tri) (last : Int) : blank_checkWindow w last = some ((wiE last w, ()), ()) := by
  simp only [blank_checkWindow, T_blank_checkWindow, wiE]
  refine (r_bs (k_within _ _ _)).trans ?_
  by_cases h1 : 0 ≤ w.1 ∧ w.1 ≤ last
  · refine (br_f (nd h1)).trans ?_
    rw [if_pos h1]
    refine (r_bs (k_within _ _ _)).trans ?_
    by_cases h2 : 0 ≤ w.2.1 ∧ w.2.1 ≤ 1000000
    · refine (br_f (nd h2)).trans ?_
      rw [if_pos h2]
      refine (r_bs (k_within _ _ _)).trans ?_
      by_cases h3 : 0 ≤ w.2.2 ∧ w.2.2 ≤ 1000000
      · refine (br_f (nd h3)).trans ?_
        rw [if_pos h3]
        by_cases h4 : w.2.2 < w.2.1
        · refine (br_t (decide_eq_true h4)).trans ?_
          rw [if_pos h4]; exact r_ret _
        · refine (br_f (decide_eq_false h4)).trans ?_
          rw [if_neg h4]; exact r_ret _
      · refine (br_t (nd' h3)).trans ?_
        rw [if_neg h3]; exact r_ret _
    · refine (br_t (nd' h2)).trans ?_
      rw [if_neg h2]; exact r_ret _
  · refine (br_t (nd' h1)).trans ?_
    rw [if_neg h1]; exact r_ret _

theorem k_CheckAnnealing (a : Ann) : blank_CheckAnnealing a = some ((annE a, ()), ()) := by
  simp only [blank_CheckAnnealing, T_blank_CheckAnnealing, annE]
  refine (r_bs (k_within _ _ _)).trans ?_
  by_cases h1 : 1 ≤ a.1 ∧ a.1 ≤ 500
  · refine (br_f (nd h1)).trans ?_
    rw [if_pos h1]
    refine (r_bs (k_within _ _ _)).trans ?_
    by_cases h2 : 0 ≤ a.2.1 ∧ a.2.1 ≤ 1000
    · refine (br_f (nd h2)).trans ?_
      rw [if_pos h2]
      refine (r_bs (k_within _ _ _)).trans ?_
      by_cases h3 : 1 ≤ a.2.2.1.length ∧ a.2.2.1.length ≤ 30
      · refine (br_f (nd (by omega))).trans ?_
        rw [if_pos h3, r_iter]
        refine (iter_err (fun i => ((i : Int), ())) (fun k => stE (gi a.2.2.1 (k : Int))) a.2.2.1.length (by omega) (fun e => (((if e = 0 then anW a else e), ()), ())) (fun i hi _ he => ?_) (fun i hi _ he => ?_) (fun _ => ?_)).trans rfl
        · unfold T_blank_CheckAnnealing_l3
          refine (br_t (decide_eq_true (by omega))).trans ?_
          refine (q_of (inB_t' (by omega) (by omega))).trans ?_
          refine (r_bs (k_checkStep _)).trans ?_
          refine (br_t (nd' he)).trans ?_
          refine (r_ret _).trans ?_
          rw [if_neg he]
        · unfold T_blank_CheckAnnealing_l3
          refine (br_t (decide_eq_true (by omega))).trans ?_
          refine (q_of (inB_t' (by omega) (by omega))).trans ?_
          refine (r_bs (k_checkStep _)).trans ?_
          refine (br_f (nd he)).trans ?_
          rw [w64' (x := (i : Int) + 1) (by omega) (by omega)]
          exact r_ret _
        · unfold T_blank_CheckAnnealing_l3
          refine (br_f (decide_eq_false (by omega))).trans ?_
          rw [if_pos rfl]
          unfold anW
          by_cases h4 : 60 < a.2.2.2.length
          · refine (br_t (decide_eq_true (by omega))).trans ?_
            rw [if_pos h4]; exact r_ret _
          · refine (br_f (decide_eq_false (by omega))).trans ?_
            rw [if_neg h4, r_iter]
            refine (iter_err (fun i => ((i : Int), ())) (fun k => wiE (a.2.2.1.length : Int) (gi a.2.2.2 (k : Int))) a.2.2.2.length (by omega) (fun e => (Sum.inr ((e, ()), ()) : (Int × Unit) ⊕ ((Int × Unit) × Unit))) (fun i hi _ he => ?_) (fun i hi _ he => ?_) (fun _ => ?_))
            · unfold T_blank_CheckAnnealing_l5
              refine (br_t (decide_eq_true (by omega))).trans ?_
              refine (q_of (inB_t' (by omega) (by omega))).trans ?_
              refine (r_bs (k_checkWindow _ _)).trans ?_
              refine (br_t (nd' he)).trans ?_
              exact r_ret _
            · unfold T_blank_CheckAnnealing_l5
              refine (br_t (decide_eq_true (by omega))).trans ?_
              refine (q_of (inB_t' (by omega) (by omega))).trans ?_
              refine (r_bs (k_checkWindow _ _)).trans ?_
              refine (br_f (nd he)).trans ?_
              rw [w64' (x := (i : Int) + 1) (by omega) (by omega)]
              exact r_ret _
            · unfold T_blank_CheckAnnealing_l5
              refine (br_f (decide_eq_false (by omega))).trans ?_
              exact r_ret _
      · refine (br_t (nd' (by omega))).trans ?_
        rw [if_neg h3]; exact r_ret _
    · refine (br_t (nd' h2)).trans ?_
      rw [if_neg h2]; exact r_ret _
  · refine (br_t (nd' h1)).trans ?_
    rw [if_neg h1]; exact r_ret _

/-- A right annealing. -/
structure An (a : Ann) : Prop where
  th : 1 ≤ a.1 ∧ a.1 ≤ 500
  fa : 0 ≤ a.2.1 ∧ a.2.1 ≤ 1000
  len : 1 ≤ a.2.2.1.length ∧ a.2.2.1.length ≤ 30
  wl : a.2.2.2.length ≤ 60
  st : ∀ i : Nat, i < a.2.2.1.length → (1 ≤ (gi a.2.2.1 (i : Int)).1 ∧ (gi a.2.2.1 (i : Int)).1 ≤ 1000) ∧ (1 ≤ (gi a.2.2.1 (i : Int)).2.1 ∧ (gi a.2.2.1 (i : Int)).2.1 ≤ 1000000000) ∧ 1 ≤ (gi a.2.2.1 (i : Int)).2.2 ∧ (gi a.2.2.1 (i : Int)).2.2 ≤ 100000
  wi : ∀ i : Nat, i < a.2.2.2.length → (0 ≤ (gi a.2.2.2 (i : Int)).1 ∧ (gi a.2.2.2 (i : Int)).1 ≤ (a.2.2.1.length : Int)) ∧ (0 ≤ (gi a.2.2.2 (i : Int)).2.1 ∧ (gi a.2.2.2 (i : Int)).2.1 ≤ 1000000) ∧ (0 ≤ (gi a.2.2.2 (i : Int)).2.2 ∧ (gi a.2.2.2 (i : Int)).2.2 ≤ 1000000) ∧ (gi a.2.2.2 (i : Int)).2.1 ≤ (gi a.2.2.2 (i : Int)).2.2
theorem stE_0 {s : Tri} (h : stE s = 0) : (1 ≤ s.1 ∧ s.1 ≤ 1000) ∧ (1 ≤ s.2.1 ∧ s.2.1 ≤ 1000000000) ∧ 1 ≤ s.2.2 ∧ s.2.2 ≤ 100000 := by
  unfold stE at h
  split at h
  · rename_i h1
    split at h
    · rename_i h2
      split at h
      · rename_i h3; exact ⟨h1, h2, h3⟩
      · cases h
    · cases h
  · cases h
theorem wiE_0 {last : Int} {w : Tri} (h : wiE last w = 0) : (0 ≤ w.1 ∧ w.1 ≤ last) ∧ (0 ≤ w.2.1 ∧ w.2.1 ≤ 1000000) ∧ (0 ≤ w.2.2 ∧ w.2.2 ≤ 1000000) ∧ w.2.1 ≤ w.2.2 := by
  unfold wiE at h
  split at h
  · rename_i h1
    split at h
    · rename_i h2
      split at h
      · rename_i h3
        split at h
        · cases h
        · rename_i h4; exact ⟨h1, h2, h3, by omega⟩
      · cases h
    · cases h
  · cases h
theorem an_of {a : Ann} (h : annE a = 0) : An a := by
  unfold annE at h
  split at h
  · rename_i h1
    split at h
    · rename_i h2
      split at h
      · rename_i h3
        split at h
        · rename_i h4
          unfold anW at h
          split at h
          · cases h
          · rename_i h5
            exact ⟨h1, h2, h3, by omega, fun i hi => stE_0 (firstErr_eq0 h4 i hi), fun i hi => wiE_0 (firstErr_eq0 h i hi)⟩
        · rename_i h4; exact absurd h h4
      · cases h
    · cases h
  · cases h

/-! ### Quotients -/
theorem ceil_eq {n b : Int} (hb : 0 < b) : -(-n / b) = if n.tmod b = 0 then n / b else n / b + 1 := by
  have e := Int.mul_ediv_add_emod n b
  have r1 := Int.emod_nonneg n (show b ≠ 0 by omega)
  have r2 := Int.emod_lt_of_pos n hb
  have z : n.tmod b = 0 ↔ n % b = 0 := by rw [← Int.dvd_iff_tmod_eq_zero, ← Int.dvd_iff_emod_eq_zero]
  split
  · rename_i h
    rw [z] at h
    have := (Int.ediv_emod_unique (a := -n) (q := -(n / b)) (r := 0) hb).2 ⟨by rw [Int.mul_neg]; omega, by omega, hb⟩
    omega
  · rename_i h
    rw [z] at h
    have := (Int.ediv_emod_unique (a := -n) (q := -(n / b) - 1) (r := b - n % b) hb).2 ⟨by rw [Int.mul_sub, Int.mul_neg]; omega, by omega, by omega⟩
    omega
theorem k_rounded {n b : Int} (hb : 0 < b) (hb' : b ≤ 9223372036854775807) (h1 : -9000000000000000000 ≤ n) (h2 : n ≤ 9000000000000000000) : blank_rounded n b = some (((n / b, -(-n / b)), ()), ()) := by
  have t := tdiv_bd hb h1 h2
  have d := ediv_bd hb h1 h2
  have e := fdiv_eq' (a := n) hb
  have c := ceil_eq (n := n) hb
  have z : b ≠ 0 := by omega
  simp only [blank_rounded, T_blank_rounded]
  refine (q_of (nz_t z)).trans ?_
  refine (q_of (nz_t z)).trans ?_
  rw [w64' (x := n.tdiv b) (by omega) (by omega)]
  by_cases hm : n.tmod b < 0
  · rw [if_pos hm] at e
    rw [if_neg (by omega)] at c
    refine (br_t (decide_eq_true hm)).trans ?_
    refine (q_of (nz_t z)).trans ?_
    refine (br_t (nd' (by omega))).trans ?_
    rw [w64' (x := n.tdiv b - 1) (by omega) (by omega), w64' (x := n.tdiv b - 1 + 1) (by omega) (by omega), ← e, ← c]
    exact r_ret _
  · rw [if_neg hm] at e
    refine (br_f (decide_eq_false hm)).trans ?_
    refine (q_of (nz_t z)).trans ?_
    by_cases h0 : n.tmod b = 0
    · rw [if_pos h0] at c
      refine (br_f (nd h0)).trans ?_
      rw [c, e]
      exact r_ret _
    · rw [if_neg h0] at c
      refine (br_t (nd' h0)).trans ?_
      rw [w64' (x := n.tdiv b + 1) (by omega) (by omega), ← e, ← c]
      exact r_ret _
theorem k_ceil {n b : Int} (hb : 0 < b) (hb' : b ≤ 9223372036854775807) (h1 : -9000000000000000000 ≤ n) (h2 : n ≤ 9000000000000000000) : blank_ceil n b = some ((-(-n / b), ()), ()) := by
  simp only [blank_ceil, T_blank_ceil]
  exact (r_bs (k_rounded hb hb' h1 h2)).trans (r_ret _)
theorem k_Floor {n b : Int} (hb : 0 < b) (hb' : b ≤ 9223372036854775807) (h1 : -9000000000000000000 ≤ n) (h2 : n ≤ 9000000000000000000) : base_Floor n b = some ((n / b, ()), ()) := by
  have t := tdiv_bd hb h1 h2
  have d := ediv_bd hb h1 h2
  have e := fdiv_eq' (a := n) hb
  have z : b ≠ 0 := by omega
  simp only [base_Floor, T_base_Floor]
  by_cases hm : n.tmod b < 0
  · rw [if_pos hm] at e
    simp (maxSteps := 1000000) (disch := first | omega | assumption) only [↓r_ret, ↓r_fail, ↓r_br, ↓r_bind, ↓r_iter, ↓r_req, decide_eq_true_eq, Bool.not_eq_eq_eq_not, decide_eq_false_iff_not, ite_not, inB_t', app_t', bnd_t', str_t', nz_t, Int.reduceEq, Int.reduceLT, Int.reduceLE, w64', Option.bind_some, Option.bind_none, List.length_cons, List.length_nil, List.length_append, Nat.zero_add, if_pos, if_neg, decide_true, decide_false, if_true, if_false, Bool.not_true, Bool.not_false, Bool.false_eq_true, Bool.true_eq_false, not_true_eq_false, not_false_eq_true, ↓reduceIte, List.nil_append, z, hm, e]
  · rw [if_neg hm] at e
    simp (maxSteps := 1000000) (disch := first | omega | assumption) only [↓r_ret, ↓r_fail, ↓r_br, ↓r_bind, ↓r_iter, ↓r_req, decide_eq_true_eq, Bool.not_eq_eq_eq_not, decide_eq_false_iff_not, ite_not, inB_t', app_t', bnd_t', str_t', nz_t, Int.reduceEq, Int.reduceLT, Int.reduceLE, w64', Option.bind_some, Option.bind_none, List.length_cons, List.length_nil, List.length_append, Nat.zero_add, if_pos, if_neg, decide_true, decide_false, if_true, if_false, Bool.not_true, Bool.not_false, Bool.false_eq_true, Bool.true_eq_false, not_true_eq_false, not_false_eq_true, ↓reduceIte, List.nil_append, z, hm, e]
theorem k_Ceil {n b : Int} (hb : 0 < b) (hb' : b ≤ 9223372036854775807) (h1 : -9000000000000000000 ≤ n) (h2 : n ≤ 9000000000000000000) : base_Ceil n b = some ((-(-n / b), ()), ()) := by
  have k := k_Floor (n := -n) hb hb' (by omega) (by omega)
  have d := ediv_bd (n := -n) (m := 9000000000000000000) hb (by omega) (by omega)
  simp only [base_Ceil, T_base_Ceil]
  simp (maxSteps := 1000000) (disch := first | omega | assumption) only [↓r_ret, ↓r_fail, ↓r_br, ↓r_bind, ↓r_iter, ↓r_req, decide_eq_true_eq, Bool.not_eq_eq_eq_not, decide_eq_false_iff_not, ite_not, inB_t', app_t', bnd_t', str_t', nz_t, Int.reduceEq, Int.reduceLT, Int.reduceLE, w64', Option.bind_some, Option.bind_none, List.length_cons, List.length_nil, List.length_append, Nat.zero_add, if_pos, if_neg, decide_true, decide_false, if_true, if_false, Bool.not_true, Bool.not_false, Bool.false_eq_true, Bool.true_eq_false, not_true_eq_false, not_false_eq_true, ↓reduceIte, List.nil_append, k, Int.zero_sub]
/-! ### Stress -/
def work (a : Ann) (i : Int) : Int := a.2.1 * a.1 * a.1 * (gi a.2.2.1 i).1
def lm (a : Ann) (i : Int) : Int := max 1 (-(-(work a i) / (gi a.2.2.1 i).2.1))
theorem An.at {a : Ann} (h : An a) {i : Int} (h0 : 0 ≤ i) (hi : i < a.2.2.1.length) : (1 ≤ (gi a.2.2.1 i).1 ∧ (gi a.2.2.1 i).1 ≤ 1000) ∧ (1 ≤ (gi a.2.2.1 i).2.1 ∧ (gi a.2.2.1 i).2.1 ≤ 1000000000) ∧ 1 ≤ (gi a.2.2.1 i).2.2 ∧ (gi a.2.2.1 i).2.2 ≤ 100000 := by
  have := h.st i.toNat (by omega)
  rw [show ((i.toNat : Nat) : Int) = i by omega] at this
  exact this
theorem An.work3 {a : Ann} (h : An a) : (0 ≤ a.2.1 * a.1 ∧ a.2.1 * a.1 ≤ 500000) ∧ 0 ≤ a.2.1 * a.1 * a.1 ∧ a.2.1 * a.1 * a.1 ≤ 250000000 := by
  have h1 := h.th
  have h2 := h.fa
  have n1 := Int.mul_nonneg h2.1 (show 0 ≤ a.1 by omega)
  have m1 := mul_bd (a := a.2.1) (b := a.1) (m := 1000) (n := 500) (by omega) (by omega) (by omega) (by omega)
  have n2 := Int.mul_nonneg n1 (show 0 ≤ a.1 by omega)
  have m2 := mul_bd (a := a.2.1 * a.1) (b := a.1) (m := 500000) (n := 500) (by omega) (by omega) (by omega) (by omega)
  omega
theorem An.work_bd {a : Ann} (h : An a) {i : Int} (h0 : 0 ≤ i) (hi : i < a.2.2.1.length) : 0 ≤ work a i ∧ work a i ≤ 250000000000 := by
  have h3 := h.work3
  have h4 := h.at h0 hi
  have n3 := Int.mul_nonneg h3.2.1 (show 0 ≤ (gi a.2.2.1 i).1 by omega)
  have m3 := mul_bd (a := a.2.1 * a.1 * a.1) (b := (gi a.2.2.1 i).1) (m := 250000000) (n := 1000) (by omega) (by omega) (by omega) (by omega)
  unfold work
  omega
theorem An.lm_bd {a : Ann} (h : An a) {i : Int} (h0 : 0 ≤ i) (hi : i < a.2.2.1.length) : 1 ≤ lm a i ∧ lm a i ≤ 250000000000 := by
  have h3 := h.work_bd h0 hi
  have h4 := h.at h0 hi
  have := ediv_bd (n := -work a i) (m := 250000000000) (b := (gi a.2.2.1 i).2.1) (by omega) (by omega) (by omega)
  unfold lm
  omega
theorem k_strain {a : Ann} (h : An a) {i : Int} (h0 : 0 ≤ i) (hi : i < a.2.2.1.length) : blank_strain a i = some ((work a i, ()), ()) := by
  have h3 := h.work3
  have h4 := h.work_bd h0 hi
  simp only [blank_strain, T_blank_strain]
  refine (q_of (inB_t' h0 hi)).trans ?_
  unfold work at h4 ⊢
  rw [w64' (x := a.2.1 * a.1) (by omega) (by omega), w64' (x := a.2.1 * a.1 * a.1) (by omega) (by omega), w64' (x := a.2.1 * a.1 * a.1 * (gi a.2.2.1 i).1) (by omega) (by omega)]
  exact r_ret _
theorem k_least {a : Ann} (h : An a) {i : Int} (h0 : 0 ≤ i) (hi : i < a.2.2.1.length) : blank_least a i = some ((lm a i, ()), ()) := by
  have h3 := h.work_bd h0 hi
  have h4 := h.at h0 hi
  simp only [blank_least, T_blank_least]
  refine (r_bs (k_strain h h0 hi)).trans ?_
  refine (q_of (inB_t' h0 hi)).trans ?_
  refine (r_bs (k_ceil (n := work a i) (b := (gi a.2.2.1 i).2.1) (by omega) (by omega) (by omega) (by omega))).trans ?_
  exact r_ret _
/-! ### What is asked of a step -/
def atE (a : Ann) (i : Int) : Int := if annE a = 0 then if 0 ≤ i ∧ i ≤ (a.2.2.1.length : Int) - 1 then 0 else 6 else annE a
theorem atE_0 {a : Ann} {i : Int} (h : atE a i = 0) : An a ∧ 0 ≤ i ∧ i < a.2.2.1.length := by
  unfold atE at h
  split at h
  · rename_i h1
    split at h
    · exact ⟨an_of h1, by omega⟩
    · cases h
  · rename_i h1; exact absurd h h1
def strE (a : Ann) (i m : Int) : Int := if atE a i = 0 then if 1 ≤ m ∧ m ≤ 10000000 then 0 else 2 else atE a i
def strV (a : Ann) (i m : Int) : Int × Int := if strE a i m = 0 then (work a i / m, -(-work a i / m)) else (0, 0)
end Go.Ab
