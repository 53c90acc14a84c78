/- Division, ranges. -/
import Derived.Test.YtjmmjfcapgaomaaK7
namespace Go.Ab
open Go
set_option maxRecDepth 1000000
set_option maxHeartbeats 1000000
set_option linter.unusedVariables false
set_option linter.unusedSimpArgs false
attribute [local congr] bindC iterC

theorem fdiv_bd {a b m : Int} (hb : 0 < b) (h : -m ≤ a) (h2 : a ≤ m) (hm : 0 ≤ m) : -m ≤ a / b ∧ a / b ≤ m := by
  constructor
  · rcases Int.le_total 0 a with h3 | h3
    · have := Int.ediv_nonneg h3 (Int.le_of_lt hb); omega
    · have h4 : -m * b ≤ a := Int.le_trans (by rw [Int.neg_mul]; have : m * 1 ≤ m * b := Int.mul_le_mul_of_nonneg_left (by omega) hm; omega) h
      exact (Int.le_ediv_iff_mul_le hb).2 h4
  · rcases Int.le_total 0 a with h3 | h3
    · have := Int.ediv_le_self b h3; omega
    · have := Int.ediv_neg_of_neg_of_pos (a := a) (b := b)
      rcases Int.lt_or_eq_of_le h3 with h4 | h4
      · have := this h4 hb; omega
      · subst h4; simp; omega
theorem mod_eq' {a b : Int} (hb : 0 < b) : a % b = if a.tmod b < 0 then a.tmod b + b else a.tmod b := by
  have h1 := Int.tmod_add_mul_tdiv a b
  have h2 := Int.tmod_lt_of_pos a hb
  have h3 := Int.lt_tmod_of_pos a hb
  split
  · refine (Int.ediv_emod_unique (q := a.tdiv b - 1) (r := a.tmod b + b) hb).2 ⟨?_, by omega, by omega⟩ |>.2
    rw [Int.mul_sub]; omega
  · refine (Int.ediv_emod_unique (q := a.tdiv b) (r := a.tmod b) hb).2 ⟨h1, by omega, h2⟩ |>.2

theorem k_floor {a b : Int} (hb : 0 < b) (h : -9000000000000000000 ≤ a) (h2 : a ≤ 9000000000000000000) : coat_floor a b = some ((a / b, ()), ()) := by
  have hd := tdiv_bd hb h h2
  have e := fdiv_eq' (a := a) hb
  simp only [coat_floor, T_coat_floor]
  by_cases c : a.tmod b < 0
  · rw [if_pos c] at e
    simp (maxSteps := 1000000) (disch := first | omega | assumption) only [r_ret, r_br, decide_eq_true_eq, Bool.not_eq_eq_eq_not, decide_eq_false_iff_not, ite_not, q_true, r_bind, r_iter, q_inB, q_nz, q_app, q_eq, q_bnd, q_str, w64', Option.bind_some, Option.bind_none, List.length_cons, List.length_nil, List.length_append, Nat.zero_add, if_pos, if_neg, decide_true, decide_false, if_true, if_false, Bool.not_true, Bool.not_false, Bool.false_eq_true, Bool.true_eq_false, not_true_eq_false, not_false_eq_true, reduceIte, List.nil_append, c, e]
  · rw [if_neg c] at e
    simp (maxSteps := 1000000) (disch := first | omega | assumption) only [r_ret, r_br, decide_eq_true_eq, Bool.not_eq_eq_eq_not, decide_eq_false_iff_not, ite_not, q_true, r_bind, r_iter, q_inB, q_nz, q_app, q_eq, q_bnd, q_str, w64', Option.bind_some, Option.bind_none, List.length_cons, List.length_nil, List.length_append, Nat.zero_add, if_pos, if_neg, decide_true, decide_false, if_true, if_false, Bool.not_true, Bool.not_false, Bool.false_eq_true, Bool.true_eq_false, not_true_eq_false, not_false_eq_true, reduceIte, List.nil_append, c, e]
theorem k_Floor {a b : Int} (hb : 0 < b) (h : -9000000000000000000 ≤ a) (h2 : a ≤ 9000000000000000000) : base_Floor a b = some ((a / b, ()), ()) := by
  have hd := tdiv_bd hb h h2
  have e := fdiv_eq' (a := a) hb
  simp only [base_Floor, T_base_Floor]
  by_cases c : a.tmod b < 0
  · rw [if_pos c] at e
    simp (maxSteps := 1000000) (disch := first | omega | assumption) only [r_ret, r_br, decide_eq_true_eq, Bool.not_eq_eq_eq_not, decide_eq_false_iff_not, ite_not, q_true, r_bind, r_iter, q_inB, q_nz, q_app, q_eq, q_bnd, q_str, w64', Option.bind_some, Option.bind_none, List.length_cons, List.length_nil, List.length_append, Nat.zero_add, if_pos, if_neg, decide_true, decide_false, if_true, if_false, Bool.not_true, Bool.not_false, Bool.false_eq_true, Bool.true_eq_false, not_true_eq_false, not_false_eq_true, reduceIte, List.nil_append, c, e]
  · rw [if_neg c] at e
    simp (maxSteps := 1000000) (disch := first | omega | assumption) only [r_ret, r_br, decide_eq_true_eq, Bool.not_eq_eq_eq_not, decide_eq_false_iff_not, ite_not, q_true, r_bind, r_iter, q_inB, q_nz, q_app, q_eq, q_bnd, q_str, w64', Option.bind_some, Option.bind_none, List.length_cons, List.length_nil, List.length_append, Nat.zero_add, if_pos, if_neg, decide_true, decide_false, if_true, if_false, Bool.not_true, Bool.not_false, Bool.false_eq_true, Bool.true_eq_false, not_true_eq_false, not_false_eq_true, reduceIte, List.nil_append, c, e]
/-- Division, rounded up. -/
def cdiv (a b : Int) : Int := 0 - (0 - a) / b
theorem k_ceil {a b : Int} (hb : 0 < b) (h : -9000000000000000000 ≤ a) (h2 : a ≤ 9000000000000000000) : coat_ceil a b = some ((cdiv a b, ()), ()) := by
  have := fdiv_bd (a := 0 - a) hb (m := 9000000000000000000) (by omega) (by omega) (by omega)
  simp only [coat_ceil, T_coat_ceil, cdiv]
  simp (maxSteps := 1000000) (disch := first | omega | assumption) only [r_ret, r_br, decide_eq_true_eq, Bool.not_eq_eq_eq_not, decide_eq_false_iff_not, ite_not, q_true, r_bind, r_iter, q_inB, q_nz, q_app, q_eq, q_bnd, q_str, w64', Option.bind_some, Option.bind_none, List.length_cons, List.length_nil, List.length_append, Nat.zero_add, if_pos, if_neg, decide_true, decide_false, if_true, if_false, Bool.not_true, Bool.not_false, Bool.false_eq_true, Bool.true_eq_false, not_true_eq_false, not_false_eq_true, reduceIte, List.nil_append, k_floor]
theorem k_Ceil {a b : Int} (hb : 0 < b) (h : -9000000000000000000 ≤ a) (h2 : a ≤ 9000000000000000000) : base_Ceil a b = some ((cdiv a b, ()), ()) := by
  have := fdiv_bd (a := 0 - a) hb (m := 9000000000000000000) (by omega) (by omega) (by omega)
  simp only [base_Ceil, T_base_Ceil, cdiv]
  simp (maxSteps := 1000000) (disch := first | omega | assumption) only [r_ret, r_br, decide_eq_true_eq, Bool.not_eq_eq_eq_not, decide_eq_false_iff_not, ite_not, q_true, r_bind, r_iter, q_inB, q_nz, q_app, q_eq, q_bnd, q_str, w64', Option.bind_some, Option.bind_none, List.length_cons, List.length_nil, List.length_append, Nat.zero_add, if_pos, if_neg, decide_true, decide_false, if_true, if_false, Bool.not_true, Bool.not_false, Bool.false_eq_true, Bool.true_eq_false, not_true_eq_false, not_false_eq_true, reduceIte, List.nil_append, k_Floor]
theorem k_Mod {a b : Int} (hb : 0 < b) (h : b ≤ 4000000000000000000) : base_Mod a b = some ((a % b, ()), ()) := by
  have h2 := Int.tmod_lt_of_pos a hb
  have h3 := Int.lt_tmod_of_pos a hb
  have e := mod_eq' (a := a) hb
  simp only [base_Mod, T_base_Mod]
  by_cases c : a.tmod b < 0
  · rw [if_pos c] at e
    simp (maxSteps := 1000000) (disch := first | omega | assumption) only [r_ret, r_br, decide_eq_true_eq, Bool.not_eq_eq_eq_not, decide_eq_false_iff_not, ite_not, q_true, r_bind, r_iter, q_inB, q_nz, q_app, q_eq, q_bnd, q_str, w64', Option.bind_some, Option.bind_none, List.length_cons, List.length_nil, List.length_append, Nat.zero_add, if_pos, if_neg, decide_true, decide_false, if_true, if_false, Bool.not_true, Bool.not_false, Bool.false_eq_true, Bool.true_eq_false, not_true_eq_false, not_false_eq_true, reduceIte, List.nil_append, c, e]
  · rw [if_neg c] at e
    simp (maxSteps := 1000000) (disch := first | omega | assumption) only [r_ret, r_br, decide_eq_true_eq, Bool.not_eq_eq_eq_not, decide_eq_false_iff_not, ite_not, q_true, r_bind, r_iter, q_inB, q_nz, q_app, q_eq, q_bnd, q_str, w64', Option.bind_some, Option.bind_none, List.length_cons, List.length_nil, List.length_append, Nat.zero_add, if_pos, if_neg, decide_true, decide_false, if_true, if_false, Bool.not_true, Bool.not_false, Bool.false_eq_true, Bool.true_eq_false, not_true_eq_false, not_false_eq_true, reduceIte, List.nil_append, c, e]

theorem k_between (n lo hi : Int) : number_between n lo hi = some ((decide (lo ≤ n ∧ n ≤ hi), ()), ()) := by
  simp only [number_between, T_number_between, r_br, r_ret]
  by_cases h : lo ≤ n <;> simp [h]
/-- What is wrong with a range. -/
def rngE (r : Int × Int) : Int := if ¬ (-1000000000000000 ≤ r.1 ∧ r.1 ≤ 1000000000000000) then 2 else if ¬ (-1000000000000000 ≤ r.2 ∧ r.2 ≤ 1000000000000000) then 2 else if r.2 < r.1 then 9 else 0
def thkR (r : Int × Int) : Int := if rngE r = 0 then (if r.1 < 0 then 2 else 0) else rngE r
theorem k_CheckRange (r : Int × Int) : number_CheckRange r = some ((rngE r, ()), ()) := by
  simp only [number_CheckRange, T_number_CheckRange]
  unfold rngE
  by_cases c1 : -1000000000000000 ≤ r.1 ∧ r.1 ≤ 1000000000000000
  · by_cases c2 : -1000000000000000 ≤ r.2 ∧ r.2 ≤ 1000000000000000
    · by_cases c3 : r.2 < r.1
      · simp (maxSteps := 1000000) (disch := first | omega | assumption) only [r_ret, r_br, decide_eq_true_eq, Bool.not_eq_eq_eq_not, decide_eq_false_iff_not, ite_not, q_true, r_bind, r_iter, q_inB, q_nz, q_app, q_eq, q_bnd, q_str, w64', Option.bind_some, Option.bind_none, List.length_cons, List.length_nil, List.length_append, Nat.zero_add, if_pos, if_neg, decide_true, decide_false, if_true, if_false, Bool.not_true, Bool.not_false, Bool.false_eq_true, Bool.true_eq_false, not_true_eq_false, not_false_eq_true, reduceIte, List.nil_append, k_between, c1, c2, c3, and_self]
      · simp (maxSteps := 1000000) (disch := first | omega | assumption) only [r_ret, r_br, decide_eq_true_eq, Bool.not_eq_eq_eq_not, decide_eq_false_iff_not, ite_not, q_true, r_bind, r_iter, q_inB, q_nz, q_app, q_eq, q_bnd, q_str, w64', Option.bind_some, Option.bind_none, List.length_cons, List.length_nil, List.length_append, Nat.zero_add, if_pos, if_neg, decide_true, decide_false, if_true, if_false, Bool.not_true, Bool.not_false, Bool.false_eq_true, Bool.true_eq_false, not_true_eq_false, not_false_eq_true, reduceIte, List.nil_append, k_between, c1, c2, c3, and_self]
    · simp (maxSteps := 1000000) (disch := first | omega | assumption) only [r_ret, r_br, decide_eq_true_eq, Bool.not_eq_eq_eq_not, decide_eq_false_iff_not, ite_not, q_true, r_bind, r_iter, q_inB, q_nz, q_app, q_eq, q_bnd, q_str, w64', Option.bind_some, Option.bind_none, List.length_cons, List.length_nil, List.length_append, Nat.zero_add, if_pos, if_neg, decide_true, decide_false, if_true, if_false, Bool.not_true, Bool.not_false, Bool.false_eq_true, Bool.true_eq_false, not_true_eq_false, not_false_eq_true, reduceIte, List.nil_append, k_between, c1, c2, and_self]
  · simp (maxSteps := 1000000) (disch := first | omega | assumption) only [r_ret, r_br, decide_eq_true_eq, Bool.not_eq_eq_eq_not, decide_eq_false_iff_not, ite_not, q_true, r_bind, r_iter, q_inB, q_nz, q_app, q_eq, q_bnd, q_str, w64', Option.bind_some, Option.bind_none, List.length_cons, List.length_nil, List.length_append, Nat.zero_add, if_pos, if_neg, decide_true, decide_false, if_true, if_false, Bool.not_true, Bool.not_false, Bool.false_eq_true, Bool.true_eq_false, not_true_eq_false, not_false_eq_true, reduceIte, List.nil_append, k_between, c1, and_self]
theorem k_checkThick (r : Int × Int) : coat_checkThick r = some ((thkR r, ()), ()) := by
  simp only [coat_checkThick, T_coat_checkThick]
  unfold thkR
  by_cases c1 : rngE r = 0
  · by_cases c2 : r.1 < 0
    · simp (maxSteps := 1000000) (disch := first | omega | assumption) only [r_ret, r_br, decide_eq_true_eq, Bool.not_eq_eq_eq_not, decide_eq_false_iff_not, ite_not, q_true, r_bind, r_iter, q_inB, q_nz, q_app, q_eq, q_bnd, q_str, w64', Option.bind_some, Option.bind_none, List.length_cons, List.length_nil, List.length_append, Nat.zero_add, if_pos, if_neg, decide_true, decide_false, if_true, if_false, Bool.not_true, Bool.not_false, Bool.false_eq_true, Bool.true_eq_false, not_true_eq_false, not_false_eq_true, reduceIte, List.nil_append, k_CheckRange, c1, c2]
    · simp (maxSteps := 1000000) (disch := first | omega | assumption) only [r_ret, r_br, decide_eq_true_eq, Bool.not_eq_eq_eq_not, decide_eq_false_iff_not, ite_not, q_true, r_bind, r_iter, q_inB, q_nz, q_app, q_eq, q_bnd, q_str, w64', Option.bind_some, Option.bind_none, List.length_cons, List.length_nil, List.length_append, Nat.zero_add, if_pos, if_neg, decide_true, decide_false, if_true, if_false, Bool.not_true, Bool.not_false, Bool.false_eq_true, Bool.true_eq_false, not_true_eq_false, not_false_eq_true, reduceIte, List.nil_append, k_CheckRange, c1, c2]
  · simp (maxSteps := 1000000) (disch := first | omega | assumption) only [r_ret, r_br, decide_eq_true_eq, Bool.not_eq_eq_eq_not, decide_eq_false_iff_not, ite_not, q_true, r_bind, r_iter, q_inB, q_nz, q_app, q_eq, q_bnd, q_str, w64', Option.bind_some, Option.bind_none, List.length_cons, List.length_nil, List.length_append, Nat.zero_add, if_pos, if_neg, decide_true, decide_false, if_true, if_false, Bool.not_true, Bool.not_false, Bool.false_eq_true, Bool.true_eq_false, not_true_eq_false, not_false_eq_true, reduceIte, List.nil_append, k_CheckRange, c1]
theorem k_rCheckRange (r : Int × Int) : ref01xCheckRange r = some ((rngE r, ()), ()) := by
  simp only [ref01xCheckRange, T_ref01xCheckRange]
  rw [r_iter]
  refine iter_eq (fun i x => x = ((i : Int), ()) ∧ (1 ≤ i → -1000000000000000 ≤ r.1 ∧ r.1 ≤ 1000000000000000) ∧ (2 ≤ i → -1000000000000000 ≤ r.2 ∧ r.2 ≤ 1000000000000000)) _ 2 (by omega) ?_ ⟨rfl, by omega, by omega⟩
  rintro i x hi ⟨rfl, h1, h2⟩
  simp only [T_ref01xCheckRange_l0]
  rcases (by omega : i = 0 ∨ i = 1 ∨ i = 2) with e | e | e
  · subst e
    by_cases c1 : r.1 < -1000000000000000
    · have e : rngE r = 2 := by unfold rngE; rw [if_pos (by omega)]
      right; rw [e]; simp (maxSteps := 1000000) (disch := first | omega | assumption) only [r_ret, r_br, decide_eq_true_eq, Bool.not_eq_eq_eq_not, decide_eq_false_iff_not, ite_not, q_true, r_bind, r_iter, q_inB, q_nz, q_app, q_eq, q_bnd, q_str, w64', Option.bind_some, Option.bind_none, List.length_cons, List.length_nil, List.length_append, Nat.zero_add, if_pos, if_neg, decide_true, decide_false, if_true, if_false, Bool.not_true, Bool.not_false, Bool.false_eq_true, Bool.true_eq_false, not_true_eq_false, not_false_eq_true, reduceIte, List.nil_append, c1]
    · by_cases c2 : 1000000000000000 < r.1
      · have e : rngE r = 2 := by unfold rngE; rw [if_pos (by omega)]
        right; rw [e]; simp (maxSteps := 1000000) (disch := first | omega | assumption) only [r_ret, r_br, decide_eq_true_eq, Bool.not_eq_eq_eq_not, decide_eq_false_iff_not, ite_not, q_true, r_bind, r_iter, q_inB, q_nz, q_app, q_eq, q_bnd, q_str, w64', Option.bind_some, Option.bind_none, List.length_cons, List.length_nil, List.length_append, Nat.zero_add, if_pos, if_neg, decide_true, decide_false, if_true, if_false, Bool.not_true, Bool.not_false, Bool.false_eq_true, Bool.true_eq_false, not_true_eq_false, not_false_eq_true, reduceIte, List.nil_append, c1, c2]
      · left
        refine ⟨(((0 : Nat) : Int) + 1, ()), by simp (maxSteps := 1000000) (disch := first | omega | assumption) only [r_ret, r_br, decide_eq_true_eq, Bool.not_eq_eq_eq_not, decide_eq_false_iff_not, ite_not, q_true, r_bind, r_iter, q_inB, q_nz, q_app, q_eq, q_bnd, q_str, w64', Option.bind_some, Option.bind_none, List.length_cons, List.length_nil, List.length_append, Nat.zero_add, if_pos, if_neg, decide_true, decide_false, if_true, if_false, Bool.not_true, Bool.not_false, Bool.false_eq_true, Bool.true_eq_false, not_true_eq_false, not_false_eq_true, reduceIte, List.nil_append, c1, c2], by omega, rfl, by omega, by omega⟩
  · subst e
    have h1 := h1 (by omega)
    by_cases c1 : r.2 < -1000000000000000
    · have e : rngE r = 2 := by unfold rngE; rw [if_neg (by omega), if_pos (by omega)]
      right; rw [e]; simp (maxSteps := 1000000) (disch := first | omega | assumption) only [r_ret, r_br, decide_eq_true_eq, Bool.not_eq_eq_eq_not, decide_eq_false_iff_not, ite_not, q_true, r_bind, r_iter, q_inB, q_nz, q_app, q_eq, q_bnd, q_str, w64', Option.bind_some, Option.bind_none, List.length_cons, List.length_nil, List.length_append, Nat.zero_add, if_pos, if_neg, decide_true, decide_false, if_true, if_false, Bool.not_true, Bool.not_false, Bool.false_eq_true, Bool.true_eq_false, not_true_eq_false, not_false_eq_true, reduceIte, List.nil_append, c1]
    · by_cases c2 : 1000000000000000 < r.2
      · have e : rngE r = 2 := by unfold rngE; rw [if_neg (by omega), if_pos (by omega)]
        right; rw [e]; simp (maxSteps := 1000000) (disch := first | omega | assumption) only [r_ret, r_br, decide_eq_true_eq, Bool.not_eq_eq_eq_not, decide_eq_false_iff_not, ite_not, q_true, r_bind, r_iter, q_inB, q_nz, q_app, q_eq, q_bnd, q_str, w64', Option.bind_some, Option.bind_none, List.length_cons, List.length_nil, List.length_append, Nat.zero_add, if_pos, if_neg, decide_true, decide_false, if_true, if_false, Bool.not_true, Bool.not_false, Bool.false_eq_true, Bool.true_eq_false, not_true_eq_false, not_false_eq_true, reduceIte, List.nil_append, c1, c2]
      · left
        refine ⟨(((1 : Nat) : Int) + 1, ()), by simp (maxSteps := 1000000) (disch := first | omega | assumption) only [r_ret, r_br, decide_eq_true_eq, Bool.not_eq_eq_eq_not, decide_eq_false_iff_not, ite_not, q_true, r_bind, r_iter, q_inB, q_nz, q_app, q_eq, q_bnd, q_str, w64', Option.bind_some, Option.bind_none, List.length_cons, List.length_nil, List.length_append, Nat.zero_add, if_pos, if_neg, decide_true, decide_false, if_true, if_false, Bool.not_true, Bool.not_false, Bool.false_eq_true, Bool.true_eq_false, not_true_eq_false, not_false_eq_true, reduceIte, List.nil_append, c1, c2], by omega, rfl, by omega, by omega⟩
  · subst e
    have h1 := h1 (by omega)
    have h2 := h2 (by omega)
    right
    by_cases c : r.2 < r.1
    · have e : rngE r = 9 := by unfold rngE; rw [if_neg (by omega), if_neg (by omega), if_pos c]
      rw [e]; simp (maxSteps := 1000000) (disch := first | omega | assumption) only [r_ret, r_br, decide_eq_true_eq, Bool.not_eq_eq_eq_not, decide_eq_false_iff_not, ite_not, q_true, r_bind, r_iter, q_inB, q_nz, q_app, q_eq, q_bnd, q_str, w64', Option.bind_some, Option.bind_none, List.length_cons, List.length_nil, List.length_append, Nat.zero_add, if_pos, if_neg, decide_true, decide_false, if_true, if_false, Bool.not_true, Bool.not_false, Bool.false_eq_true, Bool.true_eq_false, not_true_eq_false, not_false_eq_true, reduceIte, List.nil_append, c]
    · have e : rngE r = 0 := by unfold rngE; rw [if_neg (by omega), if_neg (by omega), if_neg c]
      rw [e]; simp (maxSteps := 1000000) (disch := first | omega | assumption) only [r_ret, r_br, decide_eq_true_eq, Bool.not_eq_eq_eq_not, decide_eq_false_iff_not, ite_not, q_true, r_bind, r_iter, q_inB, q_nz, q_app, q_eq, q_bnd, q_str, w64', Option.bind_some, Option.bind_none, List.length_cons, List.length_nil, List.length_append, Nat.zero_add, if_pos, if_neg, decide_true, decide_false, if_true, if_false, Bool.not_true, Bool.not_false, Bool.false_eq_true, Bool.true_eq_false, not_true_eq_false, not_false_eq_true, reduceIte, List.nil_append, c]
end Go.Ab
