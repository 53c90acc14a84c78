/- Quotients that are rounded. -/
import Derived.Test.YtgncmamcgplcgaaF2
namespace Go.Ab
open Go
set_option maxRecDepth 1000000
set_option maxHeartbeats 1000000
set_option linter.unusedVariables false
set_option linter.unusedSimpArgs false
attribute [local congr] bindC iterC

theorem k_Floor {n b : Int} (hb : 0 < b) (hb' : b ≤ 9223372036854775807) (h1 : -9223372036854775807 ≤ n) (h2 : n ≤ 9223372036854775807) : base_Floor n b = some ((n / b, ()), ()) := by
  have t := tdiv_bd hb h1 h2
  have d := ediv_bd hb h1 h2
  have e := fdiv_eq' (a := n) hb
  have z : b ≠ 0 := by omega
  simp only [base_Floor, T_base_Floor]
  by_cases hm : n.tmod b < 0
  · rw [if_pos hm] at e
    simp (maxSteps := 1000000) (disch := first | omega | assumption) only [↓r_ret, ↓r_fail, ↓r_br, ↓r_bind, ↓r_iter, ↓r_req, decide_eq_true_eq, Bool.not_eq_eq_eq_not, decide_eq_false_iff_not, ite_not, inB_t', app_t', bnd_t', str_t', nz_t, Int.reduceEq, Int.reduceLT, Int.reduceLE, w64', Option.bind_some, Option.bind_none, List.length_cons, List.length_nil, List.length_append, Nat.zero_add, if_pos, if_neg, decide_true, decide_false, if_true, if_false, Bool.not_true, Bool.not_false, Bool.false_eq_true, Bool.true_eq_false, not_true_eq_false, not_false_eq_true, ↓reduceIte, List.nil_append, z, hm, e]
  · rw [if_neg hm] at e
    simp (maxSteps := 1000000) (disch := first | omega | assumption) only [↓r_ret, ↓r_fail, ↓r_br, ↓r_bind, ↓r_iter, ↓r_req, decide_eq_true_eq, Bool.not_eq_eq_eq_not, decide_eq_false_iff_not, ite_not, inB_t', app_t', bnd_t', str_t', nz_t, Int.reduceEq, Int.reduceLT, Int.reduceLE, w64', Option.bind_some, Option.bind_none, List.length_cons, List.length_nil, List.length_append, Nat.zero_add, if_pos, if_neg, decide_true, decide_false, if_true, if_false, Bool.not_true, Bool.not_false, Bool.false_eq_true, Bool.true_eq_false, not_true_eq_false, not_false_eq_true, ↓reduceIte, List.nil_append, z, hm, e]
theorem k_Ceil {n b : Int} (hb : 0 < b) (hb' : b ≤ 9223372036854775807) (h1 : -9223372036854775807 ≤ n) (h2 : n ≤ 9223372036854775807) : base_Ceil n b = some ((-(-n / b), ()), ()) := by
  have k := k_Floor (n := -n) hb hb' (by omega) (by omega)
  have d := ediv_bd (n := -n) (m := 9223372036854775807) hb (by omega) (by omega)
  simp only [base_Ceil, T_base_Ceil]
  simp (maxSteps := 1000000) (disch := first | omega | assumption) only [↓r_ret, ↓r_fail, ↓r_br, ↓r_bind, ↓r_iter, ↓r_req, decide_eq_true_eq, Bool.not_eq_eq_eq_not, decide_eq_false_iff_not, ite_not, inB_t', app_t', bnd_t', str_t', nz_t, Int.reduceEq, Int.reduceLT, Int.reduceLE, w64', Option.bind_some, Option.bind_none, List.length_cons, List.length_nil, List.length_append, Nat.zero_add, if_pos, if_neg, decide_true, decide_false, if_true, if_false, Bool.not_true, Bool.not_false, Bool.false_eq_true, Bool.true_eq_false, not_true_eq_false, not_false_eq_true, ↓reduceIte, List.nil_append, k, Int.zero_sub]
theorem k_down {n b : Int} (hb : 0 < b) (hb' : b ≤ 9223372036854775807) (h1 : -9223372036854775807 ≤ n) (h2 : n ≤ 9223372036854775807) : number_down n b = some ((n / b, ()), ()) := by
  have t := tdiv_bd hb h1 h2
  have d := ediv_bd hb h1 h2
  have e := fdiv_eq' (a := n) hb
  have z : b ≠ 0 := by omega
  simp only [number_down, T_number_down]
  by_cases hm : n.tmod b < 0
  · rw [if_pos hm] at e
    simp (maxSteps := 1000000) (disch := first | omega | assumption) only [↓r_ret, ↓r_fail, ↓r_br, ↓r_bind, ↓r_iter, ↓r_req, decide_eq_true_eq, Bool.not_eq_eq_eq_not, decide_eq_false_iff_not, ite_not, inB_t', app_t', bnd_t', str_t', nz_t, Int.reduceEq, Int.reduceLT, Int.reduceLE, w64', Option.bind_some, Option.bind_none, List.length_cons, List.length_nil, List.length_append, Nat.zero_add, if_pos, if_neg, decide_true, decide_false, if_true, if_false, Bool.not_true, Bool.not_false, Bool.false_eq_true, Bool.true_eq_false, not_true_eq_false, not_false_eq_true, ↓reduceIte, List.nil_append, z, hm, e]
  · rw [if_neg hm] at e
    simp (maxSteps := 1000000) (disch := first | omega | assumption) only [↓r_ret, ↓r_fail, ↓r_br, ↓r_bind, ↓r_iter, ↓r_req, decide_eq_true_eq, Bool.not_eq_eq_eq_not, decide_eq_false_iff_not, ite_not, inB_t', app_t', bnd_t', str_t', nz_t, Int.reduceEq, Int.reduceLT, Int.reduceLE, w64', Option.bind_some, Option.bind_none, List.length_cons, List.length_nil, List.length_append, Nat.zero_add, if_pos, if_neg, decide_true, decide_false, if_true, if_false, Bool.not_true, Bool.not_false, Bool.false_eq_true, Bool.true_eq_false, not_true_eq_false, not_false_eq_true, ↓reduceIte, List.nil_append, z, hm, e]
theorem k_up {n b : Int} (hb : 0 < b) (hb' : b ≤ 9223372036854775807) (h1 : -9223372036854775807 ≤ n) (h2 : n ≤ 9223372036854775807) : number_up n b = some ((-(-n / b), ()), ()) := by
  have k := k_down (n := -n) hb hb' (by omega) (by omega)
  have d := ediv_bd (n := -n) (m := 9223372036854775807) hb (by omega) (by omega)
  simp only [number_up, T_number_up]
  simp (maxSteps := 1000000) (disch := first | omega | assumption) only [↓r_ret, ↓r_fail, ↓r_br, ↓r_bind, ↓r_iter, ↓r_req, decide_eq_true_eq, Bool.not_eq_eq_eq_not, decide_eq_false_iff_not, ite_not, inB_t', app_t', bnd_t', str_t', nz_t, Int.reduceEq, Int.reduceLT, Int.reduceLE, w64', Option.bind_some, Option.bind_none, List.length_cons, List.length_nil, List.length_append, Nat.zero_add, if_pos, if_neg, decide_true, decide_false, if_true, if_false, Bool.not_true, Bool.not_false, Bool.false_eq_true, Bool.true_eq_false, not_true_eq_false, not_false_eq_true, ↓reduceIte, List.nil_append, k, Int.zero_sub]
theorem k_fr1 {f : Int × Int} (h1 : I64 f.1) (h2 : I64 f.2) : law01xfracs [f] = some ((cfE f, ()), ()) := by
  rw [k_fracs (by simp) (fun i hi => by
    simp only [List.length_cons, List.length_nil] at hi
    match i, hi with
    | 0, _ => exact ⟨h1, h2⟩)]
  show some (((if (0 : Int) ≠ 0 then (0 : Int) else cfE f), ()), ()) = _
  simp
theorem fl_ce {n d : Int} (hd : 0 < d) : 0 ≤ -(-n / d) - n / d ∧ -(-n / d) - n / d ≤ 1 := by
  have h1 := Int.ediv_mul_le n (show d ≠ 0 by omega)
  have h2 := Int.lt_ediv_add_one_mul_self n hd
  have h3 := Int.ediv_mul_le (-n) (show d ≠ 0 by omega)
  have h4 := Int.lt_ediv_add_one_mul_self (-n) hd
  generalize n / d = p at *
  generalize -n / d = q at *
  refine ⟨?_, ?_⟩
  · have : (p + q) * d ≤ 0 := by grind
    have : p + q ≤ 0 := by
      rcases Int.lt_or_le 0 (p + q) with c | c
      · have := Int.mul_pos c hd; omega
      · exact c
    omega
  · have h : 0 < (p + q + 2) * d := by grind
    have : 0 < p + q + 2 := by
      rcases Int.lt_or_le 0 (p + q + 2) with c | c
      · exact c
      · have := Int.mul_nonneg (a := -(p + q + 2)) (b := d) (by omega) (by omega)
        grind
    omega
end Go.Ab
