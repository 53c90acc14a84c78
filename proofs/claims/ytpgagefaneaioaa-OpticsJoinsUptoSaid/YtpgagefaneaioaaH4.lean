/- OpticsJoins answers true. -/
import Derived.Test.YtpgagefaneaioaaH3
import Derived.Test.YtpgagefaneaioaaR1
namespace Go.Ab
open Go
set_option maxRecDepth 1000000
set_option maxHeartbeats 1000000
set_option linter.unusedVariables false
set_option linter.unusedSimpArgs false
attribute [local congr] bindC iterC

theorem awake_ok : law02xawake = some ((true, ()), ()) := by kernel_rfl

theorem wfF {f : Fr} (h : wfT (.pair (.int .i64) (.int .i64)) f) : IF f := h
theorem wfM {m : Mx} (h : wfT (.pair (.pair (.int .i64) (.int .i64)) (.pair (.pair (.int .i64) (.int .i64)) (.pair (.pair (.int .i64) (.int .i64)) (.pair (.int .i64) (.int .i64))))) m) : IM m := h

theorem k_OpticsJoins {m : ((Int × Int) × ((Int × Int) × ((Int × Int) × (Int × Int))))} {n : ((Int × Int) × ((Int × Int) × ((Int × Int) × (Int × Int))))} (b0 : bulkT (.pair (.pair (.int .i64) (.int .i64)) (.pair (.pair (.int .i64) (.int .i64)) (.pair (.pair (.int .i64) (.int .i64)) (.pair (.int .i64) (.int .i64))))) m ≤ 1048576) (w0 : wfT (.pair (.pair (.int .i64) (.int .i64)) (.pair (.pair (.int .i64) (.int .i64)) (.pair (.pair (.int .i64) (.int .i64)) (.pair (.int .i64) (.int .i64))))) m) (b1 : bulkT (.pair (.pair (.int .i64) (.int .i64)) (.pair (.pair (.int .i64) (.int .i64)) (.pair (.pair (.int .i64) (.int .i64)) (.pair (.int .i64) (.int .i64))))) n ≤ 1048576) (w1 : wfT (.pair (.pair (.int .i64) (.int .i64)) (.pair (.pair (.int .i64) (.int .i64)) (.pair (.pair (.int .i64) (.int .i64)) (.pair (.int .i64) (.int .i64))))) n) : law02xOpticsJoins m n = some ((true, ()), ()) := by
  have im := wfM w0
  have in_ := wfM w1
  simp only [law02xOpticsJoins, T_law02xOpticsJoins]
  by_cases c : cmE m = 0
  · have hm := cmE_zero.1 c
    have kd := k_Determinant hm im
    have kr := k_rDeterminant hm
    have km := k_rCheckMatrix im
    have kn := k_rCheckMatrix in_
    by_cases d : cmE n = 0
    · have hn := cmE_zero.1 d
      have kj := k_Join hm hn im in_
      have kq := k_rJoin hm hn
      generalize detR m = x1 at *
      generalize e8 (detL m) = x2 at *
      generalize joinR m n = x3 at *
      generalize e8 (joinL m n) = x4 at *
      simp (maxSteps := 1000000) (disch := first | omega | assumption) only [↓r_ret, ↓r_fail, ↓r_br, ↓r_bind, ↓r_iter, ↓r_req, decide_eq_true_eq, Bool.not_eq_eq_eq_not, decide_eq_false_iff_not, ite_not, inB_t', app_t', bnd_t', str_t', nz_t, Int.reduceEq, Int.reduceLT, Int.reduceLE, w64', Option.bind_some, Option.bind_none, List.length_cons, List.length_nil, List.length_append, Nat.zero_add, if_pos, if_neg, decide_true, decide_false, if_true, if_false, Bool.not_true, Bool.not_false, Bool.false_eq_true, Bool.true_eq_false, not_true_eq_false, not_false_eq_true, ↓reduceIte, List.nil_append, awake_ok, eta2, kd, kr, km, kn, kj, kq, c, d, Bool.and_self]
    · have kj := k_JoinE im in_ (fun h => d h.2)
      rw [if_neg (by rw [c]; decide)] at kj
      generalize detR m = x1 at *
      generalize e8 (detL m) = x2 at *
      simp (maxSteps := 1000000) (disch := first | omega | assumption) only [↓r_ret, ↓r_fail, ↓r_br, ↓r_bind, ↓r_iter, ↓r_req, decide_eq_true_eq, Bool.not_eq_eq_eq_not, decide_eq_false_iff_not, ite_not, inB_t', app_t', bnd_t', str_t', nz_t, Int.reduceEq, Int.reduceLT, Int.reduceLE, w64', Option.bind_some, Option.bind_none, List.length_cons, List.length_nil, List.length_append, Nat.zero_add, if_pos, if_neg, decide_true, decide_false, if_true, if_false, Bool.not_true, Bool.not_false, Bool.false_eq_true, Bool.true_eq_false, not_true_eq_false, not_false_eq_true, ↓reduceIte, List.nil_append, awake_ok, eta2, kd, kr, km, kn, kj, c, d, Bool.and_self]
  · have km := k_rCheckMatrix im
    have kd := k_DeterminantE im c
    have kj := k_JoinE im in_ (fun h => c h.1)
    rw [if_pos c] at kj
    simp (maxSteps := 1000000) (disch := first | omega | assumption) only [↓r_ret, ↓r_fail, ↓r_br, ↓r_bind, ↓r_iter, ↓r_req, decide_eq_true_eq, Bool.not_eq_eq_eq_not, decide_eq_false_iff_not, ite_not, inB_t', app_t', bnd_t', str_t', nz_t, Int.reduceEq, Int.reduceLT, Int.reduceLE, w64', Option.bind_some, Option.bind_none, List.length_cons, List.length_nil, List.length_append, Nat.zero_add, if_pos, if_neg, decide_true, decide_false, if_true, if_false, Bool.not_true, Bool.not_false, Bool.false_eq_true, Bool.true_eq_false, not_true_eq_false, not_false_eq_true, ↓reduceIte, List.nil_append, awake_ok, eta2, kd, km, kj, c, Bool.and_self]
end Go.Ab
