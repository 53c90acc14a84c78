/- TopSagsMeet answers true. -/
import Derived.Test.YtpgagefaneaioaaH23
import Derived.Test.YtpgagefaneaioaaR1
import Derived.Test.YtpgagefaneaioaaH20
import Derived.Test.YtpgagefaneaioaaH2
import Derived.Test.YtpgagefaneaioaaQLTopSagsMeet
namespace Go.Ab
open Go
set_option maxRecDepth 1000000
set_option maxHeartbeats 1000000
set_option linter.unusedVariables false
set_option linter.unusedSimpArgs false
attribute [local congr] bindC iterC

theorem seen_ok : top_seen = some ((true, ()), ()) := by kernel_rfl
theorem k_twhole (n : Int) : top_whole n = some (((n, 1), ()), ()) := by simp only [top_whole, T_top_whole, r_ret]
theorem k_Sqrt1 {n : Int} (h0 : 0 ≤ n) (h1 : n ≤ 1000000000) : number_Sqrt (n, 1) 1000 = some (((rt (1000000 * n), rtu (1000000 * n)), 0, ()), ()) := by
  have ks : Small (n, 1) := small_one (by omega) h1
  have kc := k_CheckFrac ks.i1 ks.i2
  rw [cfE_of ks] at kc
  have kb := k_between 1000 1 10000
  have kr := k_nroot (n := 1000000 * n) (by omega) (by omega)
  have s := rt_spec (n := 1000000 * n) (by omega)
  have sb := rt_bd (n := 1000000 * n) (m := 40000000) (by omega) (by decide) (by omega)
  have hp := Int.mul_nonneg s.1 s.1
  have e0 : IntKind.i64.wrap (1000 * 1000) = 1000000 := by decide
  have hn : ¬ n < 0 := by omega
  have d0 : decide ((1 : Int) ≤ 1000 ∧ (1000 : Int) ≤ 10000) = true := by decide
  rw [d0] at kb
  simp only [number_Sqrt, T_number_Sqrt]
  unfold rtu
  by_cases c : rt (1000000 * n) * rt (1000000 * n) = 1000000 * n
  · rw [if_pos c]
    generalize rt (1000000 * n) = y at *
    simp (maxSteps := 1000000) (disch := first | omega | assumption) only [↓r_ret, ↓r_fail, ↓r_br, ↓r_bind, ↓r_iter, ↓r_req, decide_eq_true_eq, Bool.not_eq_eq_eq_not, decide_eq_false_iff_not, ite_not, inB_t', app_t', bnd_t', str_t', nz_t, Int.reduceEq, Int.reduceLT, Int.reduceLE, w64', Option.bind_some, Option.bind_none, List.length_cons, List.length_nil, List.length_append, Nat.zero_add, if_pos, if_neg, decide_true, decide_false, if_true, if_false, Bool.not_true, Bool.not_false, Bool.false_eq_true, Bool.true_eq_false, not_true_eq_false, not_false_eq_true, ↓reduceIte, List.nil_append, kc, kb, hn, e0, Int.tdiv_one, Int.tmod_one, kr, c]
  · rw [if_neg c]
    generalize rt (1000000 * n) = y at *
    simp (maxSteps := 1000000) (disch := first | omega | assumption) only [↓r_ret, ↓r_fail, ↓r_br, ↓r_bind, ↓r_iter, ↓r_req, decide_eq_true_eq, Bool.not_eq_eq_eq_not, decide_eq_false_iff_not, ite_not, inB_t', app_t', bnd_t', str_t', nz_t, Int.reduceEq, Int.reduceLT, Int.reduceLE, w64', Option.bind_some, Option.bind_none, List.length_cons, List.length_nil, List.length_append, Nat.zero_add, if_pos, if_neg, decide_true, decide_false, if_true, if_false, Bool.not_true, Bool.not_false, Bool.false_eq_true, Bool.true_eq_false, not_true_eq_false, not_false_eq_true, ↓reduceIte, List.nil_append, kc, kb, hn, e0, Int.tdiv_one, Int.tmod_one, kr, c]
theorem sphOk {R : Int} (h : 0 < R) (h2 : R ≤ 10000000) : ConOk (R, 0, 1) := ⟨show R ≠ 0 by omega, show -10000000 ≤ R by omega, h2, isLow_one 0, show (-100 : Int) ≤ 0 by decide, show (0 : Int) ≤ 100 by decide, show (0 : Int) < 1 by decide, show (1 : Int) ≤ 100 by decide⟩
theorem sphPl {R r : Int} (h0 : 0 ≤ r) (h : r ≤ R) (h2 : r ≤ 1000000) : pl R (0, 1) r = 0 := by
  have := Int.mul_le_mul h h h0 (by omega)
  unfold pl
  rw [if_neg (fun hh => hh ⟨h0, h2⟩), if_neg]
  unfold bey
  dsimp only
  grind

theorem k_TopSagsMeet {radius : Int} {r : Int} (b0 : bulkT (.int .i64) radius ≤ 1048576) (w0 : wfT (.int .i64) radius) (b1 : bulkT (.int .i64) r ≤ 1048576) (w1 : wfT (.int .i64) r) : top_TopSagsMeet radius r = some ((true, ()), ()) := by
  simp only [top_TopSagsMeet, T_top_TopSagsMeet]
  rw [r_bind, seen_ok, Option.bind_some]
  refine (br_f rfl).trans ?_
  refine (r_bs (k_Within radius 1 31000)).trans ?_
  by_cases c1 : 1 ≤ radius ∧ radius ≤ 31000
  · refine (br_f (by simp [c1])).trans ?_
    refine (r_bs (k_Within r 0 radius)).trans ?_
    by_cases c2 : 0 ≤ r ∧ r ≤ radius
    · refine (br_f (by simp [c2])).trans ?_
      obtain ⟨R1, R2⟩ := c1
      obtain ⟨r1, r2⟩ := c2
      have ho := sphOk (R := radius) (by omega) (by omega)
      have ks := k_Sag (r := r) ho
      have hpl : pl radius (0, 1) r = 0 := sphPl r1 r2 (by omega)
      have hab : ab radius = radius := by unfold ab; omega
      have hV : sagV (radius, 0, 1) r = (sagLo radius (0, 1) r, sagHi radius (0, 1) r) := by
        unfold sagV turnV
        dsimp only
        rw [if_pos hpl, if_neg (by omega), hab]
      rw [hV] at ks
      dsimp only at ks
      rw [hpl] at ks
      obtain ⟨q1, q2⟩ := sph_rad radius r
      have hRR := sq_le r1 r2
      have hr0 := Int.mul_nonneg r1 r1
      have hR31 := sq_le (a := radius) (b := 31000) (by omega) (by omega)
      generalize hn : radius * radius - r * r = n at *
      have n0 : 0 ≤ n := by omega
      have n1 : n ≤ 961000000 := by omega
      have kq := k_Sqrt1 n0 (by omega)
      have s1 := rt_spec (n := 10000 * n) (by omega)
      have s2 := rtu_spec (n := 10000 * n) (by omega)
      have s3 := rt_spec (n := 1000000 * n) (by omega)
      have s4 := rtu_spec (n := 1000000 * n) (by omega)
      have s5 := rt_bd (n := 1000000 * n) (m := 31000000) (by omega) (by decide) (by omega)
      have u1 := sph_lo (n := n) (by omega) r1 r2 hn.symm s2.1 s2.2.1 s3.1 s3.2.1
      have u2 := sph_hi (n := n) (by omega) r1 r2 hn.symm s1.1 s1.2.1 s4.1 s4.2.1
      have hb : 0 ≤ 100000 * r * r := Int.mul_nonneg (by omega) r1
      have v0 : 0 ≤ 100000 * r * r / (100 * radius + rtu (10000 * n)) := Int.ediv_nonneg hb (by omega)
      have w0' : 100000 * r * r / (100 * radius + rtu (10000 * n)) ≤ -(-(100000 * r * r) / (100 * radius + rt (10000 * n))) := by
        refine le_cdiv (by omega) ?_
        have d := Int.ediv_mul_le (100000 * r * r) (show 100 * radius + rtu (10000 * n) ≠ 0 by omega)
        have := Int.mul_le_mul_of_nonneg_left (show 100 * radius + rt (10000 * n) ≤ 100 * radius + rtu (10000 * n) by omega) v0
        have e : (100000 * r * r / (100 * radius + rtu (10000 * n)) - 1) * (100 * radius + rt (10000 * n)) = 100000 * r * r / (100 * radius + rtu (10000 * n)) * (100 * radius + rt (10000 * n)) - (100 * radius + rt (10000 * n)) := by grind
        omega
      have w1' : -(-(100000 * r * r) / (100 * radius + rt (10000 * n))) ≤ 100000000 := by
        have : -100000000 ≤ -(100000 * r * r) / (100 * radius + rt (10000 * n)) := by
          refine (Int.le_ediv_iff_mul_le (by omega)).2 ?_
          have a1 := Int.mul_le_mul_of_nonneg_left (show r ≤ radius by omega) (show 0 ≤ 100000 * r by omega)
          have a2 : 100000 * r * radius ≤ 3100000000 * radius := Int.mul_le_mul_of_nonneg_right (by omega) (by omega)
          omega
        omega
      have eL : sagLo radius (0, 1) r = 100000 * r * r / (100 * radius + rtu (10000 * n)) := by unfold sagLo; rw [q2]
      have eH : sagHi radius (0, 1) r = -(-(100000 * r * r) / (100 * radius + rt (10000 * n))) := by unfold sagHi; rw [q1]
      rw [eL, eH] at ks
      generalize 100000 * r * r / (100 * radius + rtu (10000 * n)) = lo at *
      generalize -(-(100000 * r * r) / (100 * radius + rt (10000 * n))) = hi at *
      generalize rt (1000000 * n) = y at *
      generalize rtu (1000000 * n) = z at *
      have ew : IntKind.i64.wrap (IntKind.i64.wrap (radius * radius) - IntKind.i64.wrap (r * r)) = n := by
        rw [w64' (x := radius * radius) (by omega) (by omega), w64' (x := r * r) (by omega) (by omega), hn]
        exact w64' (by omega) (by omega)
      have ey : IntKind.i64.wrap (IntKind.i64.wrap (1000 * radius) - y) = 1000 * radius - y := by simp (disch := omega) only [w64']
      have ez : IntKind.i64.wrap (IntKind.i64.wrap (1000 * radius) - z) = 1000 * radius - z := by simp (disch := omega) only [w64']
      refine (r_bs (k_twhole 0)).trans ?_
      refine (r_bs ks).trans ?_
      rw [ew]
      refine (r_bs (k_twhole n)).trans ?_
      refine (r_bs kq).trans ?_
      refine (br_t rfl).trans ?_
      refine (br_t rfl).trans ?_
      refine (r_bs (k_Within lo 0 hi)).trans ?_
      refine (br_t (decide_eq_true ⟨v0, w0'⟩)).trans ?_
      refine (br_t (decide_eq_true w1')).trans ?_
      refine (r_bs (k_Within y 0 z)).trans ?_
      refine (br_t (decide_eq_true ⟨s3.1, s4.2.2.1⟩)).trans ?_
      dsimp only
      rw [ey, ez]
      refine (br_t (decide_eq_true u1)).trans ?_
      refine (r_ret _).trans ?_
      rw [decide_eq_true u2]
    · refine (br_t ?_).trans (r_ret _)
      simp only [c2, decide_false, Bool.not_false]
  · refine (br_t ?_).trans (r_ret _)
    simp only [c1, decide_false, Bool.not_false]
end Go.Ab
