/- TopThreeSquares. -/
import Derived.Test.YtgncmamcgplcgaaR1
import Derived.Test.YtgncmamcgplcgaaYC
import Derived.Test.YtgncmamcgplcgaaFR
import Derived.Test.YtgncmamcgplcgaaQLTopThreeSquares
namespace Go.Ab
open Go
set_option maxRecDepth 1000000
set_option maxHeartbeats 1000000
set_option linter.unusedVariables false
set_option linter.unusedSimpArgs false

theorem reckoned_ok : top_reckoned = some ((true, ()), ()) := by kernel_rfl
theorem fin3 {n v h : Int} (h0 : 1 ≤ h) (b1 : -(1100000000 + 12000 * h) ≤ n * h - 1000000000 * v) (b2 : n * h - 1000000000 * v ≤ 1100000000 + 12000 * h) :
    -(14 * h + 2000000) ≤ loS 1000000 n * h - v * 1000000 ∧ loS 1000000 n * h - v * 1000000 ≤ 14 * h + 2000000 := by
  obtain ⟨d1, d2⟩ := ediv_b (a := 1000000 * (n - 50)) (m := 1000000000) (by decide)
  change loS 1000000 n * 1000000000 ≤ _ at d1
  change _ < (loS 1000000 n + 1) * 1000000000 at d2
  have w1 := Int.mul_le_mul_of_nonneg_right d1 (show 0 ≤ h by omega)
  have w2 := Int.mul_le_mul_of_nonneg_right (Int.le_of_lt d2) (show 0 ≤ h by omega)
  have e1 : loS 1000000 n * 1000000000 * h = 1000000000 * (loS 1000000 n * h) := by grind
  have e2 : 1000000 * (n - 50) * h = 1000000 * (n * h) - 50000000 * h := by grind
  have e3 : (loS 1000000 n + 1) * 1000000000 * h = 1000000000 * (loS 1000000 n * h) + 1000000000 * h := by grind
  omega
theorem k_dir3 {x y n h : Int} (hx1 : -10000 ≤ x) (hx2 : x ≤ 10000) (hy1 : -10000 ≤ y) (hy2 : y ≤ 10000) (hn : Found (sizX x y) (sizY x y) n) (h1 : 1 ≤ h) (h2 : x * x + y * y ≤ h * h) (h3 : (h - 1) * (h - 1) < x * x + y * y) (h4 : h ≤ 15000) :
    (-(1100000000 + 12000 * h) ≤ ext PQ (angV x y n).1 * h - 1000000000 * y ∧ ext PQ (angV x y n).1 * h - 1000000000 * y ≤ 1100000000 + 12000 * h) ∧
    -(1100000000 + 12000 * h) ≤ kos PQ (angV x y n).1 * h - 1000000000 * x ∧ kos PQ (angV x y n).1 * h - 1000000000 * x ≤ 1100000000 + 12000 * h := by
  have hs : sizX x y * sizX x y + sizY x y * sizY x y = x * x + y * y := by
    have nx : -x * -x = x * x := Int.neg_mul_neg _ _
    have ny : -y * -y = y * y := Int.neg_mul_neg _ _
    unfold sizX sizY
    rcases Int.le_total 0 x with c1 | c1 <;> rcases Int.le_total 0 y with c2 | c2 <;>
      first
      | (rw [show max x (-x) = x by omega, show max y (-y) = y by omega]; rcases Int.le_total x y with c | c <;> first | (rw [show max x y = y by omega, show min x y = x by omega]; omega) | (rw [show max x y = x by omega, show min x y = y by omega]))
      | (rw [show max x (-x) = x by omega, show max y (-y) = -y by omega]; rcases Int.le_total x (-y) with c | c <;> first | (rw [show max x (-y) = -y by omega, show min x (-y) = x by omega]; omega) | (rw [show max x (-y) = x by omega, show min x (-y) = -y by omega]; omega))
      | (rw [show max x (-x) = -x by omega, show max y (-y) = y by omega]; rcases Int.le_total (-x) y with c | c <;> first | (rw [show max (-x) y = y by omega, show min (-x) y = -x by omega]; omega) | (rw [show max (-x) y = -x by omega, show min (-x) y = y by omega]; omega))
      | (rw [show max x (-x) = -x by omega, show max y (-y) = -y by omega]; rcases Int.le_total (-x) (-y) with c | c <;> first | (rw [show max (-x) (-y) = -y by omega, show min (-x) (-y) = -x by omega]; omega) | (rw [show max (-x) (-y) = -x by omega, show min (-x) (-y) = -y by omega]; omega))
  have a0 : 0 ≤ sizY x y := by unfold sizY; omega
  have a1 : sizY x y ≤ sizX x y := by unfold sizX sizY; omega
  have a2 : sizX x y ≤ 10000 := by unfold sizX; omega
  obtain ⟨bL, bH⟩ := beside_ends a0 a1 hn
  obtain ⟨⟨t1, t2⟩, t3, t4⟩ := three (by omega) a0 a1 a2 bL h1 (by rw [hs]; exact h2) (by rw [hs]; exact h3) h4
  obtain ⟨⟨u1, u2⟩, u3, u4⟩ := three (by omega) a0 a1 a2 bH h1 (by rw [hs]; exact h2) (by rw [hs]; exact h3) h4
  clear bL bH hs h2 h3
  by_cases hsw : max x (-x) < max y (-y)
  · by_cases hx : x < 0
    · by_cases hy : y < 0
      · have e : angV x y n = (648000 + (324000 - highA n), 648000 + (324000 - lowA n)) := by unfold angV angB angQ; rw [if_pos hsw, if_pos hx, if_pos hy]
        have hX : sizX x y = -y := by unfold sizX; omega
        have hY : sizY x y = -x := by unfold sizY; omega
        rw [hX] at t3 t4 u3 u4
        rw [hY] at t1 t2 u1 u2
        rw [e]
        simp only [s_q PQ_00, k_q PQ_00, s_hm PQ_00, s_hp PQ_00, k_hp PQ_00, k_hm PQ_00, s_fm PQ_00, k_fm PQ_00, Int.neg_neg, Int.neg_mul]
        omega
      · have e : angV x y n = (648000 - (324000 - lowA n), 648000 - (324000 - highA n)) := by unfold angV angB angQ; rw [if_pos hsw, if_pos hx, if_neg hy]
        have hX : sizX x y = y := by unfold sizX; omega
        have hY : sizY x y = -x := by unfold sizY; omega
        rw [hX] at t3 t4 u3 u4
        rw [hY] at t1 t2 u1 u2
        rw [e]
        simp only [s_q PQ_00, k_q PQ_00, s_hm PQ_00, s_hp PQ_00, k_hp PQ_00, k_hm PQ_00, s_fm PQ_00, k_fm PQ_00, Int.neg_neg, Int.neg_mul]
        omega
    · by_cases hy : y < 0
      · have e : angV x y n = (1296000 - (324000 - lowA n), 1296000 - (324000 - highA n)) := by unfold angV angB angQ; rw [if_pos hsw, if_neg hx, if_pos hy]
        have hX : sizX x y = -y := by unfold sizX; omega
        have hY : sizY x y = x := by unfold sizY; omega
        rw [hX] at t3 t4 u3 u4
        rw [hY] at t1 t2 u1 u2
        rw [e]
        simp only [s_q PQ_00, k_q PQ_00, s_hm PQ_00, s_hp PQ_00, k_hp PQ_00, k_hm PQ_00, s_fm PQ_00, k_fm PQ_00, Int.neg_neg, Int.neg_mul]
        omega
      · have e : angV x y n = (324000 - highA n, 324000 - lowA n) := by unfold angV angB angQ; rw [if_pos hsw, if_neg hx, if_neg hy]
        have hX : sizX x y = y := by unfold sizX; omega
        have hY : sizY x y = x := by unfold sizY; omega
        rw [hX] at t3 t4 u3 u4
        rw [hY] at t1 t2 u1 u2
        rw [e]
        simp only [s_q PQ_00, k_q PQ_00, s_hm PQ_00, s_hp PQ_00, k_hp PQ_00, k_hm PQ_00, s_fm PQ_00, k_fm PQ_00, Int.neg_neg, Int.neg_mul]
        omega
  · by_cases hx : x < 0
    · by_cases hy : y < 0
      · have e : angV x y n = (648000 + (lowA n), 648000 + (highA n)) := by unfold angV angB angQ; rw [if_neg hsw, if_pos hx, if_pos hy]
        have hX : sizX x y = -x := by unfold sizX; omega
        have hY : sizY x y = -y := by unfold sizY; omega
        rw [hX] at t3 t4 u3 u4
        rw [hY] at t1 t2 u1 u2
        rw [e]
        simp only [s_q PQ_00, k_q PQ_00, s_hm PQ_00, s_hp PQ_00, k_hp PQ_00, k_hm PQ_00, s_fm PQ_00, k_fm PQ_00, Int.neg_neg, Int.neg_mul]
        omega
      · have e : angV x y n = (648000 - (highA n), 648000 - (lowA n)) := by unfold angV angB angQ; rw [if_neg hsw, if_pos hx, if_neg hy]
        have hX : sizX x y = -x := by unfold sizX; omega
        have hY : sizY x y = y := by unfold sizY; omega
        rw [hX] at t3 t4 u3 u4
        rw [hY] at t1 t2 u1 u2
        rw [e]
        simp only [s_q PQ_00, k_q PQ_00, s_hm PQ_00, s_hp PQ_00, k_hp PQ_00, k_hm PQ_00, s_fm PQ_00, k_fm PQ_00, Int.neg_neg, Int.neg_mul]
        omega
    · by_cases hy : y < 0
      · have e : angV x y n = (1296000 - (highA n), 1296000 - (lowA n)) := by unfold angV angB angQ; rw [if_neg hsw, if_neg hx, if_pos hy]
        have hX : sizX x y = x := by unfold sizX; omega
        have hY : sizY x y = -y := by unfold sizY; omega
        rw [hX] at t3 t4 u3 u4
        rw [hY] at t1 t2 u1 u2
        rw [e]
        simp only [s_q PQ_00, k_q PQ_00, s_hm PQ_00, s_hp PQ_00, k_hp PQ_00, k_hm PQ_00, s_fm PQ_00, k_fm PQ_00, Int.neg_neg, Int.neg_mul]
        omega
      · have e : angV x y n = (lowA n, highA n) := by unfold angV angB angQ; rw [if_neg hsw, if_neg hx, if_neg hy]
        have hX : sizX x y = x := by unfold sizX; omega
        have hY : sizY x y = y := by unfold sizY; omega
        rw [hX] at t3 t4 u3 u4
        rw [hY] at t1 t2 u1 u2
        rw [e]
        dsimp only
        omega
theorem k_root3 {N : Int} (h0 : 1 ≤ N) (h1 : N ≤ 200000000) : ∃ lo hi, number_Sqrt (N, 1) 1 = some (((lo, hi), (0, ())), ()) ∧ 0 ≤ lo ∧ lo ≤ hi ∧ lo * lo ≤ N ∧ 1 ≤ hi ∧ N ≤ hi * hi ∧ (hi - 1) * (hi - 1) < N ∧ hi ≤ 15000 := by
  have hS : Small (N, 1) := small_one (by omega) (by omega)
  have k := k_Sqrt (f := (N, 1)) (t := 1) hS (by dsimp only; omega) (by omega)
  have e : sqV (N, 1) 1 = if rt N * rt N = N then (rt N, rt N) else (rt N, rt N + 1) := by
    unfold sqV
    dsimp only
    rw [Int.one_mul, Int.one_mul, Int.tmod_one, Int.tdiv_one, if_pos rfl]
  rw [e] at k
  obtain ⟨r0, r1, r2⟩ := rt_spec (show 0 ≤ N by omega)
  have rb : rt N ≤ 14999 := by
    by_cases c : rt N ≤ 14999
    · exact c
    · have := Int.mul_le_mul (show 15000 ≤ rt N by omega) (show 15000 ≤ rt N by omega) (by decide) (by omega)
      omega
  by_cases c : rt N * rt N = N
  · rw [if_pos c] at k
    have r3 : 1 ≤ rt N := by
      by_cases z : rt N = 0
      · rw [z] at c; omega
      · omega
    refine ⟨_, _, k, r0, by omega, by omega, r3, by omega, ?_, by omega⟩
    have e2 : (rt N - 1) * (rt N - 1) = rt N * rt N - 2 * rt N + 1 := by grind
    omega
  · rw [if_neg c] at k
    refine ⟨_, _, k, r0, by omega, r1, by omega, by omega, ?_, by omega⟩
    rw [show rt N + 1 - 1 = rt N by omega]; omega
theorem k_TopThreeSquares {x : Int} {y : Int} (b0 : bulkT (.int .i64) x ≤ 1048576) (w0 : wfT (.int .i64) x) (b1 : bulkT (.int .i64) y ≤ 1048576) (w1 : wfT (.int .i64) y) : top_TopThreeSquares x y = some ((true, ()), ()) := by
  show (T_top_TopThreeSquares x y).run = _
  unfold T_top_TopThreeSquares
  rw [r_bind, reckoned_ok, Option.bind_some]
  refine (br_f rfl).trans ?_
  refine (r_bs (k_Within _ _ _)).trans ?_
  by_cases hx : ¬ (-10000 ≤ x ∧ x ≤ 10000)
  · exact (br_t (nd' hx)).trans (r_ret _)
  have hx := Decidable.not_not.1 hx
  refine (br_f (nd hx)).trans ?_
  refine (r_bs (k_Within _ _ _)).trans ?_
  by_cases hy : ¬ (-10000 ≤ y ∧ y ≤ 10000)
  · exact (br_t (nd' hy)).trans (r_ret _)
  have hy := Decidable.not_not.1 hy
  refine (br_f (nd hy)).trans ?_
  by_cases hz : x = 0 ∧ y = 0
  · refine (br_t (decide_eq_true hz.1)).trans ?_
    exact (br_t (decide_eq_true hz.2)).trans (r_ret _)
  have bx := mul_bd (a := x) (b := x) (m := 10000) (n := 10000) (by omega) (by omega) (by omega) (by omega)
  have by' := mul_bd (a := y) (b := y) (m := 10000) (n := 10000) (by omega) (by omega) (by omega) (by omega)
  have sqp : ∀ u : Int, 0 ≤ u * u ∧ (u ≠ 0 → 1 ≤ u * u) := by
    intro u
    rcases Int.le_total 0 u with c | c
    · refine ⟨Int.mul_nonneg c c, fun hu => ?_⟩
      exact Int.mul_le_mul (show 1 ≤ u by omega) (show 1 ≤ u by omega) (by decide) c
    · have e := Int.neg_mul_neg u u
      refine ⟨by rw [← e]; exact Int.mul_nonneg (by omega) (by omega), fun hu => ?_⟩
      rw [← e]
      exact Int.mul_le_mul (show 1 ≤ -u by omega) (show 1 ≤ -u by omega) (by decide) (by omega)
  have N1 : 1 ≤ x * x + y * y := by
    have a := sqp x
    have b := sqp y
    by_cases c : x = 0
    · have := b.2 (fun h => hz ⟨c, h⟩); omega
    · have := a.2 c; omega
  obtain ⟨n, eA, hn⟩ := k_Angle hx.1 hx.2 hy.1 hy.2 hz
  obtain ⟨lo, hi, eR, q1, q2, q3, q4, q5, q6, q7⟩ := k_root3 N1 (by omega)
  obtain ⟨⟨g1, g2⟩, g3, g4⟩ := k_dir3 hx.1 hx.2 hy.1 hy.2 hn q4 q5 q6 q7
  obtain ⟨f1, f2⟩ := fin3 q4 g1 g2
  obtain ⟨f3, f4⟩ := fin3 q4 g3 g4
  change -(14 * hi + 2000000) ≤ loS 1000000 (ext PQ ((angV x y n).1 + 324000)) * hi - x * 1000000 at f3
  change loS 1000000 (ext PQ ((angV x y n).1 + 324000)) * hi - x * 1000000 ≤ _ at f4
  have p1 := PQ_b' (angV x y n).1
  have p2 := PQ_b' ((angV x y n).1 + 324000)
  obtain ⟨_, _, s5, s6, s7, s8⟩ := range_b (t := 1000000) (by decide) (by decide) p1.1 p1.2
  obtain ⟨_, _, c5, c6, c7, c8⟩ := range_b (t := 1000000) (by decide) (by decide) p2.1 p2.2
  have va : (-3 ≤ (angV x y n).1 ∧ (angV x y n).1 ≤ (angV x y n).2) ∧ (angV x y n).2 ≤ 1296003 ∧ (angV x y n).2 - (angV x y n).1 ≤ 2 := by
    have hlo : lowA n = (n - 5) / 100 := rfl
    have hhi : highA n = -(-(n + 6) / 100) := rfl
    have n0 := hn.nn
    have n1 := hn.le
    unfold angV angQ angB
    split <;> split <;> split <;> dsimp only <;> omega
  obtain ⟨⟨v1, v2⟩, v3, v4⟩ := va
  have ll := sqp lo
  have lb := mul_bd (a := hi) (b := hi) (m := 15000) (n := 15000) (by omega) (by omega) (by omega) (by omega)
  have m1 := mul_bd (a := loS 1000000 (ext PQ (angV x y n).1)) (b := hi) (m := 1000002) (n := 15000) (by omega) (by omega) (by omega) (by omega)
  have m2 := mul_bd (a := loS 1000000 (ext PQ ((angV x y n).1 + 324000))) (b := hi) (m := 1000002) (n := 15000) (by omega) (by omega) (by omega) (by omega)
  rw [w64' (x := x * x) (by omega) (by omega), w64' (x := y * y) (by omega) (by omega), w64' (x := x * x + y * y) (by omega) (by omega)]
  by_cases hx0 : x = 0
  · refine (br_t (decide_eq_true hx0)).trans ?_
    refine (br_f (decide_eq_false (fun hh => hz ⟨hx0, hh⟩))).trans ?_
    refine (r_bs eA).trans ?_
    refine (r_bs eR).trans ?_
    refine (br_f (nd rfl)).trans ?_
    refine (br_f (nd rfl)).trans ?_
    refine (r_bs (k_Within _ _ _)).trans ?_
    refine (br_f (nd ⟨q1, q2⟩)).trans ?_
    unfold okV
    dsimp only
    rw [w64' (x := lo * lo) (by omega) (by omega), w64' (x := hi * hi) (by omega) (by omega), w64' (x := 14 * hi) (by omega) (by omega), w64' (x := 14 * hi + 2000000) (by omega) (by omega), w64' (x := y * 1000000) (by omega) (by omega), w64' (x := x * 1000000) (by omega) (by omega)]
    refine (br_f (decide_eq_false (by omega))).trans ?_
    refine (br_f (decide_eq_false (by omega))).trans ?_
    refine (br_f (decide_eq_false (by omega))).trans ?_
    refine (r_bs (k_Within _ _ _)).trans ?_
    refine (br_f (nd ⟨v1, v2⟩)).trans ?_
    refine (br_f (decide_eq_false (by omega))).trans ?_
    rw [w64' (x := (angV x y n).2 - (angV x y n).1) (by omega) (by omega)]
    refine (br_f (decide_eq_false (by omega))).trans ?_
    refine (r_bs (k_Sine (by omega) (by omega) (by decide) (by decide))).trans ?_
    refine (r_bs (k_Cosine (by omega) (by omega) (by decide) (by decide))).trans ?_
    refine (br_f (nd rfl)).trans ?_
    refine (br_f (nd rfl)).trans ?_
    unfold sineV
    dsimp only
    rw [w64' (x := hiS 1000000 (ext PQ (angV x y n).1) - loS 1000000 (ext PQ (angV x y n).1)) (by omega) (by omega), w64' (x := hiS 1000000 (ext PQ ((angV x y n).1 + 324000)) - loS 1000000 (ext PQ ((angV x y n).1 + 324000))) (by omega) (by omega)]
    refine (br_f (decide_eq_false (by omega))).trans ?_
    refine (br_f (decide_eq_false (by omega))).trans ?_
    refine (r_bs (k_Within _ _ _)).trans ?_
    refine (br_f (nd ⟨by omega, s6⟩)).trans ?_
    refine (r_bs (k_Within _ _ _)).trans ?_
    refine (br_f (nd ⟨by omega, c6⟩)).trans ?_
    refine (br_f (decide_eq_false (by omega))).trans ?_
    refine (br_f (decide_eq_false (by omega))).trans ?_
    rw [w64' (x := loS 1000000 (ext PQ (angV x y n).1) * hi) (by omega) (by omega), w64' (x := loS 1000000 (ext PQ ((angV x y n).1 + 324000)) * hi) (by omega) (by omega), w64' (x := loS 1000000 (ext PQ (angV x y n).1) * hi - y * 1000000) (by omega) (by omega), w64' (x := loS 1000000 (ext PQ ((angV x y n).1 + 324000)) * hi - x * 1000000) (by omega) (by omega)]
    refine (r_bs (k_Abs (n := loS 1000000 (ext PQ (angV x y n).1) * hi - y * 1000000) (by omega) (by omega))).trans ?_
    dsimp only
    refine (br_t (decide_eq_true (Int.max_le.2 ⟨f2, by omega⟩))).trans ?_
    refine (r_bs (k_Abs (n := loS 1000000 (ext PQ ((angV x y n).1 + 324000)) * hi - x * 1000000) (by omega) (by omega))).trans ?_
    refine (r_ret _).trans ?_
    dsimp only
    rw [decide_eq_true (show max (loS 1000000 (ext PQ ((angV x y n).1 + 324000)) * hi - x * 1000000) (-(loS 1000000 (ext PQ ((angV x y n).1 + 324000)) * hi - x * 1000000)) ≤ 14 * hi + 2000000 from Int.max_le.2 ⟨f4, by omega⟩)]
  · refine (br_f (decide_eq_false hx0)).trans ?_
    refine (r_bs eA).trans ?_
    refine (r_bs eR).trans ?_
    refine (br_f (nd rfl)).trans ?_
    refine (br_f (nd rfl)).trans ?_
    refine (r_bs (k_Within _ _ _)).trans ?_
    refine (br_f (nd ⟨q1, q2⟩)).trans ?_
    unfold okV
    dsimp only
    rw [w64' (x := lo * lo) (by omega) (by omega), w64' (x := hi * hi) (by omega) (by omega), w64' (x := 14 * hi) (by omega) (by omega), w64' (x := 14 * hi + 2000000) (by omega) (by omega), w64' (x := y * 1000000) (by omega) (by omega), w64' (x := x * 1000000) (by omega) (by omega)]
    refine (br_f (decide_eq_false (by omega))).trans ?_
    refine (br_f (decide_eq_false (by omega))).trans ?_
    refine (br_f (decide_eq_false (by omega))).trans ?_
    refine (r_bs (k_Within _ _ _)).trans ?_
    refine (br_f (nd ⟨v1, v2⟩)).trans ?_
    refine (br_f (decide_eq_false (by omega))).trans ?_
    rw [w64' (x := (angV x y n).2 - (angV x y n).1) (by omega) (by omega)]
    refine (br_f (decide_eq_false (by omega))).trans ?_
    refine (r_bs (k_Sine (by omega) (by omega) (by decide) (by decide))).trans ?_
    refine (r_bs (k_Cosine (by omega) (by omega) (by decide) (by decide))).trans ?_
    refine (br_f (nd rfl)).trans ?_
    refine (br_f (nd rfl)).trans ?_
    unfold sineV
    dsimp only
    rw [w64' (x := hiS 1000000 (ext PQ (angV x y n).1) - loS 1000000 (ext PQ (angV x y n).1)) (by omega) (by omega), w64' (x := hiS 1000000 (ext PQ ((angV x y n).1 + 324000)) - loS 1000000 (ext PQ ((angV x y n).1 + 324000))) (by omega) (by omega)]
    refine (br_f (decide_eq_false (by omega))).trans ?_
    refine (br_f (decide_eq_false (by omega))).trans ?_
    refine (r_bs (k_Within _ _ _)).trans ?_
    refine (br_f (nd ⟨by omega, s6⟩)).trans ?_
    refine (r_bs (k_Within _ _ _)).trans ?_
    refine (br_f (nd ⟨by omega, c6⟩)).trans ?_
    refine (br_f (decide_eq_false (by omega))).trans ?_
    refine (br_f (decide_eq_false (by omega))).trans ?_
    rw [w64' (x := loS 1000000 (ext PQ (angV x y n).1) * hi) (by omega) (by omega), w64' (x := loS 1000000 (ext PQ ((angV x y n).1 + 324000)) * hi) (by omega) (by omega), w64' (x := loS 1000000 (ext PQ (angV x y n).1) * hi - y * 1000000) (by omega) (by omega), w64' (x := loS 1000000 (ext PQ ((angV x y n).1 + 324000)) * hi - x * 1000000) (by omega) (by omega)]
    refine (r_bs (k_Abs (n := loS 1000000 (ext PQ (angV x y n).1) * hi - y * 1000000) (by omega) (by omega))).trans ?_
    dsimp only
    refine (br_t (decide_eq_true (Int.max_le.2 ⟨f2, by omega⟩))).trans ?_
    refine (r_bs (k_Abs (n := loS 1000000 (ext PQ ((angV x y n).1 + 324000)) * hi - x * 1000000) (by omega) (by omega))).trans ?_
    refine (r_ret _).trans ?_
    dsimp only
    rw [decide_eq_true (show max (loS 1000000 (ext PQ ((angV x y n).1 + 324000)) * hi - x * 1000000) (-(loS 1000000 (ext PQ ((angV x y n).1 + 324000)) * hi - x * 1000000)) ≤ 14 * hi + 2000000 from Int.max_le.2 ⟨f4, by omega⟩)]
end Go.Ab
