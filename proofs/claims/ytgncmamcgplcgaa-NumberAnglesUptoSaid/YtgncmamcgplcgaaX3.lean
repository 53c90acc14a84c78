/- NumberAngles. -/
import Derived.Test.YtgncmamcgplcgaaR1
import Derived.Test.YtgncmamcgplcgaaYB
import Derived.Test.YtgncmamcgplcgaaQLNumberAngles
namespace Go.Ab
open Go
set_option maxRecDepth 1000000
set_option maxHeartbeats 1000000
set_option linter.unusedVariables false
set_option linter.unusedSimpArgs false

theorem flat_n {X n : Int} (hX : 1 ≤ X) (h : Found X 0 n) : n ≤ 104 := by
  by_cases hn : n ≤ 104
  · exact hn
  exfalso
  have n0 := h.nn
  have n1 := h.le
  have hc : P n * X ≤ P (32400000 - n) * 0 := by
    rcases h.lo with h | h
    · omega
    · exact h
  rw [Int.mul_zero] at hc
  have p : 1 ≤ P n := by
    obtain ⟨a1, a2⟩ := LP1 n0 (by omega)
    obtain ⟨s1, _⟩ := sin_mono (a := th 105) (th_nn (by decide)) (th_mono (show 105 ≤ n by omega)) (th_le (show n ≤ 16500000 by omega))
    have k : 1 ≤ 1000000000 * ev sinL (th 105) - 12 := by decide +kernel
    exact int_of_rat (by show (1 : Rat) ≤ _; grind)
  have := Int.mul_le_mul p hX (by decide) (by omega)
  omega
theorem k_Dir {x y n : Int} (hx1 : -10000 ≤ x) (hx2 : x ≤ 10000) (hy1 : -10000 ≤ y) (hy2 : y ≤ 10000) (hne : ¬ (x = 0 ∧ y = 0)) (hn : Found (sizX x y) (sizY x y) n) : ref01xDirects (angV x y n) x y = some ((true, ()), ()) := by
  have hlo : lowA n = (n - 5) / 100 := rfl
  have hhi : highA n = -(-(n + 6) / 100) := rfl
  have n0 := hn.nn
  have n1 := hn.le
  have hflat : y = 0 → 0 ≤ x → lowA n ≤ 0 := by
    intro hy hx
    have hY : sizY x y = 0 := by unfold sizY; omega
    rw [hY] at hn
    have := flat_n (by unfold sizX; omega) hn
    omega
  obtain ⟨b1, b2, b3, b4⟩ := base_oct (by unfold sizY; omega) (by unfold sizX sizY; omega) hn
  by_cases hsw : max x (-x) < max y (-y)
  · by_cases hx : x < 0
    · by_cases hy : y < 0
      · have e : angV x y n = (648000 + (324000 - highA n), 648000 + (324000 - lowA n)) := by unfold angV angB angQ; rw [if_pos hsw, if_pos hx, if_pos hy]
        have hX : sizX x y = -y := by unfold sizX; omega
        have hY : sizY x y = -x := by unfold sizY; omega
        have hW : max x (-x) + max y (-y) = -x + -y := by omega
        rw [hX, hY] at b1 b2 b3 b4
        rw [e]
        refine k_Directs (by dsimp only; omega) (by dsimp only; omega) (by dsimp only; omega) (by dsimp only; omega) (by intro _; dsimp only; omega) (by intro q1 q2; have := hflat q1 q2; dsimp only; omega) (by intro _; dsimp only; omega) ?_
        refine k_Dtail (sl := -kos RQ (highA n)) (kl := -ext RQ (highA n)) (sh := -kos RQ (lowA n)) (kh := -ext RQ (lowA n)) hx1 hx2 hy1 hy2 (by dsimp only; omega) (by dsimp only; omega) (by dsimp only; omega) (by simp only [s_q RQ_00, k_q RQ_00, s_hm RQ_00, s_hp RQ_00, k_hp RQ_00, k_hm RQ_00, s_fm RQ_00, k_fm RQ_00, Int.neg_neg]) (by simp only [s_q RQ_00, k_q RQ_00, s_hm RQ_00, s_hp RQ_00, k_hp RQ_00, k_hm RQ_00, s_fm RQ_00, k_fm RQ_00, Int.neg_neg]) (by simp only [s_q RQ_00, k_q RQ_00, s_hm RQ_00, s_hp RQ_00, k_hp RQ_00, k_hm RQ_00, s_fm RQ_00, k_fm RQ_00, Int.neg_neg]) (by simp only [s_q RQ_00, k_q RQ_00, s_hm RQ_00, s_hp RQ_00, k_hp RQ_00, k_hm RQ_00, s_fm RQ_00, k_fm RQ_00, Int.neg_neg]) ?_ ?_ ?_ ?_
        all_goals
          rw [hW]
          generalize ext RQ (lowA n) = sL at *
          generalize kos RQ (lowA n) = kL at *
          generalize ext RQ (highA n) = sH at *
          generalize kos RQ (highA n) = kH at *
          clear hsw hx hy e hX hY hW hflat hn hlo hhi hne
          grind
      · have e : angV x y n = (648000 - (324000 - lowA n), 648000 - (324000 - highA n)) := by unfold angV angB angQ; rw [if_pos hsw, if_pos hx, if_neg hy]
        have hX : sizX x y = y := by unfold sizX; omega
        have hY : sizY x y = -x := by unfold sizY; omega
        have hW : max x (-x) + max y (-y) = -x + y := by omega
        rw [hX, hY] at b1 b2 b3 b4
        rw [e]
        refine k_Directs (by dsimp only; omega) (by dsimp only; omega) (by dsimp only; omega) (by dsimp only; omega) (by intro _; dsimp only; omega) (by intro q1 q2; have := hflat q1 q2; dsimp only; omega) (by intro _; dsimp only; omega) ?_
        refine k_Dtail (sl := kos RQ (lowA n)) (kl := -ext RQ (lowA n)) (sh := kos RQ (highA n)) (kh := -ext RQ (highA n)) hx1 hx2 hy1 hy2 (by dsimp only; omega) (by dsimp only; omega) (by dsimp only; omega) (by simp only [s_q RQ_00, k_q RQ_00, s_hm RQ_00, s_hp RQ_00, k_hp RQ_00, k_hm RQ_00, s_fm RQ_00, k_fm RQ_00, Int.neg_neg]) (by simp only [s_q RQ_00, k_q RQ_00, s_hm RQ_00, s_hp RQ_00, k_hp RQ_00, k_hm RQ_00, s_fm RQ_00, k_fm RQ_00, Int.neg_neg]) (by simp only [s_q RQ_00, k_q RQ_00, s_hm RQ_00, s_hp RQ_00, k_hp RQ_00, k_hm RQ_00, s_fm RQ_00, k_fm RQ_00, Int.neg_neg]) (by simp only [s_q RQ_00, k_q RQ_00, s_hm RQ_00, s_hp RQ_00, k_hp RQ_00, k_hm RQ_00, s_fm RQ_00, k_fm RQ_00, Int.neg_neg]) ?_ ?_ ?_ ?_
        all_goals
          rw [hW]
          generalize ext RQ (lowA n) = sL at *
          generalize kos RQ (lowA n) = kL at *
          generalize ext RQ (highA n) = sH at *
          generalize kos RQ (highA n) = kH at *
          clear hsw hx hy e hX hY hW hflat hn hlo hhi hne
          grind
    · by_cases hy : y < 0
      · have e : angV x y n = (1296000 - (324000 - lowA n), 1296000 - (324000 - highA n)) := by unfold angV angB angQ; rw [if_pos hsw, if_neg hx, if_pos hy]
        have hX : sizX x y = -y := by unfold sizX; omega
        have hY : sizY x y = x := by unfold sizY; omega
        have hW : max x (-x) + max y (-y) = x + -y := by omega
        rw [hX, hY] at b1 b2 b3 b4
        rw [e]
        refine k_Directs (by dsimp only; omega) (by dsimp only; omega) (by dsimp only; omega) (by dsimp only; omega) (by intro _; dsimp only; omega) (by intro q1 q2; have := hflat q1 q2; dsimp only; omega) (by intro _; dsimp only; omega) ?_
        refine k_Dtail (sl := -kos RQ (lowA n)) (kl := ext RQ (lowA n)) (sh := -kos RQ (highA n)) (kh := ext RQ (highA n)) hx1 hx2 hy1 hy2 (by dsimp only; omega) (by dsimp only; omega) (by dsimp only; omega) (by simp only [s_q RQ_00, k_q RQ_00, s_hm RQ_00, s_hp RQ_00, k_hp RQ_00, k_hm RQ_00, s_fm RQ_00, k_fm RQ_00, Int.neg_neg]) (by simp only [s_q RQ_00, k_q RQ_00, s_hm RQ_00, s_hp RQ_00, k_hp RQ_00, k_hm RQ_00, s_fm RQ_00, k_fm RQ_00, Int.neg_neg]) (by simp only [s_q RQ_00, k_q RQ_00, s_hm RQ_00, s_hp RQ_00, k_hp RQ_00, k_hm RQ_00, s_fm RQ_00, k_fm RQ_00, Int.neg_neg]) (by simp only [s_q RQ_00, k_q RQ_00, s_hm RQ_00, s_hp RQ_00, k_hp RQ_00, k_hm RQ_00, s_fm RQ_00, k_fm RQ_00, Int.neg_neg]) ?_ ?_ ?_ ?_
        all_goals
          rw [hW]
          generalize ext RQ (lowA n) = sL at *
          generalize kos RQ (lowA n) = kL at *
          generalize ext RQ (highA n) = sH at *
          generalize kos RQ (highA n) = kH at *
          clear hsw hx hy e hX hY hW hflat hn hlo hhi hne
          grind
      · have e : angV x y n = (324000 - highA n, 324000 - lowA n) := by unfold angV angB angQ; rw [if_pos hsw, if_neg hx, if_neg hy]
        have hX : sizX x y = y := by unfold sizX; omega
        have hY : sizY x y = x := by unfold sizY; omega
        have hW : max x (-x) + max y (-y) = x + y := by omega
        rw [hX, hY] at b1 b2 b3 b4
        rw [e]
        refine k_Directs (by dsimp only; omega) (by dsimp only; omega) (by dsimp only; omega) (by dsimp only; omega) (by intro _; dsimp only; omega) (by intro q1 q2; have := hflat q1 q2; dsimp only; omega) (by intro _; dsimp only; omega) ?_
        refine k_Dtail (sl := kos RQ (highA n)) (kl := ext RQ (highA n)) (sh := kos RQ (lowA n)) (kh := ext RQ (lowA n)) hx1 hx2 hy1 hy2 (by dsimp only; omega) (by dsimp only; omega) (by dsimp only; omega) (by simp only [s_q RQ_00, k_q RQ_00, s_hm RQ_00, s_hp RQ_00, k_hp RQ_00, k_hm RQ_00, s_fm RQ_00, k_fm RQ_00, Int.neg_neg]) (by simp only [s_q RQ_00, k_q RQ_00, s_hm RQ_00, s_hp RQ_00, k_hp RQ_00, k_hm RQ_00, s_fm RQ_00, k_fm RQ_00, Int.neg_neg]) (by simp only [s_q RQ_00, k_q RQ_00, s_hm RQ_00, s_hp RQ_00, k_hp RQ_00, k_hm RQ_00, s_fm RQ_00, k_fm RQ_00, Int.neg_neg]) (by simp only [s_q RQ_00, k_q RQ_00, s_hm RQ_00, s_hp RQ_00, k_hp RQ_00, k_hm RQ_00, s_fm RQ_00, k_fm RQ_00, Int.neg_neg]) ?_ ?_ ?_ ?_
        all_goals
          rw [hW]
          generalize ext RQ (lowA n) = sL at *
          generalize kos RQ (lowA n) = kL at *
          generalize ext RQ (highA n) = sH at *
          generalize kos RQ (highA n) = kH at *
          clear hsw hx hy e hX hY hW hflat hn hlo hhi hne
          grind
  · by_cases hx : x < 0
    · by_cases hy : y < 0
      · have e : angV x y n = (648000 + (lowA n), 648000 + (highA n)) := by unfold angV angB angQ; rw [if_neg hsw, if_pos hx, if_pos hy]
        have hX : sizX x y = -x := by unfold sizX; omega
        have hY : sizY x y = -y := by unfold sizY; omega
        have hW : max x (-x) + max y (-y) = -x + -y := by omega
        rw [hX, hY] at b1 b2 b3 b4
        rw [e]
        refine k_Directs (by dsimp only; omega) (by dsimp only; omega) (by dsimp only; omega) (by dsimp only; omega) (by intro _; dsimp only; omega) (by intro q1 q2; have := hflat q1 q2; dsimp only; omega) (by intro _; dsimp only; omega) ?_
        refine k_Dtail (sl := -ext RQ (lowA n)) (kl := -kos RQ (lowA n)) (sh := -ext RQ (highA n)) (kh := -kos RQ (highA n)) hx1 hx2 hy1 hy2 (by dsimp only; omega) (by dsimp only; omega) (by dsimp only; omega) (by simp only [s_q RQ_00, k_q RQ_00, s_hm RQ_00, s_hp RQ_00, k_hp RQ_00, k_hm RQ_00, s_fm RQ_00, k_fm RQ_00, Int.neg_neg]) (by simp only [s_q RQ_00, k_q RQ_00, s_hm RQ_00, s_hp RQ_00, k_hp RQ_00, k_hm RQ_00, s_fm RQ_00, k_fm RQ_00, Int.neg_neg]) (by simp only [s_q RQ_00, k_q RQ_00, s_hm RQ_00, s_hp RQ_00, k_hp RQ_00, k_hm RQ_00, s_fm RQ_00, k_fm RQ_00, Int.neg_neg]) (by simp only [s_q RQ_00, k_q RQ_00, s_hm RQ_00, s_hp RQ_00, k_hp RQ_00, k_hm RQ_00, s_fm RQ_00, k_fm RQ_00, Int.neg_neg]) ?_ ?_ ?_ ?_
        all_goals
          rw [hW]
          generalize ext RQ (lowA n) = sL at *
          generalize kos RQ (lowA n) = kL at *
          generalize ext RQ (highA n) = sH at *
          generalize kos RQ (highA n) = kH at *
          clear hsw hx hy e hX hY hW hflat hn hlo hhi hne
          grind
      · have e : angV x y n = (648000 - (highA n), 648000 - (lowA n)) := by unfold angV angB angQ; rw [if_neg hsw, if_pos hx, if_neg hy]
        have hX : sizX x y = -x := by unfold sizX; omega
        have hY : sizY x y = y := by unfold sizY; omega
        have hW : max x (-x) + max y (-y) = -x + y := by omega
        rw [hX, hY] at b1 b2 b3 b4
        rw [e]
        refine k_Directs (by dsimp only; omega) (by dsimp only; omega) (by dsimp only; omega) (by dsimp only; omega) (by intro _; dsimp only; omega) (by intro q1 q2; have := hflat q1 q2; dsimp only; omega) (by intro _; dsimp only; omega) ?_
        refine k_Dtail (sl := ext RQ (highA n)) (kl := -kos RQ (highA n)) (sh := ext RQ (lowA n)) (kh := -kos RQ (lowA n)) hx1 hx2 hy1 hy2 (by dsimp only; omega) (by dsimp only; omega) (by dsimp only; omega) (by simp only [s_q RQ_00, k_q RQ_00, s_hm RQ_00, s_hp RQ_00, k_hp RQ_00, k_hm RQ_00, s_fm RQ_00, k_fm RQ_00, Int.neg_neg]) (by simp only [s_q RQ_00, k_q RQ_00, s_hm RQ_00, s_hp RQ_00, k_hp RQ_00, k_hm RQ_00, s_fm RQ_00, k_fm RQ_00, Int.neg_neg]) (by simp only [s_q RQ_00, k_q RQ_00, s_hm RQ_00, s_hp RQ_00, k_hp RQ_00, k_hm RQ_00, s_fm RQ_00, k_fm RQ_00, Int.neg_neg]) (by simp only [s_q RQ_00, k_q RQ_00, s_hm RQ_00, s_hp RQ_00, k_hp RQ_00, k_hm RQ_00, s_fm RQ_00, k_fm RQ_00, Int.neg_neg]) ?_ ?_ ?_ ?_
        all_goals
          rw [hW]
          generalize ext RQ (lowA n) = sL at *
          generalize kos RQ (lowA n) = kL at *
          generalize ext RQ (highA n) = sH at *
          generalize kos RQ (highA n) = kH at *
          clear hsw hx hy e hX hY hW hflat hn hlo hhi hne
          grind
    · by_cases hy : y < 0
      · have e : angV x y n = (1296000 - (highA n), 1296000 - (lowA n)) := by unfold angV angB angQ; rw [if_neg hsw, if_neg hx, if_pos hy]
        have hX : sizX x y = x := by unfold sizX; omega
        have hY : sizY x y = -y := by unfold sizY; omega
        have hW : max x (-x) + max y (-y) = x + -y := by omega
        rw [hX, hY] at b1 b2 b3 b4
        rw [e]
        refine k_Directs (by dsimp only; omega) (by dsimp only; omega) (by dsimp only; omega) (by dsimp only; omega) (by intro _; dsimp only; omega) (by intro q1 q2; have := hflat q1 q2; dsimp only; omega) (by intro _; dsimp only; omega) ?_
        refine k_Dtail (sl := -ext RQ (highA n)) (kl := kos RQ (highA n)) (sh := -ext RQ (lowA n)) (kh := kos RQ (lowA n)) hx1 hx2 hy1 hy2 (by dsimp only; omega) (by dsimp only; omega) (by dsimp only; omega) (by simp only [s_q RQ_00, k_q RQ_00, s_hm RQ_00, s_hp RQ_00, k_hp RQ_00, k_hm RQ_00, s_fm RQ_00, k_fm RQ_00, Int.neg_neg]) (by simp only [s_q RQ_00, k_q RQ_00, s_hm RQ_00, s_hp RQ_00, k_hp RQ_00, k_hm RQ_00, s_fm RQ_00, k_fm RQ_00, Int.neg_neg]) (by simp only [s_q RQ_00, k_q RQ_00, s_hm RQ_00, s_hp RQ_00, k_hp RQ_00, k_hm RQ_00, s_fm RQ_00, k_fm RQ_00, Int.neg_neg]) (by simp only [s_q RQ_00, k_q RQ_00, s_hm RQ_00, s_hp RQ_00, k_hp RQ_00, k_hm RQ_00, s_fm RQ_00, k_fm RQ_00, Int.neg_neg]) ?_ ?_ ?_ ?_
        all_goals
          rw [hW]
          generalize ext RQ (lowA n) = sL at *
          generalize kos RQ (lowA n) = kL at *
          generalize ext RQ (highA n) = sH at *
          generalize kos RQ (highA n) = kH at *
          clear hsw hx hy e hX hY hW hflat hn hlo hhi hne
          grind
      · have e : angV x y n = (lowA n, highA n) := by unfold angV angB angQ; rw [if_neg hsw, if_neg hx, if_neg hy]
        have hX : sizX x y = x := by unfold sizX; omega
        have hY : sizY x y = y := by unfold sizY; omega
        have hW : max x (-x) + max y (-y) = x + y := by omega
        rw [hX, hY] at b1 b2 b3 b4
        rw [e]
        refine k_Directs (by dsimp only; omega) (by dsimp only; omega) (by dsimp only; omega) (by dsimp only; omega) (by intro _; dsimp only; omega) (by intro q1 q2; have := hflat q1 q2; dsimp only; omega) (by intro _; dsimp only; omega) ?_
        refine k_Dtail (sl := ext RQ (lowA n)) (kl := kos RQ (lowA n)) (sh := ext RQ (highA n)) (kh := kos RQ (highA n)) hx1 hx2 hy1 hy2 (by dsimp only; omega) (by dsimp only; omega) (by dsimp only; omega) rfl rfl rfl rfl ?_ ?_ ?_ ?_
        all_goals
          rw [hW]
          generalize ext RQ (lowA n) = sL at *
          generalize kos RQ (lowA n) = kL at *
          generalize ext RQ (highA n) = sH at *
          generalize kos RQ (highA n) = kH at *
          clear hsw hx hy e hX hY hW hflat hn hlo hhi hne
          grind
theorem k_NumberAngles {x : Int} {y : Int} (b0 : bulkT (.int .i64) x ≤ 1048576) (w0 : wfT (.int .i64) x) (b1 : bulkT (.int .i64) y ≤ 1048576) (w1 : wfT (.int .i64) y) : law01xNumberAngles x y = some ((true, ()), ()) := by
  show (T_law01xNumberAngles x y).run = _
  unfold T_law01xNumberAngles
  rw [r_bind, awake_ok, Option.bind_some]
  refine (br_f rfl).trans ?_
  by_cases hx : -10000 ≤ x ∧ x ≤ 10000
  · by_cases hy : -10000 ≤ y ∧ y ≤ 10000
    · by_cases hz : x = 0 ∧ y = 0
      · obtain ⟨rfl, rfl⟩ := hz
        have e : number_Angle 0 0 = some (((0, 0), (11, ())), ()) := by kernel_rfl
        refine (r_bs e).trans ?_
        refine (r_bs (k_Within _ _ _)).trans ?_
        refine (br_f rfl).trans ?_
        refine (r_bs (k_Within _ _ _)).trans ?_
        refine (br_f rfl).trans ?_
        refine (br_t rfl).trans ?_
        refine (br_t rfl).trans ?_
        refine (br_t rfl).trans ?_
        exact r_ret _
      · obtain ⟨n, e, hn⟩ := k_Angle hx.1 hx.2 hy.1 hy.2 hz
        have d := k_Dir hx.1 hx.2 hy.1 hy.2 hz hn
        refine (r_bs e).trans ?_
        refine (r_bs (k_Within _ _ _)).trans ?_
        refine (br_f (nd hx)).trans ?_
        refine (r_bs (k_Within _ _ _)).trans ?_
        refine (br_f (nd hy)).trans ?_
        by_cases x0 : x = 0
        · refine (br_t (decide_eq_true x0)).trans ?_
          refine (br_f (decide_eq_false (fun hh => hz ⟨x0, hh⟩))).trans ?_
          refine (br_t rfl).trans ?_
          refine (r_bs d).trans ?_
          exact r_ret _
        · refine (br_f (decide_eq_false x0)).trans ?_
          refine (br_t rfl).trans ?_
          refine (r_bs d).trans ?_
          exact r_ret _
    · have e : number_Angle x y = some (((0, 0), (2, ())), ()) := by
        show (T_number_Angle x y).run = _
        unfold T_number_Angle
        refine (r_bs (k_between _ _ _)).trans ?_
        refine (br_f (nd hx)).trans ?_
        refine (r_bs (k_between _ _ _)).trans ?_
        exact (br_t (nd' hy)).trans (r_ret _)
      refine (r_bs e).trans ?_
      refine (r_bs (k_Within _ _ _)).trans ?_
      refine (br_f (nd hx)).trans ?_
      refine (r_bs (k_Within _ _ _)).trans ?_
      refine (br_t (nd' hy)).trans ?_
      refine (br_t rfl).trans ?_
      exact r_ret _
  · have e : number_Angle x y = some (((0, 0), (2, ())), ()) := by
      show (T_number_Angle x y).run = _
      unfold T_number_Angle
      refine (r_bs (k_between _ _ _)).trans ?_
      exact (br_t (nd' hx)).trans (r_ret _)
    refine (r_bs e).trans ?_
    refine (r_bs (k_Within _ _ _)).trans ?_
    refine (br_t (nd' hx)).trans ?_
    refine (br_t rfl).trans ?_
    exact r_ret _
end Go.Ab
