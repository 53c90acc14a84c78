/- Angle: the direction of a vector; Directs. -/
import Derived.Test.YtgncmamcgplcgaaYA
namespace Go.Ab
open Go
set_option maxRecDepth 1000000
set_option maxHeartbeats 1000000
set_option linter.unusedVariables false
set_option linter.unusedSimpArgs false

theorem mx (a b : Int) : (if false = true then min a b else max a b) = max a b := if_neg (by decide)
theorem mn (a b : Int) : (if true = true then min a b else max a b) = min a b := if_pos rfl
theorem k_dn {a b e : Int} (hb : 0 < b) (hb2 : b ≤ 1000) (h1 : -1000000000 ≤ a) (h2 : a ≤ 1000000000) (he : a / b = e) : number_down a b = some ((e, ()), ()) := by
  rw [← he]; exact k_down hb (by omega) (by omega) (by omega)
theorem k_upp {a b e : Int} (hb : 0 < b) (hb2 : b ≤ 1000) (h1 : -1000000000 ≤ a) (h2 : a ≤ 1000000000) (he : -(-a / b) = e) : number_up a b = some ((e, ()), ()) := by
  rw [← he]; exact k_up hb (by omega) (by omega) (by omega)
/-- The ends of the direction of a vector, of those in the first eighth. -/
def angB (sw : Prop) [Decidable sw] (L H : Int) : Int × Int := if sw then (324000 - H, 324000 - L) else (L, H)
def angQ (x y : Int) (r : Int × Int) : Int × Int := if x < 0 then (if y < 0 then (648000 + r.1, 648000 + r.2) else (648000 - r.2, 648000 - r.1)) else (if y < 0 then (1296000 - r.2, 1296000 - r.1) else r)
def sizX (x y : Int) : Int := max (max x (-x)) (max y (-y))
def sizY (x y : Int) : Int := min (max x (-x)) (max y (-y))
def angV (x y n : Int) : Int × Int := angQ x y (angB (max x (-x) < max y (-y)) (lowA n) (highA n))
def okV (r : Int × Int) : ((Int × Int) × (Int × Unit)) × Unit := ((r, (0, ())), ())
theorem k_Angle {x y : Int} (hx1 : -10000 ≤ x) (hx2 : x ≤ 10000) (hy1 : -10000 ≤ y) (hy2 : y ≤ 10000) (hne : ¬ (x = 0 ∧ y = 0)) : ∃ n, number_Angle x y = some (okV (angV x y n)) ∧ Found (sizX x y) (sizY x y) n := by
  obtain ⟨n, e, hn⟩ := k_slope (X := sizX x y) (Y := sizY x y) (by unfold sizY; omega) (by unfold sizX sizY; omega) (by unfold sizX; omega)
  refine ⟨n, ?_, hn⟩
  have n0 := hn.nn
  have n1 := hn.le
  have hlo : lowA n = (n - 5) / 100 := rfl
  have hhi : highA n = -(-(n + 6) / 100) := rfl
  show (T_number_Angle x y).run = _
  unfold T_number_Angle
  refine (r_bs (k_between _ _ _)).trans ?_
  refine (br_f (nd ⟨hx1, hx2⟩)).trans ?_
  refine (r_bs (k_between _ _ _)).trans ?_
  refine (br_f (nd ⟨hy1, hy2⟩)).trans ?_
  simp only [mx, mn]
  rw [w64' (x := 0 - x) (by omega) (by omega), w64' (x := 0 - y) (by omega) (by omega), Int.zero_sub, Int.zero_sub]
  have e' : number_slope (max (max x (-x)) (max y (-y))) (min (max x (-x)) (max y (-y))) = some ((n, ()), ()) := e
  unfold okV
  by_cases hx0 : x = 0
  · refine (br_t (decide_eq_true hx0)).trans ?_
    refine (br_f (decide_eq_false (fun hh => hne ⟨hx0, hh⟩))).trans ?_
    refine (r_bs e').trans ?_
    by_cases hsw : max x (-x) < max y (-y)
    · by_cases hx : x < 0
      · by_cases hy : y < 0
        · refine (br_t (decide_eq_true hsw)).trans ?_
          refine (br_t (decide_eq_true hx)).trans ?_
          refine (br_t (decide_eq_true hy)).trans ?_
          dsimp only
          rw [w64' (x := n - 5) (by omega) (by omega), w64' (x := n + 1) (by omega) (by omega), w64' (x := n + 1 + 5) (by omega) (by omega), w64' (x := 32400000 - (n + 1 + 5)) (by omega) (by omega), w64' (x := 32400000 - (n - 5)) (by omega) (by omega), w64' (x := 64800000 + (32400000 - (n + 1 + 5))) (by omega) (by omega), w64' (x := 64800000 + (32400000 - (n - 5))) (by omega) (by omega)]
          refine (r_bs (k_dn (e := 648000 + (324000 - highA n)) (by decide) (by decide) (by omega) (by omega) (by omega))).trans ?_
          refine (r_bs (k_upp (e := 648000 + (324000 - lowA n)) (by decide) (by decide) (by omega) (by omega) (by omega))).trans ?_
          have e : angV x y n = (648000 + (324000 - highA n), 648000 + (324000 - lowA n)) := by unfold angV angB angQ; rw [if_pos hsw, if_pos hx, if_pos hy]
          rw [e]
          exact r_ret _
        · refine (br_t (decide_eq_true hsw)).trans ?_
          refine (br_t (decide_eq_true hx)).trans ?_
          refine (br_f (decide_eq_false hy)).trans ?_
          refine (br_t (decide_eq_true hx)).trans ?_
          dsimp only
          rw [w64' (x := n - 5) (by omega) (by omega), w64' (x := n + 1) (by omega) (by omega), w64' (x := n + 1 + 5) (by omega) (by omega), w64' (x := 32400000 - (n + 1 + 5)) (by omega) (by omega), w64' (x := 32400000 - (n - 5)) (by omega) (by omega), w64' (x := 64800000 - (32400000 - (n - 5))) (by omega) (by omega), w64' (x := 64800000 - (32400000 - (n + 1 + 5))) (by omega) (by omega)]
          refine (r_bs (k_dn (e := 648000 - (324000 - lowA n)) (by decide) (by decide) (by omega) (by omega) (by omega))).trans ?_
          refine (r_bs (k_upp (e := 648000 - (324000 - highA n)) (by decide) (by decide) (by omega) (by omega) (by omega))).trans ?_
          have e : angV x y n = (648000 - (324000 - lowA n), 648000 - (324000 - highA n)) := by unfold angV angB angQ; rw [if_pos hsw, if_pos hx, if_neg hy]
          rw [e]
          exact r_ret _
      · by_cases hy : y < 0
        · refine (br_t (decide_eq_true hsw)).trans ?_
          refine (br_f (decide_eq_false hx)).trans ?_
          refine (br_f (decide_eq_false hx)).trans ?_
          refine (br_t (decide_eq_true hy)).trans ?_
          dsimp only
          rw [w64' (x := n - 5) (by omega) (by omega), w64' (x := n + 1) (by omega) (by omega), w64' (x := n + 1 + 5) (by omega) (by omega), w64' (x := 32400000 - (n + 1 + 5)) (by omega) (by omega), w64' (x := 32400000 - (n - 5)) (by omega) (by omega), w64' (x := 129600000 - (32400000 - (n - 5))) (by omega) (by omega), w64' (x := 129600000 - (32400000 - (n + 1 + 5))) (by omega) (by omega)]
          refine (r_bs (k_dn (e := 1296000 - (324000 - lowA n)) (by decide) (by decide) (by omega) (by omega) (by omega))).trans ?_
          refine (r_bs (k_upp (e := 1296000 - (324000 - highA n)) (by decide) (by decide) (by omega) (by omega) (by omega))).trans ?_
          have e : angV x y n = (1296000 - (324000 - lowA n), 1296000 - (324000 - highA n)) := by unfold angV angB angQ; rw [if_pos hsw, if_neg hx, if_pos hy]
          rw [e]
          exact r_ret _
        · refine (br_t (decide_eq_true hsw)).trans ?_
          refine (br_f (decide_eq_false hx)).trans ?_
          refine (br_f (decide_eq_false hx)).trans ?_
          refine (br_f (decide_eq_false hy)).trans ?_
          dsimp only
          rw [w64' (x := n - 5) (by omega) (by omega), w64' (x := n + 1) (by omega) (by omega), w64' (x := n + 1 + 5) (by omega) (by omega), w64' (x := 32400000 - (n + 1 + 5)) (by omega) (by omega), w64' (x := 32400000 - (n - 5)) (by omega) (by omega)]
          refine (r_bs (k_dn (e := 324000 - highA n) (by decide) (by decide) (by omega) (by omega) (by omega))).trans ?_
          refine (r_bs (k_upp (e := 324000 - lowA n) (by decide) (by decide) (by omega) (by omega) (by omega))).trans ?_
          have e : angV x y n = (324000 - highA n, 324000 - lowA n) := by unfold angV angB angQ; rw [if_pos hsw, if_neg hx, if_neg hy]
          rw [e]
          exact r_ret _
    · by_cases hx : x < 0
      · by_cases hy : y < 0
        · refine (br_f (decide_eq_false hsw)).trans ?_
          refine (br_t (decide_eq_true hx)).trans ?_
          refine (br_t (decide_eq_true hy)).trans ?_
          dsimp only
          rw [w64' (x := n - 5) (by omega) (by omega), w64' (x := n + 1) (by omega) (by omega), w64' (x := n + 1 + 5) (by omega) (by omega), w64' (x := 64800000 + (n - 5)) (by omega) (by omega), w64' (x := 64800000 + (n + 1 + 5)) (by omega) (by omega)]
          refine (r_bs (k_dn (e := 648000 + (lowA n)) (by decide) (by decide) (by omega) (by omega) (by omega))).trans ?_
          refine (r_bs (k_upp (e := 648000 + (highA n)) (by decide) (by decide) (by omega) (by omega) (by omega))).trans ?_
          have e : angV x y n = (648000 + (lowA n), 648000 + (highA n)) := by unfold angV angB angQ; rw [if_neg hsw, if_pos hx, if_pos hy]
          rw [e]
          exact r_ret _
        · refine (br_f (decide_eq_false hsw)).trans ?_
          refine (br_t (decide_eq_true hx)).trans ?_
          refine (br_f (decide_eq_false hy)).trans ?_
          refine (br_t (decide_eq_true hx)).trans ?_
          dsimp only
          rw [w64' (x := n - 5) (by omega) (by omega), w64' (x := n + 1) (by omega) (by omega), w64' (x := n + 1 + 5) (by omega) (by omega), w64' (x := 64800000 - (n + 1 + 5)) (by omega) (by omega), w64' (x := 64800000 - (n - 5)) (by omega) (by omega)]
          refine (r_bs (k_dn (e := 648000 - (highA n)) (by decide) (by decide) (by omega) (by omega) (by omega))).trans ?_
          refine (r_bs (k_upp (e := 648000 - (lowA n)) (by decide) (by decide) (by omega) (by omega) (by omega))).trans ?_
          have e : angV x y n = (648000 - (highA n), 648000 - (lowA n)) := by unfold angV angB angQ; rw [if_neg hsw, if_pos hx, if_neg hy]
          rw [e]
          exact r_ret _
      · by_cases hy : y < 0
        · refine (br_f (decide_eq_false hsw)).trans ?_
          refine (br_f (decide_eq_false hx)).trans ?_
          refine (br_f (decide_eq_false hx)).trans ?_
          refine (br_t (decide_eq_true hy)).trans ?_
          dsimp only
          rw [w64' (x := n - 5) (by omega) (by omega), w64' (x := n + 1) (by omega) (by omega), w64' (x := n + 1 + 5) (by omega) (by omega), w64' (x := 129600000 - (n + 1 + 5)) (by omega) (by omega), w64' (x := 129600000 - (n - 5)) (by omega) (by omega)]
          refine (r_bs (k_dn (e := 1296000 - (highA n)) (by decide) (by decide) (by omega) (by omega) (by omega))).trans ?_
          refine (r_bs (k_upp (e := 1296000 - (lowA n)) (by decide) (by decide) (by omega) (by omega) (by omega))).trans ?_
          have e : angV x y n = (1296000 - (highA n), 1296000 - (lowA n)) := by unfold angV angB angQ; rw [if_neg hsw, if_neg hx, if_pos hy]
          rw [e]
          exact r_ret _
        · refine (br_f (decide_eq_false hsw)).trans ?_
          refine (br_f (decide_eq_false hx)).trans ?_
          refine (br_f (decide_eq_false hx)).trans ?_
          refine (br_f (decide_eq_false hy)).trans ?_
          dsimp only
          rw [w64' (x := n - 5) (by omega) (by omega), w64' (x := n + 1) (by omega) (by omega), w64' (x := n + 1 + 5) (by omega) (by omega)]
          refine (r_bs (k_dn (e := lowA n) (by decide) (by decide) (by omega) (by omega) rfl)).trans ?_
          refine (r_bs (k_upp (e := highA n) (by decide) (by decide) (by omega) (by omega) (by omega))).trans ?_
          have e : angV x y n = (lowA n, highA n) := by unfold angV angB angQ; rw [if_neg hsw, if_neg hx, if_neg hy]
          rw [e]
          exact r_ret _
  · refine (br_f (decide_eq_false hx0)).trans ?_
    refine (r_bs e').trans ?_
    by_cases hsw : max x (-x) < max y (-y)
    · by_cases hx : x < 0
      · by_cases hy : y < 0
        · refine (br_t (decide_eq_true hsw)).trans ?_
          refine (br_t (decide_eq_true hx)).trans ?_
          refine (br_t (decide_eq_true hy)).trans ?_
          dsimp only
          rw [w64' (x := n - 5) (by omega) (by omega), w64' (x := n + 1) (by omega) (by omega), w64' (x := n + 1 + 5) (by omega) (by omega), w64' (x := 32400000 - (n + 1 + 5)) (by omega) (by omega), w64' (x := 32400000 - (n - 5)) (by omega) (by omega), w64' (x := 64800000 + (32400000 - (n + 1 + 5))) (by omega) (by omega), w64' (x := 64800000 + (32400000 - (n - 5))) (by omega) (by omega)]
          refine (r_bs (k_dn (e := 648000 + (324000 - highA n)) (by decide) (by decide) (by omega) (by omega) (by omega))).trans ?_
          refine (r_bs (k_upp (e := 648000 + (324000 - lowA n)) (by decide) (by decide) (by omega) (by omega) (by omega))).trans ?_
          have e : angV x y n = (648000 + (324000 - highA n), 648000 + (324000 - lowA n)) := by unfold angV angB angQ; rw [if_pos hsw, if_pos hx, if_pos hy]
          rw [e]
          exact r_ret _
        · refine (br_t (decide_eq_true hsw)).trans ?_
          refine (br_t (decide_eq_true hx)).trans ?_
          refine (br_f (decide_eq_false hy)).trans ?_
          refine (br_t (decide_eq_true hx)).trans ?_
          dsimp only
          rw [w64' (x := n - 5) (by omega) (by omega), w64' (x := n + 1) (by omega) (by omega), w64' (x := n + 1 + 5) (by omega) (by omega), w64' (x := 32400000 - (n + 1 + 5)) (by omega) (by omega), w64' (x := 32400000 - (n - 5)) (by omega) (by omega), w64' (x := 64800000 - (32400000 - (n - 5))) (by omega) (by omega), w64' (x := 64800000 - (32400000 - (n + 1 + 5))) (by omega) (by omega)]
          refine (r_bs (k_dn (e := 648000 - (324000 - lowA n)) (by decide) (by decide) (by omega) (by omega) (by omega))).trans ?_
          refine (r_bs (k_upp (e := 648000 - (324000 - highA n)) (by decide) (by decide) (by omega) (by omega) (by omega))).trans ?_
          have e : angV x y n = (648000 - (324000 - lowA n), 648000 - (324000 - highA n)) := by unfold angV angB angQ; rw [if_pos hsw, if_pos hx, if_neg hy]
          rw [e]
          exact r_ret _
      · by_cases hy : y < 0
        · refine (br_t (decide_eq_true hsw)).trans ?_
          refine (br_f (decide_eq_false hx)).trans ?_
          refine (br_f (decide_eq_false hx)).trans ?_
          refine (br_t (decide_eq_true hy)).trans ?_
          dsimp only
          rw [w64' (x := n - 5) (by omega) (by omega), w64' (x := n + 1) (by omega) (by omega), w64' (x := n + 1 + 5) (by omega) (by omega), w64' (x := 32400000 - (n + 1 + 5)) (by omega) (by omega), w64' (x := 32400000 - (n - 5)) (by omega) (by omega), w64' (x := 129600000 - (32400000 - (n - 5))) (by omega) (by omega), w64' (x := 129600000 - (32400000 - (n + 1 + 5))) (by omega) (by omega)]
          refine (r_bs (k_dn (e := 1296000 - (324000 - lowA n)) (by decide) (by decide) (by omega) (by omega) (by omega))).trans ?_
          refine (r_bs (k_upp (e := 1296000 - (324000 - highA n)) (by decide) (by decide) (by omega) (by omega) (by omega))).trans ?_
          have e : angV x y n = (1296000 - (324000 - lowA n), 1296000 - (324000 - highA n)) := by unfold angV angB angQ; rw [if_pos hsw, if_neg hx, if_pos hy]
          rw [e]
          exact r_ret _
        · refine (br_t (decide_eq_true hsw)).trans ?_
          refine (br_f (decide_eq_false hx)).trans ?_
          refine (br_f (decide_eq_false hx)).trans ?_
          refine (br_f (decide_eq_false hy)).trans ?_
          dsimp only
          rw [w64' (x := n - 5) (by omega) (by omega), w64' (x := n + 1) (by omega) (by omega), w64' (x := n + 1 + 5) (by omega) (by omega), w64' (x := 32400000 - (n + 1 + 5)) (by omega) (by omega), w64' (x := 32400000 - (n - 5)) (by omega) (by omega)]
          refine (r_bs (k_dn (e := 324000 - highA n) (by decide) (by decide) (by omega) (by omega) (by omega))).trans ?_
          refine (r_bs (k_upp (e := 324000 - lowA n) (by decide) (by decide) (by omega) (by omega) (by omega))).trans ?_
          have e : angV x y n = (324000 - highA n, 324000 - lowA n) := by unfold angV angB angQ; rw [if_pos hsw, if_neg hx, if_neg hy]
          rw [e]
          exact r_ret _
    · by_cases hx : x < 0
      · by_cases hy : y < 0
        · refine (br_f (decide_eq_false hsw)).trans ?_
          refine (br_t (decide_eq_true hx)).trans ?_
          refine (br_t (decide_eq_true hy)).trans ?_
          dsimp only
          rw [w64' (x := n - 5) (by omega) (by omega), w64' (x := n + 1) (by omega) (by omega), w64' (x := n + 1 + 5) (by omega) (by omega), w64' (x := 64800000 + (n - 5)) (by omega) (by omega), w64' (x := 64800000 + (n + 1 + 5)) (by omega) (by omega)]
          refine (r_bs (k_dn (e := 648000 + (lowA n)) (by decide) (by decide) (by omega) (by omega) (by omega))).trans ?_
          refine (r_bs (k_upp (e := 648000 + (highA n)) (by decide) (by decide) (by omega) (by omega) (by omega))).trans ?_
          have e : angV x y n = (648000 + (lowA n), 648000 + (highA n)) := by unfold angV angB angQ; rw [if_neg hsw, if_pos hx, if_pos hy]
          rw [e]
          exact r_ret _
        · refine (br_f (decide_eq_false hsw)).trans ?_
          refine (br_t (decide_eq_true hx)).trans ?_
          refine (br_f (decide_eq_false hy)).trans ?_
          refine (br_t (decide_eq_true hx)).trans ?_
          dsimp only
          rw [w64' (x := n - 5) (by omega) (by omega), w64' (x := n + 1) (by omega) (by omega), w64' (x := n + 1 + 5) (by omega) (by omega), w64' (x := 64800000 - (n + 1 + 5)) (by omega) (by omega), w64' (x := 64800000 - (n - 5)) (by omega) (by omega)]
          refine (r_bs (k_dn (e := 648000 - (highA n)) (by decide) (by decide) (by omega) (by omega) (by omega))).trans ?_
          refine (r_bs (k_upp (e := 648000 - (lowA n)) (by decide) (by decide) (by omega) (by omega) (by omega))).trans ?_
          have e : angV x y n = (648000 - (highA n), 648000 - (lowA n)) := by unfold angV angB angQ; rw [if_neg hsw, if_pos hx, if_neg hy]
          rw [e]
          exact r_ret _
      · by_cases hy : y < 0
        · refine (br_f (decide_eq_false hsw)).trans ?_
          refine (br_f (decide_eq_false hx)).trans ?_
          refine (br_f (decide_eq_false hx)).trans ?_
          refine (br_t (decide_eq_true hy)).trans ?_
          dsimp only
          rw [w64' (x := n - 5) (by omega) (by omega), w64' (x := n + 1) (by omega) (by omega), w64' (x := n + 1 + 5) (by omega) (by omega), w64' (x := 129600000 - (n + 1 + 5)) (by omega) (by omega), w64' (x := 129600000 - (n - 5)) (by omega) (by omega)]
          refine (r_bs (k_dn (e := 1296000 - (highA n)) (by decide) (by decide) (by omega) (by omega) (by omega))).trans ?_
          refine (r_bs (k_upp (e := 1296000 - (lowA n)) (by decide) (by decide) (by omega) (by omega) (by omega))).trans ?_
          have e : angV x y n = (1296000 - (highA n), 1296000 - (lowA n)) := by unfold angV angB angQ; rw [if_neg hsw, if_neg hx, if_pos hy]
          rw [e]
          exact r_ret _
        · refine (br_f (decide_eq_false hsw)).trans ?_
          refine (br_f (decide_eq_false hx)).trans ?_
          refine (br_f (decide_eq_false hx)).trans ?_
          refine (br_f (decide_eq_false hy)).trans ?_
          dsimp only
          rw [w64' (x := n - 5) (by omega) (by omega), w64' (x := n + 1) (by omega) (by omega), w64' (x := n + 1 + 5) (by omega) (by omega)]
          refine (r_bs (k_dn (e := lowA n) (by decide) (by decide) (by omega) (by omega) rfl)).trans ?_
          refine (r_bs (k_upp (e := highA n) (by decide) (by decide) (by omega) (by omega) (by omega))).trans ?_
          have e : angV x y n = (lowA n, highA n) := by unfold angV angB angQ; rw [if_neg hsw, if_neg hx, if_neg hy]
          rw [e]
          exact r_ret _
def D_tail (r : Int × Int) (x y : Int) : Tr ((Bool × Unit) × Unit) := .bind (.pair (.pair (.int .i64) .unit) .unit) (base_Abs x) fun z139 => .bind (.pair (.pair (.int .i64) .unit) .unit) (base_Abs y) fun z140 => .bind (.pair (.pair (.int .i64) .unit) .unit) (ref01xSine r.fst) fun z141 => .bind (.pair (.pair (.int .i64) .unit) .unit) (ref01xCosine r.fst) fun z142 => .bind (.pair (.pair (.int .i64) .unit) .unit) (ref01xSine r.snd) fun z143 => .bind (.pair (.pair (.int .i64) .unit) .unit) (ref01xCosine r.snd) fun z144 => .br (decide (IntKind.i64.wrap ((0 : Int) - IntKind.i64.wrap ((40 : Int) * IntKind.i64.wrap (z139.fst.fst + z140.fst.fst))) ≤ IntKind.i64.wrap (IntKind.i64.wrap (z142.fst.fst * y) - IntKind.i64.wrap (z141.fst.fst * x)))) (.br (decide (IntKind.i64.wrap ((0 : Int) - IntKind.i64.wrap ((40 : Int) * IntKind.i64.wrap (z139.fst.fst + z140.fst.fst))) ≤ IntKind.i64.wrap (IntKind.i64.wrap (x * z143.fst.fst) - IntKind.i64.wrap (y * z144.fst.fst)))) (.br (decide (IntKind.i64.wrap ((0 : Int) - IntKind.i64.wrap ((40 : Int) * IntKind.i64.wrap (z139.fst.fst + z140.fst.fst))) ≤ IntKind.i64.wrap (IntKind.i64.wrap (z142.fst.fst * x) + IntKind.i64.wrap (z141.fst.fst * y)))) (.ret (((decide (IntKind.i64.wrap ((0 : Int) - IntKind.i64.wrap ((40 : Int) * IntKind.i64.wrap (z139.fst.fst + z140.fst.fst))) ≤ IntKind.i64.wrap (IntKind.i64.wrap (z144.fst.fst * x) + IntKind.i64.wrap (z143.fst.fst * y)))), ()), ())) (.ret (((false), ()), ()))) (.ret (((false), ()), ()))) (.ret (((false), ()), ()))
theorem k_Dtail {r : Int × Int} {x y sl kl sh kh : Int} (hx1 : -10000 ≤ x) (hx2 : x ≤ 10000) (hy1 : -10000 ≤ y) (hy2 : y ≤ 10000)
    (r1 : -3 ≤ r.1) (r2 : r.1 ≤ r.2) (r3 : r.2 ≤ 1296003) (e1 : ext RQ r.1 = sl) (e2 : kos RQ r.1 = kl) (e3 : ext RQ r.2 = sh) (e4 : kos RQ r.2 = kh)
    (c1 : -(40 * (max x (-x) + max y (-y))) ≤ kl * y - sl * x) (c2 : -(40 * (max x (-x) + max y (-y))) ≤ x * sh - y * kh)
    (c3 : -(40 * (max x (-x) + max y (-y))) ≤ kl * x + sl * y) (c4 : -(40 * (max x (-x) + max y (-y))) ≤ kh * x + sh * y) :
    (D_tail r x y).run = some ((true, ()), ()) := by
  have g1 := RQ_b' r.1
  have g2 := RQ_b' (r.1 + 324000)
  have g3 := RQ_b' r.2
  have g4 := RQ_b' (r.2 + 324000)
  change -1000000043 ≤ kos RQ r.1 ∧ kos RQ r.1 ≤ 1000000043 at g2
  change -1000000043 ≤ kos RQ r.2 ∧ kos RQ r.2 ≤ 1000000043 at g4
  rw [e1] at g1
  rw [e2] at g2
  rw [e3] at g3
  rw [e4] at g4
  have k1 := k_rSine (n := r.1) (by omega) (by omega)
  have k2 : ref01xCosine r.1 = some ((kos RQ r.1, ()), ()) := k_rCosine (by omega) (by omega)
  have k3 := k_rSine (n := r.2) (by omega) (by omega)
  have k4 : ref01xCosine r.2 = some ((kos RQ r.2, ()), ()) := k_rCosine (by omega) (by omega)
  rw [e1] at k1
  rw [e2] at k2
  rw [e3] at k3
  rw [e4] at k4
  have b1 := mul_bd (a := kl) (b := y) (m := 1000000043) (n := 10000) (by omega) (by omega) (by omega) (by omega)
  have b2 := mul_bd (a := sl) (b := x) (m := 1000000043) (n := 10000) (by omega) (by omega) (by omega) (by omega)
  have b3 := mul_bd (a := x) (b := sh) (m := 10000) (n := 1000000043) (by omega) (by omega) (by omega) (by omega)
  have b4 := mul_bd (a := y) (b := kh) (m := 10000) (n := 1000000043) (by omega) (by omega) (by omega) (by omega)
  have b5 := mul_bd (a := kl) (b := x) (m := 1000000043) (n := 10000) (by omega) (by omega) (by omega) (by omega)
  have b6 := mul_bd (a := sl) (b := y) (m := 1000000043) (n := 10000) (by omega) (by omega) (by omega) (by omega)
  have b7 := mul_bd (a := kh) (b := x) (m := 1000000043) (n := 10000) (by omega) (by omega) (by omega) (by omega)
  have b8 := mul_bd (a := sh) (b := y) (m := 1000000043) (n := 10000) (by omega) (by omega) (by omega) (by omega)
  have W : IntKind.i64.wrap (0 - IntKind.i64.wrap (40 * IntKind.i64.wrap (max x (-x) + max y (-y)))) = -(40 * (max x (-x) + max y (-y))) := by
    rw [w64' (x := max x (-x) + max y (-y)) (by omega) (by omega), w64' (x := 40 * (max x (-x) + max y (-y))) (by omega) (by omega), w64' (by omega) (by omega), Int.zero_sub]
  unfold D_tail
  refine (r_bs (k_Abs (n := x) (by omega) (by omega))).trans ?_
  refine (r_bs (k_Abs (n := y) (by omega) (by omega))).trans ?_
  refine (r_bs k1).trans ?_
  refine (r_bs k2).trans ?_
  refine (r_bs k3).trans ?_
  refine (r_bs k4).trans ?_
  dsimp only
  rw [W, w64' (x := kl * y) (by omega) (by omega), w64' (x := sl * x) (by omega) (by omega), w64' (x := kl * y - sl * x) (by omega) (by omega), w64' (x := x * sh) (by omega) (by omega), w64' (x := y * kh) (by omega) (by omega), w64' (x := x * sh - y * kh) (by omega) (by omega), w64' (x := kl * x) (by omega) (by omega), w64' (x := sl * y) (by omega) (by omega), w64' (x := kl * x + sl * y) (by omega) (by omega), w64' (x := kh * x) (by omega) (by omega), w64' (x := sh * y) (by omega) (by omega), w64' (x := kh * x + sh * y) (by omega) (by omega)]
  refine (br_t (decide_eq_true c1)).trans ?_
  refine (br_t (decide_eq_true c2)).trans ?_
  refine (br_t (decide_eq_true c3)).trans ?_
  rw [decide_eq_true c4]
  exact r_ret _
theorem k_Directs {r : Int × Int} {x y : Int} (r1 : -3 ≤ r.1) (r2 : r.1 ≤ r.2) (r3 : r.2 ≤ 1296003) (r4 : r.2 - r.1 ≤ 2)
    (d1 : 0 < y → r.1 ≤ 648000) (d2 : y = 0 → 0 ≤ x → r.1 ≤ 0) (d3 : y < 0 → 648000 ≤ r.2) (h : (D_tail r x y).run = some ((true, ()), ())) : ref01xDirects r x y = some ((true, ()), ()) := by
  show (T_ref01xDirects r x y).run = _
  unfold T_ref01xDirects
  refine (r_bs (k_Within _ _ _)).trans ?_
  refine (br_f (nd ⟨r1, r2⟩)).trans ?_
  refine (br_f (decide_eq_false (by omega))).trans ?_
  rw [w64' (x := r.2 - r.1) (by omega) (by omega)]
  refine (br_f (decide_eq_false (by omega))).trans ?_
  by_cases y0 : 0 ≤ y
  · refine (br_t (decide_eq_true y0)).trans ?_
    by_cases ye : y = 0
    · refine (br_t (decide_eq_true ye)).trans ?_
      by_cases x0 : x < 0
      · refine (br_f (nd x0)).trans ?_
        refine (br_f (decide_eq_false (by omega))).trans ?_
        refine (br_t (decide_eq_true ye)).trans ?_
        refine (br_f (decide_eq_false (by omega))).trans ?_
        exact h
      · have := d2 ye (by omega)
        refine (br_t (nd' x0)).trans ?_
        refine (br_f (decide_eq_false (by omega))).trans ?_
        refine (br_f (decide_eq_false (by omega))).trans ?_
        refine (br_t (decide_eq_true ye)).trans ?_
        by_cases x1 : 0 < x
        · refine (br_t (decide_eq_true x1)).trans ?_
          refine (br_f (decide_eq_false (by omega))).trans ?_
          exact h
        · refine (br_f (decide_eq_false x1)).trans ?_
          exact h
    · have := d1 (by omega)
      refine (br_f (decide_eq_false ye)).trans ?_
      refine (br_f (decide_eq_false (by omega))).trans ?_
      refine (br_f (decide_eq_false (by omega))).trans ?_
      refine (br_f (decide_eq_false ye)).trans ?_
      exact h
  · have := d3 (by omega)
    refine (br_f (decide_eq_false y0)).trans ?_
    refine (br_t (decide_eq_true (by omega))).trans ?_
    refine (br_f (decide_eq_false (by omega))).trans ?_
    refine (br_f (decide_eq_false (by omega))).trans ?_
    exact h
end Go.Ab
