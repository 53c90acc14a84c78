/- Angles: symmetries of the sines of any angle; the slope that is found; the direction. -/
import Derived.Test.YtgncmamcgplcgaaZC
namespace Go.Ab
open Go
set_option maxRecDepth 1000000
set_option maxHeartbeats 1000000
set_option linter.unusedVariables false
set_option linter.unusedSimpArgs false

/-! ### Symmetries -/
theorem ext_half {g : Int → Int} (h0 : g 0 = 0) (a : Int) : ext g (648000 - a) = ext g a := by
  have hb : (648000 - a) % 1296000 = if a % 1296000 ≤ 648000 then 648000 - a % 1296000 else 1944000 - a % 1296000 := by split <;> omega
  unfold ext
  rw [hb]
  have q0 : 0 ≤ a % 1296000 := by omega
  have q1 : a % 1296000 < 1296000 := by omega
  generalize a % 1296000 = u at *
  by_cases e0 : u = 0
  · subst e0; show -g 0 = g 0; omega
  by_cases e1 : u = 648000
  · subst e1; show g 0 = -g 0; omega
  by_cases e2 : u = 324000
  · subst e2; rfl
  by_cases e3 : u = 972000
  · subst e3; rfl
  by_cases q1 : u ≤ 324000
  · rw [if_pos (show u ≤ 648000 by omega), if_neg (by omega), if_pos (by omega), if_pos q1, show 648000 - (648000 - u) = u by omega]
  · by_cases q2 : u < 648000
    · rw [if_pos (show u ≤ 648000 by omega), if_pos (by omega), if_neg q1, if_pos q2]
    · rw [if_neg (show ¬ u ≤ 648000 by omega)]
      by_cases q3 : u ≤ 972000
      · rw [if_neg (by omega), if_neg (by omega), if_neg (by omega), if_neg q1, if_neg q2, if_pos q3, show 1296000 - (1944000 - u) = u - 648000 by omega]
      · rw [if_neg (by omega), if_neg (by omega), if_pos (by omega), if_neg q1, if_neg q2, if_neg q3, show 1944000 - u - 648000 = 1296000 - u by omega]
theorem ext_neg {g : Int → Int} (h0 : g 0 = 0) (a : Int) : ext g (-a) = -ext g a := by
  have hb : (-a) % 1296000 = if a % 1296000 = 0 then 0 else 1296000 - a % 1296000 := by split <;> omega
  unfold ext
  rw [hb]
  have q0 : 0 ≤ a % 1296000 := by omega
  have q1 : a % 1296000 < 1296000 := by omega
  generalize a % 1296000 = u at *
  by_cases e0 : u = 0
  · subst e0; show g 0 = -g 0; omega
  rw [if_neg e0]
  by_cases e1 : u = 648000
  · subst e1; show -g 0 = - -g 0; omega
  by_cases e2 : u = 324000
  · subst e2; rfl
  by_cases e3 : u = 972000
  · subst e3; show g 324000 = - -g 324000; omega
  by_cases q1 : u ≤ 324000
  · rw [if_neg (by omega), if_neg (by omega), if_neg (by omega), if_pos q1, show 1296000 - (1296000 - u) = u by omega]
  · by_cases q2 : u < 648000
    · rw [if_neg (by omega), if_neg (by omega), if_pos (by omega), if_neg q1, if_pos q2, show 1296000 - u - 648000 = 648000 - u by omega]
    · by_cases q3 : u ≤ 972000
      · rw [if_neg (by omega), if_pos (by omega), if_neg q1, if_neg q2, if_pos q3, show 648000 - (1296000 - u) = u - 648000 by omega, Int.neg_neg]
      · rw [if_pos (by omega), if_neg q1, if_neg q2, if_neg q3, Int.neg_neg]
theorem ext_per (g : Int → Int) (a : Int) : ext g (a + 1296000) = ext g a := by
  unfold ext; rw [show (a + 1296000) % 1296000 = a % 1296000 by omega]
/-- The cosine. -/
def kos (g : Int → Int) (a : Int) : Int := ext g (a + 324000)
section
variable {g : Int → Int} (h0 : g 0 = 0) (a : Int)
include h0
theorem s_q : ext g (324000 - a) = kos g a := by
  unfold kos; rw [← ext_half h0 (a + 324000), show 648000 - (a + 324000) = 324000 - a by omega]
theorem k_q : kos g (324000 - a) = ext g a := by
  unfold kos; rw [show 324000 - a + 324000 = 648000 - a by omega, ext_half h0]
theorem s_hm : ext g (648000 - a) = ext g a := ext_half h0 a
theorem s_hp : ext g (648000 + a) = -ext g a := by
  rw [← ext_neg h0, ← ext_half h0 (-a), show 648000 - -a = 648000 + a by omega]
theorem k_hp : kos g (648000 + a) = -kos g a := by
  unfold kos; rw [show 648000 + a + 324000 = 648000 + (a + 324000) by omega, s_hp h0]
theorem k_hm : kos g (648000 - a) = -kos g a := by
  unfold kos; rw [show 648000 - a + 324000 = 648000 + (324000 - a) by omega, s_hp h0, s_q h0]; rfl
theorem s_fm : ext g (1296000 - a) = -ext g a := by
  rw [show 1296000 - a = -a + 1296000 by omega, ext_per, ext_neg h0]
theorem k_fm : kos g (1296000 - a) = kos g a := by
  unfold kos; rw [show 1296000 - a + 324000 = (324000 - a) + 1296000 by omega, ext_per, s_q h0]; rfl
end
theorem PQ_00 : PQ 0 = 0 := by decide +kernel
theorem RQ_00 : RQ 0 = 0 := by decide +kernel

/-! ### The sines near the first eighth -/
theorem P_b {n : Int} (h0 : 0 ≤ n) (h1 : n ≤ 32400000) : -13 ≤ P n ∧ P n ≤ 1000000013 := by
  have c1 : ((-13 : Int) : Rat) = -13 := rfl
  have c2 : ((1000000013 : Int) : Rat) = 1000000013 := rfl
  by_cases h : n ≤ 16200000
  · obtain ⟨a1, a2⟩ := LP1 (n := n) (by omega) (by omega)
    obtain ⟨s1, s2⟩ := sin_01 (th_nn h0) (th_le (show n ≤ 16500000 by omega))
    refine ⟨int_of_rat ?_, int_of_rat ?_⟩ <;> first | rw [c1] | rw [c2]
    all_goals grind
  · obtain ⟨a1, a2⟩ := LP2 (n := n) (by omega) (by omega)
    obtain ⟨s1, s2⟩ := cos_01 (th_nn (show 0 ≤ 32400000 - n by omega)) (th_le (show 32400000 - n ≤ 16500000 by omega))
    refine ⟨int_of_rat ?_, int_of_rat ?_⟩ <;> first | rw [c1] | rw [c2]
    all_goals grind
/-- Near the polynomials: the reference's sine and cosine up to a little more than an eighth. -/
theorem R_s {a : Int} (h0 : 0 ≤ a) (h1 : a ≤ 162001) : -20 ≤ (ext RQ a : Rat) - 1000000000 * ev sinL (th (100 * a)) ∧ (ext RQ a : Rat) - 1000000000 * ev sinL (th (100 * a)) ≤ 20 := by
  by_cases e : a = 162001
  · subst e; exact ⟨by decide +kernel, by decide +kernel⟩
  have e1 : ext RQ a = RS a := by
    unfold ext RQ; rw [show a % 1296000 = a by omega, if_pos (by omega), if_pos (by omega)]
  have := LR1 h0 (by omega)
  rw [e1]; constructor <;> grind
theorem R_k {a : Int} (h0 : 0 ≤ a) (h1 : a ≤ 162001) : -20 ≤ (kos RQ a : Rat) - 1000000000 * ev cosL (th (100 * a)) ∧ (kos RQ a : Rat) - 1000000000 * ev cosL (th (100 * a)) ≤ 20 := by
  by_cases e : a = 162001
  · subst e; exact ⟨by decide +kernel, by decide +kernel⟩
  by_cases e' : a = 162000
  · subst e'; exact ⟨by decide +kernel, by decide +kernel⟩
  have e1 : kos RQ a = RC a := by
    rw [← s_q RQ_00]
    unfold ext RQ; rw [show (324000 - a) % 1296000 = 324000 - a by omega, if_pos (by omega), if_neg (by omega), show 324000 - (324000 - a) = a by omega]
  have := LR2 h0 (by omega)
  rw [e1]; constructor <;> grind
theorem le_of_rat {a b : Int} {B : Int} (h : (a : Rat) ≤ (b : Rat) + B) : a ≤ b + B := by
  rw [← Rat.intCast_add] at h; exact Rat.intCast_le_intCast.1 h
theorem below_s {a m : Int} (h0 : 0 ≤ a) (h1 : 100 * a ≤ m) (h2 : m ≤ 16200000) : ext RQ a ≤ P m + 32 := by
  have c : ((32 : Int) : Rat) = 32 := rfl
  obtain ⟨r1, r2⟩ := R_s h0 (by omega)
  obtain ⟨p1, p2⟩ := LP1 (n := m) (by omega) (by omega)
  obtain ⟨s1, _⟩ := sin_mono (th_nn (show 0 ≤ 100 * a by omega)) (th_mono h1) (th_le (show m ≤ 16500000 by omega))
  refine le_of_rat ?_
  rw [c]; grind
theorem below_k {a m : Int} (h0 : 0 ≤ a) (h1 : 100 * a ≤ m) (h2 : m ≤ 16200000) : P (32400000 - m) ≤ kos RQ a + 33 := by
  have c : ((33 : Int) : Rat) = 33 := rfl
  obtain ⟨r1, r2⟩ := R_k h0 (by omega)
  obtain ⟨p1, p2⟩ := LP2 (n := 32400000 - m) (by omega) (by omega)
  rw [show 32400000 - (32400000 - m) = m by omega] at p1 p2
  obtain ⟨s1, _⟩ := cos_mono (th_nn (show 0 ≤ 100 * a by omega)) (th_mono h1) (th_le (show m ≤ 16500000 by omega))
  refine le_of_rat ?_
  rw [c]; grind
theorem above_s {a m : Int} (h0 : 0 ≤ m) (h1 : m ≤ 100 * a) (h2 : a ≤ 162001) : P m ≤ ext RQ a + 32 := by
  have c : ((32 : Int) : Rat) = 32 := rfl
  obtain ⟨r1, r2⟩ := R_s (show 0 ≤ a by omega) h2
  obtain ⟨p1, p2⟩ := LP1 (n := m) (by omega) (by omega)
  obtain ⟨s1, _⟩ := sin_mono (th_nn h0) (th_mono h1) (th_le (show 100 * a ≤ 16500000 by omega))
  refine le_of_rat ?_
  rw [c]; grind
theorem above_k {a m : Int} (h0 : 0 ≤ m) (h1 : m ≤ 100 * a) (h2 : a ≤ 162001) : kos RQ a ≤ P (32400000 - m) + 33 := by
  have c : ((33 : Int) : Rat) = 33 := rfl
  obtain ⟨r1, r2⟩ := R_k (show 0 ≤ a by omega) h2
  obtain ⟨p1, p2⟩ := LP2 (n := 32400000 - m) (by omega) (by omega)
  rw [show 32400000 - (32400000 - m) = m by omega] at p1 p2
  obtain ⟨s1, _⟩ := cos_mono (th_nn h0) (th_mono h1) (th_le (show 100 * a ≤ 16500000 by omega))
  refine le_of_rat ?_
  rw [c]; grind
/-- What the search finds. -/
def cond (X Y m : Int) : Prop := P m * X ≤ P (32400000 - m) * Y
structure Found (X Y n : Int) : Prop where
  nn : 0 ≤ n
  le : n ≤ 16200000
  lo : n = 0 ∨ cond X Y n
  hi : n = 16200000 ∨ ¬ cond X Y (n + 1)
/-- The ends in whole arc seconds. -/
def lowA (n : Int) : Int := (n - 5) / 100
def highA (n : Int) : Int := -(-(n + 6) / 100)
structure Base (X Y sL kL sH kH : Int) : Prop where
  b1 : -(40 * (X + Y)) ≤ kL * Y - sL * X
  b2 : -(40 * (X + Y)) ≤ X * sH - Y * kH
  b3 : -(40 * (X + Y)) ≤ kL * X + sL * Y
  b4 : -(40 * (X + Y)) ≤ kH * X + sH * Y
theorem base_oct {X Y n : Int} (hY : 0 ≤ Y) (hXY : Y ≤ X) (h : Found X Y n) : Base X Y (ext RQ (lowA n)) (kos RQ (lowA n)) (ext RQ (highA n)) (kos RQ (highA n)) := by
  obtain ⟨n0, n1, hl, hh⟩ := h
  have l0 : -1 ≤ lowA n := by unfold lowA; omega
  have l1 : 100 * lowA n ≤ n - 5 := by unfold lowA; omega
  have g0 : n + 6 ≤ 100 * highA n := by unfold highA; omega
  have g1 : highA n ≤ 162001 := by unfold highA; omega
  have sHn : -20 ≤ ext RQ (highA n) := by
    have := above_s (a := highA n) (m := 0) (by omega) (by omega) g1
    have : P 0 = 0 := by decide +kernel
    have c : ((20 : Int) : Rat) = 20 := rfl
    obtain ⟨r1, r2⟩ := R_s (a := highA n) (by omega) g1
    obtain ⟨s1, s2⟩ := sin_01 (th_nn (show 0 ≤ 100 * highA n by omega)) (th_le (show 100 * highA n ≤ 16500000 by omega))
    have : (0 : Int) ≤ ext RQ (highA n) + 20 := le_of_rat (by rw [c]; show (0 : Rat) ≤ _; grind)
    omega
  have kHn : 0 ≤ kos RQ (highA n) := by
    obtain ⟨r1, r2⟩ := R_k (a := highA n) (by omega) g1
    obtain ⟨s1, s2⟩ := cos_01 (th_nn (show 0 ≤ 100 * highA n by omega)) (th_le (show 100 * highA n ≤ 16500000 by omega))
    exact int_of_rat (by show (0 : Rat) ≤ _; grind)
  have hL : (lowA n = -1 ∧ n ≤ 4) ∨ (0 ≤ lowA n) := by unfold lowA at *; omega
  have m0 := Int.mul_nonneg kHn (show 0 ≤ X by omega)
  have m1 := Int.mul_le_mul_of_nonneg_right sHn hY
  have low : -(40 * (X + Y)) ≤ kos RQ (lowA n) * Y - ext RQ (lowA n) * X ∧ -(40 * (X + Y)) ≤ kos RQ (lowA n) * X + ext RQ (lowA n) * Y := by
    rcases hL with ⟨e, _⟩ | e
    · rw [e]
      have e1 : ext RQ (-1) = -4848 := by decide +kernel
      have e2 : kos RQ (-1) = 999999989 ∨ (900000000 ≤ kos RQ (-1)) := .inr (by decide +kernel)
      have e3 : 900000000 ≤ kos RQ (-1) := by decide +kernel
      have q1 := Int.mul_le_mul_of_nonneg_right e3 hY
      have q2 := Int.mul_le_mul_of_nonneg_right e3 (show 0 ≤ X by omega)
      rw [e1]; omega
    · have hn : cond X Y n := by
        rcases hl with h | h
        · omega
        · exact h
      have u1 := below_s e (show 100 * lowA n ≤ n by omega) n1
      have u2 := below_k e (show 100 * lowA n ≤ n by omega) n1
      have w1 := Int.mul_le_mul_of_nonneg_right u1 (show 0 ≤ X by omega)
      have w2 := Int.mul_le_mul_of_nonneg_right u2 hY
      have sLn : -20 ≤ ext RQ (lowA n) := by
        have c : ((20 : Int) : Rat) = 20 := rfl
        obtain ⟨r1, r2⟩ := R_s (a := lowA n) e (by omega)
        obtain ⟨s1, s2⟩ := sin_01 (th_nn (show 0 ≤ 100 * lowA n by omega)) (th_le (show 100 * lowA n ≤ 16500000 by omega))
        have : (0 : Int) ≤ ext RQ (lowA n) + 20 := le_of_rat (by rw [c]; show (0 : Rat) ≤ _; grind)
        omega
      have kLn : 0 ≤ kos RQ (lowA n) := by
        obtain ⟨r1, r2⟩ := R_k (a := lowA n) e (by omega)
        obtain ⟨s1, s2⟩ := cos_01 (th_nn (show 0 ≤ 100 * lowA n by omega)) (th_le (show 100 * lowA n ≤ 16500000 by omega))
        exact int_of_rat (by show (0 : Rat) ≤ _; grind)
      have m2 := Int.mul_nonneg kLn (show 0 ≤ X by omega)
      have m3 := Int.mul_le_mul_of_nonneg_right sLn hY
      unfold cond at hn
      rw [Int.add_mul] at w1 w2
      omega
  have high : -(40 * (X + Y)) ≤ X * ext RQ (highA n) - Y * kos RQ (highA n) := by
    rcases hh with h | h
    · have eh : highA n = 162001 := by unfold highA; omega
      rw [eh]
      have e1 : kos RQ 162001 ≤ ext RQ 162001 := by decide +kernel
      have e2 : 0 ≤ kos RQ 162001 := by decide +kernel
      have w1 := Int.mul_le_mul_of_nonneg_left e1 (show 0 ≤ X by omega)
      have w2 := Int.mul_le_mul_of_nonneg_right hXY e2
      omega
    · unfold cond at h
      by_cases hlast : n = 16200000
      · have eh : highA n = 162001 := by unfold highA; omega
        rw [eh]
        have e1 : kos RQ 162001 ≤ ext RQ 162001 := by decide +kernel
        have e2 : 0 ≤ kos RQ 162001 := by decide +kernel
        have w1 := Int.mul_le_mul_of_nonneg_left e1 (show 0 ≤ X by omega)
        have w2 := Int.mul_le_mul_of_nonneg_right hXY e2
        omega
      · have u1 := above_s (m := n + 1) (by omega) (show n + 1 ≤ 100 * highA n by omega) g1
        have u2 := above_k (m := n + 1) (by omega) (show n + 1 ≤ 100 * highA n by omega) g1
        have w1 := Int.mul_le_mul_of_nonneg_right u1 (show 0 ≤ X by omega)
        have w2 := Int.mul_le_mul_of_nonneg_right u2 hY
        rw [Int.add_mul] at w1 w2
        rw [Int.mul_comm X, Int.mul_comm Y]
        omega
  exact ⟨low.1, high, low.2, by omega⟩
theorem k_cosine {n : Int} (h0 : 0 ≤ n) (h1 : n ≤ 32400000) : number_cosine n = some ((P (32400000 - n), ()), ()) := by
  show (T_number_cosine n).run = _
  unfold T_number_cosine
  rw [w64' (x := 32400000 - n) (by omega) (by omega)]
  exact (r_bs (k_sine (by omega) (by omega))).trans (r_ret _)
theorem k_slope {X Y : Int} (hY : 0 ≤ Y) (hXY : Y ≤ X) (hX : X ≤ 10000) : ∃ n, number_slope X Y = some ((n, ()), ()) ∧ Found X Y n := by
  have key : ∃ r, iterF (fun q_ => (T_number_slope_l0 X Y q_.1 q_.2.1).run) FUEL (0, 16200000, ()) = some r ∧ (∃ n, r = ((n, ()), ()) ∧ Found X Y n) := by
    refine iter_post (fun i st => ∃ lo hi, st = (lo, hi, ()) ∧ 0 ≤ lo ∧ lo ≤ hi ∧ hi ≤ 16200000 ∧ hi - lo ≤ 16200000 - (i : Int) ∧ (lo = 0 ∨ cond X Y lo) ∧ (hi = 16200000 ∨ ¬ cond X Y (hi + 1))) _ 16200000 (by omega) ?_ ⟨0, 16200000, rfl, by omega, by omega, by omega, by omega, .inl rfl, .inl rfl⟩
    rintro i st hi' ⟨lo, hi, rfl, h1, h2, h3, h4, h5, h6⟩
    simp only [T_number_slope_l0]
    by_cases hlt : lo < hi
    · left
      have em : IntKind.i64.wrap ((IntKind.i64.wrap (IntKind.i64.wrap (lo + hi) + 1)).tdiv 2) = (lo + hi + 1) / 2 := by
        rw [w64' (x := lo + hi) (by omega) (by omega), w64' (x := lo + hi + 1) (by omega) (by omega), Int.tdiv_eq_ediv_of_nonneg (by omega), w64' (by omega) (by omega)]
      rw [em]
      have m1 : lo < (lo + hi + 1) / 2 := by omega
      have m2 : (lo + hi + 1) / 2 ≤ hi := by omega
      generalize (lo + hi + 1) / 2 = m at *
      have p1 := P_b (n := m) (by omega) (by omega)
      have p2 := P_b (n := 32400000 - m) (by omega) (by omega)
      have b1 := mul_bd (a := P m) (b := X) (m := 1000000013) (n := 10000) (by omega) (by omega) (by omega) (by omega)
      have b2 := mul_bd (a := P (32400000 - m)) (b := Y) (m := 1000000013) (n := 10000) (by omega) (by omega) (by omega) (by omega)
      by_cases c : cond X Y m
      · refine ⟨(m, hi, ()), ?_, by omega, m, hi, rfl, by omega, by omega, by omega, by omega, .inr c, h6⟩
        refine (br_t (decide_eq_true hlt)).trans ?_
        refine (q_of rfl).trans ?_
        refine (r_bs (k_sine (by omega) (by omega))).trans ?_
        refine (r_bs (k_cosine (by omega) (by omega))).trans ?_
        dsimp only
        rw [w64' (x := P m * X) (by omega) (by omega), w64' (x := P (32400000 - m) * Y) (by omega) (by omega)]
        exact (br_t (decide_eq_true (show P m * X ≤ P (32400000 - m) * Y from c))).trans (r_ret _)
      · refine ⟨(lo, m - 1, ()), ?_, by omega, lo, m - 1, rfl, by omega, by omega, by omega, by omega, h5, .inr (by rw [show m - 1 + 1 = m by omega]; exact c)⟩
        refine (br_t (decide_eq_true hlt)).trans ?_
        refine (q_of rfl).trans ?_
        refine (r_bs (k_sine (by omega) (by omega))).trans ?_
        refine (r_bs (k_cosine (by omega) (by omega))).trans ?_
        dsimp only
        rw [w64' (x := P m * X) (by omega) (by omega), w64' (x := P (32400000 - m) * Y) (by omega) (by omega), w64' (x := m - 1) (by omega) (by omega)]
        exact (br_f (decide_eq_false (show ¬ P m * X ≤ P (32400000 - m) * Y from c))).trans (r_ret _)
    · right
      refine ⟨((lo, ()), ()), (br_f (decide_eq_false hlt)).trans (r_ret _), lo, rfl, h1, by omega, h5, ?_⟩
      rw [show lo = hi by omega]; exact h6
  obtain ⟨r, e, n, rfl, hn⟩ := key
  refine ⟨n, ?_, hn⟩
  show (T_number_slope X Y).run = _
  unfold T_number_slope
  rw [r_iter]
  exact e
end Go.Ab
