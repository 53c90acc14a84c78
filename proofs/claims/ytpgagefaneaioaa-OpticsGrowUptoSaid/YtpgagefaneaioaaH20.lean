/- Spheres and paraboloids: what their sags are. -/
import Derived.Test.YtpgagefaneaioaaH9
namespace Go.Ab
open Go
set_option maxRecDepth 1000000
set_option maxHeartbeats 1000000
set_option linter.unusedVariables false
set_option linter.unusedSimpArgs false

theorem le_of_sq {a b : Int} (hb : 0 ≤ b) (h : a * a ≤ b * b) : a ≤ b := by
  rcases Int.lt_or_le b a with q | q
  · exfalso
    have := sq_le (a := b + 1) (b := a) (by omega) (by omega)
    grind
  · exact q
/-- A quotient is at most M. -/
theorem div_le {n d m : Int} (hd : 0 < d) (h : n < (m + 1) * d) : n / d ≤ m := by
  have h1 := Int.ediv_mul_le n (show d ≠ 0 by omega)
  rcases Int.lt_or_le m (n / d) with q | q
  · exfalso
    have := Int.mul_le_mul_of_nonneg_right (show m + 1 ≤ n / d by omega) (show 0 ≤ d by omega)
    omega
  · exact q
/-- A quotient, rounded up, is at least M. -/
theorem le_cdiv {n d m : Int} (hd : 0 < d) (h : (m - 1) * d < n) : m ≤ -(-n / d) := by
  have h1 := Int.lt_ediv_add_one_mul_self (-n) hd
  rcases Int.lt_or_le (-(-n / d)) m with q | q
  · exfalso
    have := Int.mul_le_mul_of_nonneg_right (show -(m - 1) ≤ -n / d by omega) (show 0 ≤ d by omega)
    have e : -(m - 1) * d = -((m - 1) * d) := Int.neg_mul _ _
    have h2 := Int.ediv_mul_le (-n) (show d ≠ 0 by omega)
    omega
  · exact q
theorem sph_rad (R r : Int) : radL R (0, 1) r = 10000 * (R * R - r * r) ∧ radH R (0, 1) r = 10000 * (R * R - r * r) := by
  unfold radL radH
  simp only [Int.ediv_one]
  constructor <;> grind
theorem par_rad (R r : Int) : radL R (-1, 1) r = 100 * R * (100 * R) ∧ radH R (-1, 1) r = 100 * R * (100 * R) := by
  unfold radL radH
  simp only [Int.ediv_one]
  constructor <;> grind
theorem rt_sq {a : Int} (h : 0 ≤ a) : rt (a * a) = a ∧ rtu (a * a) = a := by
  have hp := Int.mul_nonneg h h
  have h1 := le_rt hp (Int.le_refl _) h
  have h2 := rt_bd hp h (Int.le_refl _)
  have e : rt (a * a) = a := by omega
  unfold rtu
  rw [e, if_pos rfl]
  exact ⟨rfl, rfl⟩
/-- The sag is at most what is left of the radius. -/
theorem sph_lo {R r n H Y : Int} (hR : 0 < R) (h0 : 0 ≤ r) (hr : r ≤ R) (hn : n = R * R - r * r) (hH : 0 ≤ H) (hH2 : 10000 * n ≤ H * H) (hY : 0 ≤ Y) (hY2 : Y * Y ≤ 1000000 * n) : 100000 * r * r / (100 * R + H) ≤ 1000 * R - Y := by
  have hrr := Int.mul_nonneg h0 h0
  have y1 : Y ≤ 1000 * R := le_of_sq (by omega) (by grind)
  have y2 : Y ≤ 10 * H := le_of_sq (by omega) (by grind)
  refine div_le (by omega) ?_
  have := Int.mul_le_mul_of_nonneg_left (show 1000 * R + Y ≤ 10 * (100 * R + H) by omega) (show 0 ≤ 1000 * R - Y + 1 by omega)
  grind
/-- The sag is at least what is left of the radius. -/
theorem sph_hi {R r n L Z : Int} (hR : 0 < R) (h0 : 0 ≤ r) (hr : r ≤ R) (hn : n = R * R - r * r) (hL : 0 ≤ L) (hL2 : L * L ≤ 10000 * n) (hZ : 0 ≤ Z) (hZ2 : 1000000 * n ≤ Z * Z) : 1000 * R - Z ≤ -(-(100000 * r * r) / (100 * R + L)) := by
  have z1 : 10 * L ≤ Z := le_of_sq hZ (by grind)
  refine le_cdiv (by omega) ?_
  rcases Int.lt_or_le (1000 * R - Z - 1) 0 with q | q
  · have hrr : 0 ≤ 100000 * r * r := Int.mul_nonneg (by omega) h0
    have := Int.mul_neg_of_neg_of_pos q (show 0 < 100 * R + L by omega)
    omega
  · have := Int.mul_le_mul_of_nonneg_left (show 10 * (100 * R + L) ≤ 1000 * R + Z by omega) q
    grind
end Go.Ab
