/- Sags grow: plain reasoning. -/
import Derived.Test.YtpgagefaneaioaaH20
namespace Go.Ab
open Go
set_option maxRecDepth 1000000
set_option maxHeartbeats 1000000
set_option linter.unusedVariables false
set_option linter.unusedSimpArgs false

theorem div_mono {n1 d1 n2 d2 : Int} (h1 : 0 < d1) (h2 : 0 < d2) (h : n1 * d2 ≤ n2 * d1) : n1 / d1 ≤ n2 / d2 := by
  refine (Int.le_ediv_iff_mul_le h2).2 ?_
  have a := Int.ediv_mul_le n1 (show d1 ≠ 0 by omega)
  have b := Int.mul_le_mul_of_nonneg_right a (show 0 ≤ d2 by omega)
  refine Int.le_of_mul_le_mul_right (a := d1) ?_ h1
  grind
theorem cdiv_mono {n1 d1 n2 d2 : Int} (h1 : 0 < d1) (h2 : 0 < d2) (h : n1 * d2 ≤ n2 * d1) : -(-n1 / d1) ≤ -(-n2 / d2) := by
  have a := Int.ediv_mul_le (-n2) (show d2 ≠ 0 by omega)
  have b := Int.mul_le_mul_of_nonneg_right a (show 0 ≤ d1 by omega)
  have : -n2 / d2 ≤ -n1 / d1 := by
    refine (Int.le_ediv_iff_mul_le h1).2 ?_
    refine Int.le_of_mul_le_mul_right (a := d2) ?_ h2
    grind
  omega
theorem core {a b R u q Xa Xb Va Ub Wa Wb : Int} (a0 : 0 ≤ a) (ab : a < b) (hR : 1 ≤ R) (hu : 1 ≤ u) (q0 : 1 ≤ q) (q1 : q ≤ 100) (hX : 10000 * u * (a * a) ≤ q * Xa) (hD : q * (Xb - Xa) ≤ 10000 * u * (b * b - a * a) + q)
    (v0 : 1 ≤ Va) (hV : Xa ≤ Va * Va) (hU : Ub * Ub ≤ Xb) (hW : Wb - Wa - 1 ≤ Ub - Va) (hWa : Va - 1 ≤ Wa) : a * a * (100 * R + Wb) ≤ b * b * (100 * R + Wa) := by
  have haa := Int.mul_nonneg a0 a0
  have hbb := sq_le (show 0 ≤ a + 1 by omega) (show a + 1 ≤ b by omega)
  have hd : 2 * a + 1 ≤ b * b - a * a := by grind
  have v10 : 10 * a ≤ Va := by
    refine le_of_sq (by omega) ?_
    have p1 : a * a ≤ u * (a * a) := by
      have := Int.mul_le_mul_of_nonneg_right hu haa
      omega
    have p2 := Int.mul_le_mul_of_nonneg_left hV (show 0 ≤ q by omega)
    have p3 : q * (Va * Va) ≤ 100 * (Va * Va) := Int.mul_le_mul_of_nonneg_right q1 (Int.mul_nonneg (by omega) (by omega))
    grind
  generalize hDD : b * b - a * a = D at *
  have hb : b * b = a * a + D := by omega
  rw [hb]
  have key : a * a * (Wb - Wa) ≤ D * (99 + Va) := by
    rcases Int.lt_or_le 0 (Ub - Va) with he | he
    · generalize hee : Ub - Va = e at *
      have hU' : Ub = Va + e := by omega
      have t1 : 2 * Va * e ≤ Xb - Xa := by
        have : Ub * Ub = Va * Va + 2 * Va * e + e * e := by rw [hU']; grind
        have : 0 ≤ e * e := Int.mul_nonneg (by omega) (by omega)
        omega
      have t2 : q * (2 * Va * e) ≤ 10000 * u * D + q := by
        have := Int.mul_le_mul_of_nonneg_left t1 (show 0 ≤ q by omega)
        omega
      have t3 := Int.mul_le_mul_of_nonneg_left t2 haa
      have t4 : 10000 * u * (a * a) * D ≤ q * (Va * Va) * D := by
        refine Int.mul_le_mul_of_nonneg_right ?_ (by omega)
        have := Int.mul_le_mul_of_nonneg_left hV (show 0 ≤ q by omega)
        omega
      have t5 : 2 * Va * (a * a * e) ≤ Va * Va * D + a * a := by
        refine Int.le_of_mul_le_mul_left (a := q) ?_ (by omega)
        grind
      have t6 : a * a * (Wb - Wa) ≤ a * a * (e + 1) := Int.mul_le_mul_of_nonneg_left (by omega) haa
      have t7 : Va * (10 * a) * (2 * a + 1) ≤ Va * Va * D := by
        refine Int.mul_le_mul (Int.mul_le_mul_of_nonneg_left v10 (by omega)) hd (by omega) (Int.mul_nonneg (by omega) (by omega))
      have t8 : 0 ≤ Va * D := Int.mul_nonneg (by omega) (by omega)
      have t9 : 0 ≤ Va * (a * a) := Int.mul_nonneg (by omega) haa
      have t10 : a * a ≤ Va * (a * a) := by
        have := Int.mul_le_mul_of_nonneg_right v0 haa
        omega
      have t11 : 0 ≤ Va * a := Int.mul_nonneg (by omega) a0
      have t12 : a * a * (e + 1) ≤ D * (99 + Va) := by
        refine Int.le_of_mul_le_mul_left (a := 2 * Va) ?_ (by omega)
        grind
      omega
    · have t6 : a * a * (Wb - Wa) ≤ a * a * 1 := Int.mul_le_mul_of_nonneg_left (by omega) haa
      have t7 : (2 * a + 1) * (99 + 10 * a) ≤ D * (99 + Va) := Int.mul_le_mul hd (by omega) (by omega) (by omega)
      grind
  have k2 : D * (99 + Va) ≤ D * (100 * R + Wa) := Int.mul_le_mul_of_nonneg_left (by omega) (by omega)
  grind
end Go.Ab
