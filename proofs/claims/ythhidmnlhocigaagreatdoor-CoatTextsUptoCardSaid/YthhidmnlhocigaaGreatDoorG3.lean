/- Plain reasoning about quotients that are rounded, and about square roots. -/
import Derived.Test.YthhidmnlhocigaaGreatDoorLA
namespace Go.Ab
open Go
set_option linter.unusedVariables false

theorem ediv_bd {n b m : Int} (hb : 0 < b) (h1 : -m ≤ n) (h2 : n ≤ m) : -m ≤ n / b ∧ n / b ≤ m := by
  have hm : 0 ≤ m := by omega
  refine ⟨(Int.le_ediv_iff_mul_le hb).2 ?_, ?_⟩
  · have : m * 1 ≤ m * b := Int.mul_le_mul_of_nonneg_left (by omega) hm
    rw [Int.neg_mul]; omega
  · refine Int.ediv_le_of_le_mul hb ?_
    have : m * 1 ≤ m * b := Int.mul_le_mul_of_nonneg_left (by omega) hm
    omega

/-- The root of a number, rounded down. -/
def rtN : Nat → Nat
  | 0 => 0
  | n + 1 => if (rtN n + 1) * (rtN n + 1) ≤ n + 1 then rtN n + 1 else rtN n
theorem rtN_spec : ∀ n : Nat, rtN n * rtN n ≤ n ∧ n < (rtN n + 1) * (rtN n + 1)
  | 0 => ⟨by decide, by decide⟩
  | n + 1 => by
    obtain ⟨h1, h2⟩ := rtN_spec n
    unfold rtN
    split
    · rename_i h
      exact ⟨h, by grind⟩
    · exact ⟨by omega, by omega⟩
def rt (n : Int) : Int := (rtN n.toNat : Nat)
theorem rt_spec {n : Int} (h : 0 ≤ n) : 0 ≤ rt n ∧ rt n * rt n ≤ n ∧ n < (rt n + 1) * (rt n + 1) := by
  obtain ⟨h1, h2⟩ := rtN_spec n.toNat
  unfold rt
  have e : ((n.toNat : Nat) : Int) = n := Int.toNat_of_nonneg h
  refine ⟨by omega, ?_, ?_⟩
  · rw [← Int.natCast_mul]; omega
  · have : ((rtN n.toNat : Nat) : Int) + 1 = ((rtN n.toNat + 1 : Nat) : Int) := by omega
    rw [this, ← Int.natCast_mul]; omega
theorem sq_le {a b : Int} (ha : 0 ≤ a) (h : a ≤ b) : a * a ≤ b * b := Int.mul_le_mul h h ha (by omega)
theorem sq_lt {a b : Int} (ha : 0 ≤ a) (h : a * a < b * b) (hb : 0 ≤ b) : a < b := by
  rcases Int.lt_or_le a b with q | q
  · exact q
  · have := sq_le hb q; omega
/-- A number whose square is at most n is at most the root. -/
theorem le_rt {n m : Int} (h : 0 ≤ n) (hm : m * m ≤ n) (h0 : 0 ≤ m) : m ≤ rt n := by
  obtain ⟨h1, h2, h3⟩ := rt_spec h
  have := sq_lt h0 (show m * m < (rt n + 1) * (rt n + 1) by omega) (by omega)
  omega
theorem rt_lt {n m : Int} (h : 0 ≤ n) (hm : n < m * m) (h0 : 0 ≤ m) : rt n < m := by
  obtain ⟨h1, h2, h3⟩ := rt_spec h
  exact sq_lt h1 (by omega) h0
theorem rt_iff {n m : Int} (h : 0 ≤ n) (h0 : 0 ≤ m) : m ≤ rt n ↔ m * m ≤ n := by
  refine ⟨fun h' => ?_, fun h' => le_rt h h' h0⟩
  have := sq_le h0 h'
  have := (rt_spec h).2.1
  omega
theorem rt_mono {n m : Int} (h : 0 ≤ n) (hnm : n ≤ m) : rt n ≤ rt m := by
  obtain ⟨h1, h2, h3⟩ := rt_spec h
  exact le_rt (by omega) (by omega) h1
theorem rt_bd {n m : Int} (h : 0 ≤ n) (h0 : 0 ≤ m) (hm : n ≤ m * m) : rt n ≤ m := by
  have := rt_lt h (show n < (m + 1) * (m + 1) by grind) (by omega)
  omega
/-- The root, rounded up. -/
def rtu (n : Int) : Int := if rt n * rt n = n then rt n else rt n + 1
theorem rtu_spec {n : Int} (h : 0 ≤ n) : 0 ≤ rtu n ∧ n ≤ rtu n * rtu n ∧ rt n ≤ rtu n ∧ rtu n ≤ rt n + 1 := by
  obtain ⟨h1, h2, h3⟩ := rt_spec h
  unfold rtu
  split
  · omega
  · refine ⟨by omega, by omega, by omega, by omega⟩
/-- One step of Newton's way from above. -/
theorem newton {n x : Int} (hn : 0 < n) (hx : 0 < x) (hr : rt n ≤ x) : rt n ≤ (x + n / x) / 2 ∧ (x ≤ (x + n / x) / 2 → x = rt n) := by
  obtain ⟨h1, h2, h3⟩ := rt_spec (Int.le_of_lt hn)
  generalize rt n = r at *
  have d1 : n / x * x ≤ n := Int.ediv_mul_le _ (by omega)
  have d2 : n < (n / x + 1) * x := Int.lt_ediv_add_one_mul_self _ hx
  have d0 : 0 ≤ n / x := Int.ediv_nonneg (by omega) (by omega)
  generalize n / x = q at *
  refine ⟨?_, fun h => ?_⟩
  · rcases Int.lt_or_le ((x + q) / 2) r with c | c
    · exfalso
      have c1 : q + 1 + x ≤ 2 * r := by omega
      have c2 := sq_le (by omega) c1
      have c3 : 0 ≤ (q + 1 - x) * (q + 1 - x) := by
        rcases Int.le_total 0 (q + 1 - x) with p | p
        · exact Int.mul_nonneg p p
        · exact Int.mul_nonneg_of_nonpos_of_nonpos p p
      grind
    · exact c
  · have c1 : x ≤ q := by omega
    have c2 : x * x ≤ q * x := Int.mul_le_mul_of_nonneg_right c1 (by omega)
    have c3 := sq_lt (a := x) (b := r + 1) (by omega) (by omega) (by omega)
    omega
end Go.Ab
