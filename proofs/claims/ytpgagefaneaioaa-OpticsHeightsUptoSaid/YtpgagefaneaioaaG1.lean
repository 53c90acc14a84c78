/- Plain reasoning about greatest common divisors and fractions in lowest terms. -/
import Derived.Test.YtpgagefaneaioaaL0
namespace Go.Ab
open Go
set_option linter.unusedVariables false

theorem mul_bd {a b m n : Int} (ha : -m ≤ a) (ha' : a ≤ m) (hb : -n ≤ b) (hb' : b ≤ n) : -(m * n) ≤ a * b ∧ a * b ≤ m * n := by
  have h1 : a.natAbs ≤ m.natAbs := by omega
  have h2 : b.natAbs ≤ n.natAbs := by omega
  have h3 : (a * b).natAbs ≤ m.natAbs * n.natAbs := by rw [Int.natAbs_mul]; exact Nat.mul_le_mul h1 h2
  have h4 : ((m.natAbs * n.natAbs : Nat) : Int) = m * n := by
    rw [Int.natCast_mul, Int.natAbs_of_nonneg (by omega), Int.natAbs_of_nonneg (by omega)]
  omega

/-- The greatest common divisor, as a whole number. -/
def G (a b : Int) : Int := (Int.gcd a b : Nat)
theorem G_tmod (a b : Int) : G a b = G b (a.tmod b) := by
  unfold G
  rw [Int.gcd, Int.gcd, Int.natAbs_tmod, Nat.gcd_comm b.natAbs, ← Nat.gcd_rec, Nat.gcd_comm]
theorem G_zero (a : Int) : G a 0 = max a (-a) := by
  unfold G
  rw [Int.gcd_zero_right]; omega
theorem G_nonneg (a b : Int) : 0 ≤ G a b := Int.natCast_nonneg _
theorem G_pos {a b : Int} (h : b ≠ 0) : 0 < G a b := by
  have : 0 < Int.gcd a b := Int.gcd_pos_of_ne_zero_right a h
  unfold G; omega
theorem G_le {a b : Int} (h : b ≠ 0) : G a b ≤ b.natAbs := by
  have h1 : Int.gcd a b ∣ b.natAbs := Nat.gcd_dvd_right _ _
  have := Nat.le_of_dvd (by omega) h1
  unfold G; omega
theorem G_dvd_left (a b : Int) : G a b ∣ a := Int.gcd_dvd_left ..
theorem G_dvd_right (a b : Int) : G a b ∣ b := Int.gcd_dvd_right ..

/-- In lowest terms, the denominator above 0. -/
def IsLow (f : Int × Int) : Prop := 0 < f.2 ∧ G f.1 f.2 = 1
instance (f : Int × Int) : Decidable (IsLow f) := inferInstanceAs (Decidable (_ ∧ _))
/-- The lowest terms of a fraction. -/
def low (n d : Int) : Int × Int := if d < 0 then (n.tdiv (-G n d), d.tdiv (-G n d)) else (n.tdiv (G n d), d.tdiv (G n d))

/-- What lowest terms are: a common divisor is divided out. -/
theorem low_spec {n d : Int} (h : d ≠ 0) : ∃ g : Int, g ≠ 0 ∧ (g < 0 ↔ d < 0) ∧ n = g * (low n d).1 ∧ d = g * (low n d).2 ∧ g.natAbs = Int.gcd n d ∧ IsLow (low n d) := by
  have hp := G_pos (a := n) h
  obtain ⟨x, hx⟩ := G_dvd_left n d
  obtain ⟨y, hy⟩ := G_dvd_right n d
  have hg : ((Int.gcd n d : Nat) : Int) = G n d := rfl
  have hc : Int.gcd x y = 1 := by
    have e : Int.gcd n d = (G n d).natAbs * Int.gcd x y := by
      have e0 := Int.gcd_mul_left (G n d) x y
      rwa [← hx, ← hy] at e0
    have e2 : (G n d).natAbs = Int.gcd n d := by omega
    rw [e2] at e
    have : 0 < Int.gcd n d := by omega
    exact Nat.eq_of_mul_eq_mul_left this (by omega)
  by_cases hd : d < 0
  · have h1 : n.tdiv (-G n d) = -x := by
      conv => lhs; arg 1; rw [hx]
      rw [Int.tdiv_neg, Int.mul_tdiv_cancel_left _ (by omega)]
    have h2 : d.tdiv (-G n d) = -y := by
      conv => lhs; arg 1; rw [hy]
      rw [Int.tdiv_neg, Int.mul_tdiv_cancel_left _ (by omega)]
    refine ⟨-G n d, by omega, by omega, ?_, ?_, by omega, ?_⟩
    · rw [low, if_pos hd]; show n = -G n d * (n.tdiv (-G n d)); rw [h1, Int.neg_mul_neg]; exact hx
    · rw [low, if_pos hd]; show d = -G n d * (d.tdiv (-G n d)); rw [h2, Int.neg_mul_neg]; exact hy
    · rw [low, if_pos hd]
      refine ⟨?_, ?_⟩
      · show 0 < d.tdiv (-G n d)
        rw [h2]
        rcases Int.lt_trichotomy y 0 with q | q | q
        · omega
        · rw [q] at hy; omega
        · have := Int.mul_pos hp q; omega
      · show G (n.tdiv (-G n d)) (d.tdiv (-G n d)) = 1
        rw [h1, h2]; unfold G; rw [Int.gcd_neg, Int.neg_gcd, hc]; rfl
  · have h1 : n.tdiv (G n d) = x := by
      conv => lhs; arg 1; rw [hx]
      rw [Int.mul_tdiv_cancel_left _ (by omega)]
    have h2 : d.tdiv (G n d) = y := by
      conv => lhs; arg 1; rw [hy]
      rw [Int.mul_tdiv_cancel_left _ (by omega)]
    refine ⟨G n d, by omega, by omega, ?_, ?_, by omega, ?_⟩
    · rw [low, if_neg hd]; show n = G n d * (n.tdiv (G n d)); rw [h1]; exact hx
    · rw [low, if_neg hd]; show d = G n d * (d.tdiv (G n d)); rw [h2]; exact hy
    · rw [low, if_neg hd]
      refine ⟨?_, ?_⟩
      · show 0 < d.tdiv (G n d)
        rw [h2]
        rcases Int.lt_trichotomy y 0 with q | q | q
        · have := Int.mul_neg_of_pos_of_neg hp q; omega
        · rw [q] at hy; omega
        · exact q
      · show G (n.tdiv (G n d)) (d.tdiv (G n d)) = 1
        rw [h1, h2]; unfold G; rw [hc]; rfl
theorem low_is {n d : Int} (h : d ≠ 0) : IsLow (low n d) := (low_spec h).choose_spec.2.2.2.2.2
theorem low_cross {n d : Int} (h : d ≠ 0) : n * (low n d).2 = (low n d).1 * d := by
  obtain ⟨g, h1, h2, h3, h4, _⟩ := low_spec (n := n) h
  generalize low n d = f at *
  obtain ⟨a, b⟩ := f
  simp only at *
  subst h3 h4
  rw [Int.mul_comm g a, Int.mul_assoc]
theorem low_bd {n d : Int} (h : d ≠ 0) : (low n d).1.natAbs ≤ n.natAbs ∧ (low n d).2.natAbs ≤ d.natAbs := by
  obtain ⟨g, h1, h2, h3, h4, _⟩ := low_spec (n := n) h
  generalize low n d = f at *
  obtain ⟨a, b⟩ := f
  simp only at *
  subst h3 h4
  rw [Int.natAbs_mul, Int.natAbs_mul]
  exact ⟨Nat.le_mul_of_pos_left _ (by omega), Nat.le_mul_of_pos_left _ (by omega)⟩
/-- Lowest terms of the same number are the same. -/
theorem IsLow.eq {a b : Int × Int} (ha : IsLow a) (hb : IsLow b) (h : a.1 * b.2 = b.1 * a.2) : a = b := by
  obtain ⟨p, q⟩ := a
  obtain ⟨r, s⟩ := b
  obtain ⟨h1, h2⟩ := ha
  obtain ⟨h3, h4⟩ := hb
  simp only at *
  have c1 : Int.gcd p q = 1 := by unfold G at h2; omega
  have c2 : Int.gcd r s = 1 := by unfold G at h4; omega
  have n1 : Nat.Coprime q.natAbs p.natAbs := (Nat.gcd_comm _ _).trans c1
  have n2 : Nat.Coprime s.natAbs r.natAbs := (Nat.gcd_comm _ _).trans c2
  have d1 : q ∣ s := by
    refine Int.natAbs_dvd_natAbs.1 (n1.dvd_of_dvd_mul_left ?_)
    rw [← Int.natAbs_mul, h, Int.natAbs_mul]
    exact ⟨r.natAbs, Nat.mul_comm ..⟩
  have d2 : s ∣ q := by
    refine Int.natAbs_dvd_natAbs.1 (n2.dvd_of_dvd_mul_left ?_)
    rw [← Int.natAbs_mul, ← h, Int.natAbs_mul]
    exact ⟨p.natAbs, Nat.mul_comm ..⟩
  have e : q = s := Int.le_antisymm (Int.le_of_dvd (by omega) d1) (Int.le_of_dvd (by omega) d2)
  subst e
  have := Int.eq_of_mul_eq_mul_right (by omega : q ≠ 0) h
  subst this; rfl
theorem low_self {f : Int × Int} (h : IsLow f) : low f.1 f.2 = f := by
  have h1 := h.1
  exact (low_is (by omega)).eq h (low_cross (by omega)).symm
theorem isLow_one (n : Int) : IsLow (n, 1) := ⟨show (0 : Int) < 1 by decide, by unfold G; rw [Int.gcd_one_right]; rfl⟩

/-- A fraction whose parts are small. -/
def Small (f : Int × Int) : Prop := IsLow f ∧ -1000000000 ≤ f.1 ∧ f.1 ≤ 1000000000 ∧ f.2 ≤ 1000000000
instance (f : Int × Int) : Decidable (Small f) := inferInstanceAs (Decidable (_ ∧ _))
theorem small_one {n : Int} (h : -1000000000 ≤ n) (h2 : n ≤ 1000000000) : Small (n, 1) := ⟨isLow_one n, h, h2, show (1 : Int) ≤ 1000000000 by decide⟩
/-- A number brought to lowest terms, 0 if it is large; whether it is. -/
def fv (n d : Int) : Int × Int := if Small (low n d) then low n d else (0, 1)
def lg (n d : Int) : Bool := !decide (Small (low n d))
theorem fv_small (n d : Int) : Small (fv n d) := by
  unfold fv
  split
  · assumption
  · exact small_one (by decide) (by decide)
/-- The error of a fraction. -/
def cfE (f : Int × Int) : Int := if IsLow f then (if (-1000000000 ≤ f.1 ∧ f.1 ≤ 1000000000) ∧ f.2 ≤ 1000000000 then 0 else 2) else 3
theorem cfE_zero {f : Int × Int} : cfE f = 0 ↔ Small f := by
  unfold cfE Small
  by_cases h : IsLow f
  · by_cases h2 : (-1000000000 ≤ f.1 ∧ f.1 ≤ 1000000000) ∧ f.2 ≤ 1000000000
    · rw [if_pos h, if_pos h2]
      exact Iff.intro (fun _ => ⟨h, h2.1.1, h2.1.2, h2.2⟩) (fun _ => rfl)
    · rw [if_pos h, if_neg h2]
      exact Iff.intro (fun h => by cases h) (fun ⟨_, h3, h4, h5⟩ => absurd ⟨⟨h3, h4⟩, h5⟩ h2)
  · rw [if_neg h]
    exact Iff.intro (fun h => by cases h) (fun h' => absurd h'.1 h)
theorem cfE_of {f : Int × Int} (h : Small f) : cfE f = 0 := cfE_zero.2 h
end Go.Ab
