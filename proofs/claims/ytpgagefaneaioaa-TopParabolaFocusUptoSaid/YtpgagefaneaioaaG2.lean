/- Fractions as rational numbers. -/
import Derived.Test.YtpgagefaneaioaaH2
namespace Go.Ab
open Go
set_option linter.unusedVariables false

/-- The rational number of a fraction. -/
def qr (f : Int × Int) : Rat := (f.1 : Rat) / (f.2 : Rat)
theorem qr_ne {n : Int} (h : n ≠ 0) : (n : Rat) ≠ 0 := fun h' => h (Rat.intCast_inj.1 (by simpa using h'))
theorem qr_eq {a b : Int × Int} (ha : IsLow a) (hb : IsLow b) (h : qr a = qr b) : a = b := by
  have h1 := qr_ne (show a.2 ≠ 0 by have := ha.1; omega)
  have h2 := qr_ne (show b.2 ≠ 0 by have := hb.1; omega)
  refine ha.eq hb (Rat.intCast_inj.1 ?_)
  unfold qr at h
  rw [Rat.intCast_mul, Rat.intCast_mul]
  grind
theorem qr_fv {n d : Int} (hd : d ≠ 0) (h : lg n d = false) : qr (fv n d) = (n : Rat) / (d : Rat) := by
  have hs : Small (low n d) := by simpa [lg] using h
  unfold fv
  rw [if_pos hs]
  have hc := low_cross (n := n) hd
  have h1 := qr_ne hd
  have h2 := qr_ne (show (low n d).2 ≠ 0 by have := hs.1.1; omega)
  have hc' : (n : Rat) * ((low n d).2 : Rat) = ((low n d).1 : Rat) * (d : Rat) := by rw [← Rat.intCast_mul, ← Rat.intCast_mul, hc]
  unfold qr
  grind
theorem qr_mul {a b : Int × Int} (ha : Small a) (hb : Small b) (h : mull a b = false) : qr (mulv a b) = qr a * qr b := by
  have h1 := ha.1.1
  have h2 := hb.1.1
  have q1 := qr_ne (show a.2 ≠ 0 by omega)
  have q2 := qr_ne (show b.2 ≠ 0 by omega)
  unfold mulv
  rw [qr_fv (Int.ne_of_gt (Int.mul_pos h1 h2)) h, Rat.intCast_mul, Rat.intCast_mul]
  unfold qr
  grind
theorem qr_add {a b : Int × Int} (ha : Small a) (hb : Small b) (h : addl a b = false) : qr (addv a b) = qr a + qr b := by
  have h1 := ha.1.1
  have h2 := hb.1.1
  have q1 := qr_ne (show a.2 ≠ 0 by omega)
  have q2 := qr_ne (show b.2 ≠ 0 by omega)
  unfold addv
  rw [qr_fv (Int.ne_of_gt (Int.mul_pos h1 h2)) h, Rat.intCast_mul, Rat.intCast_add, Rat.intCast_mul, Rat.intCast_mul]
  unfold qr
  grind
theorem qr_sub {a b : Int × Int} (ha : Small a) (hb : Small b) (h : subl a b = false) : qr (subv a b) = qr a - qr b := by
  have h1 := ha.1.1
  have h2 := hb.1.1
  have q1 := qr_ne (show a.2 ≠ 0 by omega)
  have q2 := qr_ne (show b.2 ≠ 0 by omega)
  unfold subv
  rw [qr_fv (Int.ne_of_gt (Int.mul_pos h1 h2)) h, Rat.intCast_mul, Rat.intCast_sub, Rat.intCast_mul, Rat.intCast_mul]
  unfold qr
  grind
theorem qr_quo {a b : Int × Int} (ha : Small a) (hb : Small b) (h : quol a b = false) : b.1 ≠ 0 ∧ qr (quov a b) = qr a / qr b := by
  have h1 := ha.1.1
  have h2 := hb.1.1
  have q1 := qr_ne (show a.2 ≠ 0 by omega)
  have q2 := qr_ne (show b.2 ≠ 0 by omega)
  unfold quol at h
  unfold quov
  split at h
  · cases h
  · rename_i hz
    have q3 := qr_ne hz
    rw [if_neg hz]
    refine ⟨hz, ?_⟩
    rw [qr_fv (Int.mul_ne_zero (by omega) hz) h, Rat.intCast_mul, Rat.intCast_mul]
    unfold qr
    grind
theorem qr_one (n : Int) : qr (n, 1) = (n : Rat) := by unfold qr; grind
end Go.Ab
