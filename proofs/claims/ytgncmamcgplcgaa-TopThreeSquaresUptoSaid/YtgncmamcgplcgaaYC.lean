/- Pythagoras for the direction of a vector: the plain part. -/
import Derived.Test.YtgncmamcgplcgaaYB
namespace Go.Ab
open Go
set_option maxRecDepth 1000000
set_option maxHeartbeats 1000000
set_option linter.unusedVariables false
set_option linter.unusedSimpArgs false

/-- Better bounds of the slopes. -/
theorem sin_lip {a b : Rat} (h0 : 0 ≤ a) (hab : a ≤ b) (h : b ≤ 4/5) : ev sinL b - ev sinL a ≤ 134/100 * (b - a) := by
  have := ev_lip h0 hab h sinL
  have k : lip (4/5) sinL ≤ 134/100 := by decide +kernel
  have k2 := Rat.mul_nonneg (show 0 ≤ b - a by grind) (show 0 ≤ 134/100 - lip (4/5) sinL by grind)
  grind
theorem cos_lip {a b : Rat} (h0 : 0 ≤ a) (hab : a ≤ b) (h : b ≤ 4/5) : ev cosL a - ev cosL b ≤ 134/100 * (b - a) := by
  have := ev_lip h0 hab h cosL
  have k : lip (4/5) cosL ≤ 134/100 := by decide +kernel
  have k2 := Rat.mul_nonneg (show 0 ≤ b - a by grind) (show 0 ≤ 134/100 - lip (4/5) cosL by grind)
  grind
theorem th_gap {a b : Int} (h : b ≤ a + 106) : th b - th a ≤ 5140/1000000000 := by
  have h1 := th_mono h
  have c : ((106 : Int) : Rat) = 106 := rfl
  have e : th (a + 106) = th a + 106 * hP / 32400000 := by unfold th; rw [Rat.intCast_add, c]; grind
  have k : 106 * hP / 32400000 ≤ 5140/1000000000 := by decide +kernel
  grind
theorem P_up {a b : Int} (h0 : 0 ≤ a) (h1 : a ≤ b) (h2 : b ≤ a + 106) (h3 : b ≤ 16500000) : P a ≤ P b + 24 ∧ P b ≤ P a + 7000 := by
  have c1 : ((24 : Int) : Rat) = 24 := rfl
  have c2 : ((7000 : Int) : Rat) = 7000 := rfl
  obtain ⟨p1, p2⟩ := LP1 h0 (show a ≤ 16500000 by omega)
  obtain ⟨q1, q2⟩ := LP1 (show 0 ≤ b by omega) h3
  obtain ⟨s1, _⟩ := sin_mono (th_nn h0) (th_mono h1) (th_le h3)
  have s2 := sin_lip (th_nn h0) (th_mono h1) (th_le h3)
  have g := th_gap h2
  exact ⟨le_of_rat (by rw [c1]; grind), le_of_rat (by rw [c2]; grind)⟩
theorem Q_up {a b : Int} (h0 : 0 ≤ a) (h1 : a ≤ b) (h2 : b ≤ a + 106) (h3 : b ≤ 16500000) : P (32400000 - b) ≤ P (32400000 - a) + 26 ∧ P (32400000 - a) ≤ P (32400000 - b) + 7000 := by
  have c1 : ((26 : Int) : Rat) = 26 := rfl
  have c2 : ((7000 : Int) : Rat) = 7000 := rfl
  obtain ⟨p1, p2⟩ := LP2 (n := 32400000 - a) (by omega) (by omega)
  obtain ⟨q1, q2⟩ := LP2 (n := 32400000 - b) (by omega) (by omega)
  rw [show 32400000 - (32400000 - a) = a by omega] at p1 p2
  rw [show 32400000 - (32400000 - b) = b by omega] at q1 q2
  obtain ⟨s1, _⟩ := cos_mono (th_nn h0) (th_mono h1) (th_le h3)
  have s2 := cos_lip (th_nn h0) (th_mono h1) (th_le h3)
  have g := th_gap h2
  exact ⟨le_of_rat (by rw [c1]; grind), le_of_rat (by rw [c2]; grind)⟩
/-- The cross product with a direction. -/
def crs (X Y m : Int) : Int := P m * X - P (32400000 - m) * Y
theorem crs_near {X Y a b : Int} (hX : 0 ≤ X) (hY : 0 ≤ Y) (h0 : 0 ≤ a) (h1 : a ≤ b) (h2 : b ≤ a + 106) (h3 : b ≤ 16500000) :
    crs X Y a ≤ crs X Y b + 26 * (X + Y) ∧ crs X Y b ≤ crs X Y a + 7000 * (X + Y) := by
  obtain ⟨p1, p2⟩ := P_up h0 h1 h2 h3
  obtain ⟨q1, q2⟩ := Q_up h0 h1 h2 h3
  have w1 := Int.mul_le_mul_of_nonneg_right p1 hX
  have w2 := Int.mul_le_mul_of_nonneg_right p2 hX
  have w3 := Int.mul_le_mul_of_nonneg_right q1 hY
  have w4 := Int.mul_le_mul_of_nonneg_right q2 hY
  rw [Int.add_mul] at w1 w2 w3 w4
  unfold crs
  omega
theorem Found.lo' {X Y n : Int} (hY : 0 ≤ Y) (h : Found X Y n) : crs X Y n ≤ 0 := by
  unfold crs
  rcases h.lo with h | h
  · subst h
    have e : P 0 = 0 := by decide +kernel
    have k : 0 ≤ P 32400000 := by decide +kernel
    have := Int.mul_nonneg k hY
    rw [e]; show 0 * X - P 32400000 * Y ≤ 0; omega
  · unfold cond at h; omega
theorem Found.hi' {X Y n : Int} (hY : 0 ≤ Y) (hXY : Y ≤ X) (h : Found X Y n) : 0 ≤ crs X Y (n + 1) := by
  unfold crs
  rcases h.hi with h | h
  · subst h
    have e1 : P 16199999 ≤ P 16200001 := by decide +kernel
    have e2 : 0 ≤ P 16199999 := by decide +kernel
    have w1 := Int.mul_le_mul_of_nonneg_right e1 (show 0 ≤ X by omega)
    have w2 := Int.mul_le_mul_of_nonneg_left hXY e2
    show 0 ≤ P 16200001 * X - P 16199999 * Y
    omega
  · unfold cond at h; omega
/-- An end of the found direction: its sine and cosine, and how far the vector lies beside it. -/
structure Beside (X Y s k : Int) : Prop where
  s1 : -5000 ≤ s
  s2 : s ≤ 720000000
  k1 : 680000000 ≤ k
  k2 : k ≤ 1000000013
  c1 : -(7100 * (X + Y)) ≤ s * X - k * Y
  c2 : s * X - k * Y ≤ 7100 * (X + Y)
  q1 : -100000000000 ≤ s * s + k * k - 1000000000000000000
  q2 : s * s + k * k - 1000000000000000000 ≤ 100000000000
theorem sk_b {m : Int} (h0 : 0 ≤ m) (h1 : m ≤ 16200100) : (-13 ≤ P m ∧ P m ≤ 720000000) ∧ (680000000 ≤ P (32400000 - m) ∧ P (32400000 - m) ≤ 1000000013) ∧
    -100000000000 ≤ P m * P m + P (32400000 - m) * P (32400000 - m) - 1000000000000000000 ∧ P m * P m + P (32400000 - m) * P (32400000 - m) - 1000000000000000000 ≤ 100000000000 := by
  have b1 := P_b h0 (show m ≤ 32400000 by omega)
  have b2 := P_b (n := 32400000 - m) (by omega) (by omega)
  obtain ⟨a1, a2⟩ := LP1 h0 (show m ≤ 16500000 by omega)
  obtain ⟨d1, d2⟩ := LP2 (n := 32400000 - m) (by omega) (by omega)
  rw [show 32400000 - (32400000 - m) = m by omega] at d1 d2
  have t0 := th_nn h0
  have t1 := th_le (show m ≤ 16500000 by omega)
  obtain ⟨s1, s2⟩ := sin_01 t0 t1
  obtain ⟨r1, r2⟩ := cos_01 t0 t1
  obtain ⟨q1, q2⟩ := circ t0 t1
  have s3 : ev sinL (th m) ≤ 7199/10000 := by
    have := (sin_mono t0 (th_mono h1) (th_le (by decide))).1
    have k : ev sinL (th 16200100) ≤ 7199/10000 := by decide +kernel
    grind
  generalize P m = p at *
  generalize P (32400000 - m) = q at *
  generalize ev sinL (th m) = s at *
  generalize ev cosL (th m) = k at *
  have c1 : ((720000000 : Int) : Rat) = 720000000 := rfl
  have c2 : ((680000000 : Int) : Rat) = 680000000 := rfl
  have c3 : ((100000000000 : Int) : Rat) = 100000000000 := rfl
  have c4 : ((1000000000000000000 : Int) : Rat) = 1000000000000000000 := rfl
  have c5 : ((-100000000000 : Int) : Rat) = -100000000000 := rfl
  refine ⟨⟨b1.1, int_of_rat (by rw [c1]; grind)⟩, ⟨int_of_rat (by rw [c2]; grind), b2.2⟩, int_of_rat ?_, int_of_rat ?_⟩
  · simp only [Rat.intCast_add, Rat.intCast_sub, Rat.intCast_mul, c3, c4, c5]
    have m1 := Rat.mul_nonneg (show 0 ≤ (p : Rat) - 1000000000 * s + 12 by grind) s1
    have m2 := Rat.mul_nonneg (show 0 ≤ (q : Rat) - 1000000000 * k + 13 by grind) (show 0 ≤ k by grind)
    have sq1 := Rat.mul_nonneg (show 0 ≤ (p : Rat) - 1000000000 * s + 12 by grind) (show 0 ≤ 12 - ((p : Rat) - 1000000000 * s) by grind)
    have sq2 := Rat.mul_nonneg (show 0 ≤ (q : Rat) - 1000000000 * k + 13 by grind) (show 0 ≤ 13 - ((q : Rat) - 1000000000 * k) by grind)
    have sp1 := rsq0 ((p : Rat) - 1000000000 * s)
    have sp2 := rsq0 ((q : Rat) - 1000000000 * k)
    grind
  · simp only [Rat.intCast_add, Rat.intCast_sub, Rat.intCast_mul, c3, c4, c5]
    have m1 := Rat.mul_nonneg (show 0 ≤ 12 - ((p : Rat) - 1000000000 * s) by grind) s1
    have m2 := Rat.mul_nonneg (show 0 ≤ 13 - ((q : Rat) - 1000000000 * k) by grind) (show 0 ≤ k by grind)
    have sq1 := Rat.mul_nonneg (show 0 ≤ (p : Rat) - 1000000000 * s + 12 by grind) (show 0 ≤ 12 - ((p : Rat) - 1000000000 * s) by grind)
    have sq2 := Rat.mul_nonneg (show 0 ≤ (q : Rat) - 1000000000 * k + 13 by grind) (show 0 ≤ 13 - ((q : Rat) - 1000000000 * k) by grind)
    grind
where
  rsq0 (v : Rat) : 0 ≤ v * v := by
    rcases Rat.le_total (a := 0) (b := v) with h | h
    · exact Rat.mul_nonneg h h
    · have := Rat.mul_nonneg (show 0 ≤ -v by grind) (show 0 ≤ -v by grind); grind
theorem extP {a : Int} (h0 : 0 ≤ a) (h1 : a ≤ 324000) : ext PQ a = P (100 * a) := by
  unfold ext PQ; rw [show a % 1296000 = a by omega, if_pos (by omega)]
theorem kosP {a : Int} (h0 : 0 ≤ a) (h1 : a ≤ 324000) : kos PQ a = P (32400000 - 100 * a) := by
  rw [← s_q PQ_00, extP (by omega) (by omega), show 100 * (324000 - a) = 32400000 - 100 * a by omega]
theorem beside_of {X Y n a : Int} (hY : 0 ≤ Y) (hXY : Y ≤ X) (h : Found X Y n) (h0 : 0 ≤ a) (h1 : a ≤ 162001) (h2 : 100 * a ≤ n + 106) (h3 : n - 105 ≤ 100 * a) : Beside X Y (ext PQ a) (kos PQ a) := by
  have n0 := h.nn
  have n1 := h.le
  obtain ⟨⟨a1, a2⟩, ⟨a3, a4⟩, a5, a6⟩ := sk_b (m := 100 * a) (by omega) (by omega)
  have lo := h.lo' hY
  have hi := h.hi' hY hXY
  rw [extP h0 (by omega), kosP h0 (by omega)]
  have e : P (100 * a) * X - P (32400000 - 100 * a) * Y = crs X Y (100 * a) := rfl
  have lower : -(7100 * (X + Y)) ≤ crs X Y (100 * a) := by
    by_cases c : n + 1 ≤ 100 * a
    · have := (crs_near (show 0 ≤ X by omega) hY (show 0 ≤ n + 1 by omega) c (by omega) (by omega)).1
      omega
    · have := (crs_near (show 0 ≤ X by omega) hY (show 0 ≤ 100 * a by omega) (show 100 * a ≤ n + 1 by omega) (by omega) (by omega)).2
      omega
  have upper : crs X Y (100 * a) ≤ 7100 * (X + Y) := by
    by_cases c : n ≤ 100 * a
    · have := (crs_near (show 0 ≤ X by omega) hY n0 c (by omega) (by omega)).2
      omega
    · have := (crs_near (show 0 ≤ X by omega) hY (show 0 ≤ 100 * a by omega) (show 100 * a ≤ n by omega) (by omega) (by omega)).1
      omega
  exact ⟨by omega, a2, a3, a4, by rw [e]; exact lower, by rw [e]; exact upper, a5, a6⟩
theorem beside_ends {X Y n : Int} (hY : 0 ≤ Y) (hXY : Y ≤ X) (h : Found X Y n) : Beside X Y (ext PQ (lowA n)) (kos PQ (lowA n)) ∧ Beside X Y (ext PQ (highA n)) (kos PQ (highA n)) := by
  have hlo : lowA n = (n - 5) / 100 := rfl
  have hhi : highA n = -(-(n + 6) / 100) := rfl
  have n0 := h.nn
  have n1 := h.le
  refine ⟨?_, beside_of hY hXY h (by omega) (by omega) (by omega) (by omega)⟩
  by_cases e : lowA n = -1
  · rw [e]
    have s : ext PQ (-1) = -P 100 := by rw [ext_neg PQ_00, extP (by decide) (by decide)]; rfl
    have k : kos PQ (-1) = P (32400000 - 100) := by
      rw [← s_q PQ_00, show 324000 - -1 = 648000 - 323999 from rfl, s_hm PQ_00, extP (by decide) (by decide)]; rfl
    obtain ⟨⟨a1, a2⟩, ⟨a3, a4⟩, a5, a6⟩ := sk_b (m := 100) (by omega) (by omega)
    have p1 : P 100 = 4848 := by decide +kernel
    have hi := h.hi' hY hXY
    have near := (crs_near (X := X) (Y := Y) (show 0 ≤ X by omega) hY (show 0 ≤ n + 1 by omega) (show n + 1 ≤ 5 by omega) (by omega) (by omega)).1
    have p5 : P 5 ≤ 300 := by decide +kernel
    have w5 := Int.mul_le_mul_of_nonneg_right p5 (show 0 ≤ X by omega)
    have q5 := (Q_up (a := 5) (b := 100) (by decide) (by decide) (by decide) (by decide)).1
    have v5 := Int.mul_le_mul_of_nonneg_right q5 hY
    rw [Int.add_mul] at v5
    have ec : crs X Y 5 = P 5 * X - P (32400000 - 5) * Y := rfl
    have w := Int.mul_nonneg (show 0 ≤ P (32400000 - 100) by omega) hY
    rw [s, k]
    rw [p1] at a5 a6 ⊢
    exact ⟨by omega, by omega, a3, a4, by omega, by omega, by omega, by omega⟩
  · exact beside_of hY hXY h (by omega) (by omega) (by omega) (by omega)
/-- Pythagoras. -/
theorem three {X Y s k h : Int} (hX : 0 ≤ X) (hY : 0 ≤ Y) (hXY : Y ≤ X) (hX1 : X ≤ 10000) (b : Beside X Y s k) (h1 : 1 ≤ h) (h2 : X * X + Y * Y ≤ h * h) (h3 : (h - 1) * (h - 1) < X * X + Y * Y) (h4 : h ≤ 15000) :
    (-(1100000000 + 12000 * h) ≤ s * h - 1000000000 * Y ∧ s * h - 1000000000 * Y ≤ 1100000000 + 12000 * h) ∧ -(1100000000 + 12000 * h) ≤ k * h - 1000000000 * X ∧ k * h - 1000000000 * X ≤ 1100000000 + 12000 * h := by
  obtain ⟨s1, s2, k1, k2, c1, c2, q1, q2⟩ := b
  have lenle : ∀ {u : Int}, 0 ≤ u → u * u ≤ h * h → u ≤ h := by
    intro u hu hh
    by_cases c : u ≤ h
    · exact c
    · have := Int.mul_le_mul (show h + 1 ≤ u by omega) (show h + 1 ≤ u by omega) (by omega) hu
      have e : (h + 1) * (h + 1) = h * h + 2 * h + 1 := by grind
      omega
  have xx := Int.mul_nonneg hX hX
  have yy := Int.mul_nonneg hY hY
  have Xh : X ≤ h := lenle hX (by omega)
  have Yh : Y ≤ h := lenle hY (by omega)
  -- 2 (X + Y) ≤ 3 h
  have XY : 2 * (X + Y) ≤ 3 * h := by
    by_cases c : 2 * (X + Y) ≤ 3 * h
    · exact c
    · have := Int.mul_le_mul (show 3 * h ≤ 2 * (X + Y) by omega) (show 3 * h ≤ 2 * (X + Y) by omega) (by omega) (by omega)
      have e : (X - Y) * (X - Y) = 2 * (X * X + Y * Y) - (X + Y) * (X + Y) := by grind
      have e1 := Int.mul_nonneg (show 0 ≤ X - Y by omega) (show 0 ≤ X - Y by omega)
      have e2 : 2 * (X + Y) * (2 * (X + Y)) = 4 * ((X + Y) * (X + Y)) := by grind
      have e3 : 3 * h * (3 * h) = 9 * (h * h) := by grind
      have e4 := Int.mul_le_mul h1 h1 (by decide) (by omega)
      omega
  have ke : ∃ e, e = s * X - k * Y := ⟨_, rfl⟩
  have kd : ∃ d, d = k * X + s * Y := ⟨_, rfl⟩
  have kq : ∃ q, q = s * s + k * k := ⟨_, rfl⟩
  obtain ⟨e, he⟩ := ke
  obtain ⟨d, hd⟩ := kd
  obtain ⟨q, hq⟩ := kq
  have i1 : q * Y = s * d - k * e := by rw [hq, hd, he]; grind
  have i2 : q * X = k * d + s * e := by rw [hq, hd, he]; grind
  have i3 : d * d + e * e = q * (X * X + Y * Y) := by rw [hq, hd, he]; grind
  have d0 : 0 ≤ d := by
    have w1 := Int.mul_le_mul_of_nonneg_right k1 hX
    have w2 := Int.mul_le_mul_of_nonneg_right s1 hY
    omega
  rw [← he] at c1 c2
  rw [← hq] at q1 q2
  have e1 : -(10650 * h) ≤ e := by omega
  have e2 : e ≤ 10650 * h := by omega
  have ee : e * e ≤ 113422500 * (h * h) := by
    have := Int.mul_nonneg (show 0 ≤ 10650 * h - e by omega) (show 0 ≤ 10650 * h + e by omega)
    have e' : (10650 * h - e) * (10650 * h + e) = 113422500 * (h * h) - e * e := by grind
    omega
  have ee0 : 0 ≤ e * e := by
    rcases Int.le_total 0 e with c | c
    · exact Int.mul_nonneg c c
    · have := Int.mul_nonneg (show 0 ≤ -e by omega) (show 0 ≤ -e by omega); rw [Int.neg_mul_neg] at this; exact this
  have hh := Int.mul_nonneg (show 0 ≤ h by omega) (show 0 ≤ h by omega)
  -- d ≤ (U + 100) h
  have du : d ≤ 1000000100 * h := by
    by_cases c : d ≤ 1000000100 * h
    · exact c
    · exfalso
      have w := Int.mul_le_mul (show 1000000100 * h + 1 ≤ d by omega) (show 1000000100 * h + 1 ≤ d by omega) (by omega) d0
      have w1 : (1000000100 * h + 1) * (1000000100 * h + 1) = 1000000200000010000 * (h * h) + 2000000200 * h + 1 := by grind
      have w2 := Int.mul_le_mul_of_nonneg_left h2 (show 0 ≤ q by omega)
      have w3 := Int.mul_le_mul_of_nonneg_right (show q ≤ 1000000100000000000 by omega) hh
      omega
  have dl : 1000000000 * (h - 1) - 200 * h ≤ d := by
    by_cases c : 1000000000 * (h - 1) - 200 * h ≤ d
    · exact c
    · exfalso
      have hbig : 2 ≤ h := by omega
      have w := Int.mul_le_mul (show d ≤ 999999800 * (h - 1) by omega) (show d ≤ 999999800 * (h - 1) by omega) d0 (by omega)
      have w1 : 999999800 * (h - 1) * (999999800 * (h - 1)) = 999999600000040000 * ((h - 1) * (h - 1)) := by grind
      have w2 := Int.mul_le_mul_of_nonneg_left (show (h - 1) * (h - 1) ≤ X * X + Y * Y by omega) (show 0 ≤ q by omega)
      have gg := Int.mul_nonneg (show 0 ≤ h - 1 by omega) (show 0 ≤ h - 1 by omega)
      have w3 := Int.mul_le_mul_of_nonneg_right (show 999999900000000000 ≤ q by omega) gg
      have w4 : h * h ≤ 4 * ((h - 1) * (h - 1)) := by
        have := Int.mul_nonneg (show 0 ≤ h - 2 by omega) (show 0 ≤ 3 * h - 2 by omega)
        have e' : (h - 2) * (3 * h - 2) = 4 * ((h - 1) * (h - 1)) - h * h := by grind
        omega
      have w5 : 1 ≤ (h - 1) * (h - 1) := Int.mul_le_mul (show 1 ≤ h - 1 by omega) (show 1 ≤ h - 1 by omega) (by decide) (by omega)
      omega
  -- the two differences
  have g1 : -(1000000000 + 300 * h) ≤ d - 1000000000 * h := by omega
  have g2 : d - 1000000000 * h ≤ 1000000000 + 300 * h := by omega
  have prod : ∀ {u v M N : Int}, 0 ≤ N → -M ≤ u → u ≤ M → -N ≤ v → v ≤ N → -(M * N) ≤ u * v ∧ u * v ≤ M * N := by
    intro u v M N hN a1 a2 a3 a4
    have x1 := Int.mul_nonneg (show 0 ≤ M - u by omega) (show 0 ≤ N + v by omega)
    have x2 := Int.mul_nonneg (show 0 ≤ M + u by omega) (show 0 ≤ N - v by omega)
    have x3 := Int.mul_nonneg (show 0 ≤ M - u by omega) (show 0 ≤ N - v by omega)
    have x4 := Int.mul_nonneg (show 0 ≤ M + u by omega) (show 0 ≤ N + v by omega)
    constructor <;> grind
  have r1 := prod (u := s) (v := d - 1000000000 * h) (M := 1000000013) (N := 1000000000 + 300 * h) (by omega) (by omega) (by omega) g1 g2
  have r2 := prod (u := k) (v := e) (M := 1000000013) (N := 10650 * h) (by omega) (by omega) (by omega) e1 e2
  have r3 := prod (u := q - 1000000000000000000) (v := Y) (M := 100000000000) (N := h) (by omega) (by omega) (by omega) (by omega) (by omega)
  have r4 := prod (u := k) (v := d - 1000000000 * h) (M := 1000000013) (N := 1000000000 + 300 * h) (by omega) (by omega) (by omega) g1 g2
  have r5 := prod (u := s) (v := e) (M := 1000000013) (N := 10650 * h) (by omega) (by omega) (by omega) e1 e2
  have r6 := prod (u := q - 1000000000000000000) (v := X) (M := 100000000000) (N := h) (by omega) (by omega) (by omega) (by omega) (by omega)
  have f1 : 1000000000 * (s * h - 1000000000 * Y) = (q - 1000000000000000000) * Y - s * (d - 1000000000 * h) + k * e := by grind
  have f2 : 1000000000 * (k * h - 1000000000 * X) = (q - 1000000000000000000) * X - k * (d - 1000000000 * h) - s * e := by grind
  generalize s * (d - 1000000000 * h) = A1 at *
  generalize k * (d - 1000000000 * h) = A2 at *
  generalize k * e = A3 at *
  generalize s * e = A4 at *
  generalize (q - 1000000000000000000) * Y = A5 at *
  generalize (q - 1000000000000000000) * X = A6 at *
  generalize s * h - 1000000000 * Y = B1 at *
  generalize k * h - 1000000000 * X = B2 at *
  omega
end Go.Ab
