/- NumberCircle. -/
import Derived.Test.YtgncmamcgplcgaaR1
import Derived.Test.YtgncmamcgplcgaaZC
import Derived.Test.YtgncmamcgplcgaaQLNumberCircle
namespace Go.Ab
open Go
set_option maxRecDepth 1000000
set_option maxHeartbeats 1000000
set_option linter.unusedVariables false
set_option linter.unusedSimpArgs false

def nrF (l h : Int) : Int := if l ≤ 0 ∧ 0 ≤ h then 0 else min (max l (-l)) (max h (-h))
def frF (l h : Int) : Int := max (max l (-l)) (max h (-h))
theorem max_if (a b : Int) : (if false = true then min a b else max a b) = max a b := if_neg (by decide)
theorem min_if (a b : Int) : (if true = true then min a b else max a b) = min a b := if_pos rfl
theorem sq_le_mul {a M : Int} (h0 : 0 ≤ a) (h : a ≤ M) : a * a ≤ M * M := Int.mul_le_mul h h h0 (by omega)
theorem nrF_b {l h M : Int} (h0 : 0 ≤ M) (h1 : -M ≤ l) (h2 : l ≤ h) (h3 : h ≤ M) : (0 ≤ nrF l h ∧ nrF l h ≤ M) ∧ 0 ≤ frF l h ∧ frF l h ≤ M := by
  unfold nrF frF; split <;> omega
/-- The value of a sine is that of a quarter, up to its sign; that of the cosine is that of what is left. -/
theorem folded (g : Int → Int) (a : Int) : ∃ c, 0 ≤ c ∧ c ≤ 324000 ∧ (ext g a = g c ∨ ext g a = -g c) ∧ (ext g (a + 324000) = g (324000 - c) ∨ ext g (a + 324000) = -g (324000 - c)) := by
  have hb : (a + 324000) % 1296000 = if a % 1296000 < 972000 then a % 1296000 + 324000 else a % 1296000 - 972000 := by split <;> omega
  unfold ext
  rw [hb]
  have h0 : 0 ≤ a % 1296000 := by omega
  have h1 : a % 1296000 < 1296000 := by omega
  generalize a % 1296000 = b at *
  by_cases q1 : b ≤ 324000
  · refine ⟨b, h0, q1, ?_, ?_⟩
    · rw [if_pos q1]; exact .inl rfl
    · rw [if_pos (show b < 972000 by omega)]
      by_cases e0 : b = 0
      · subst e0; left; rfl
      · rw [if_neg (show ¬ b + 324000 ≤ 324000 by omega)]
        by_cases e1 : b = 324000
        · subst e1; right; rfl
        · rw [if_pos (by omega), show 648000 - (b + 324000) = 324000 - b by omega]; exact .inl rfl
  · by_cases q2 : b < 648000
    · refine ⟨648000 - b, by omega, by omega, ?_, ?_⟩
      · rw [if_neg q1, if_pos q2]; exact .inl rfl
      · rw [if_pos (show b < 972000 by omega), if_neg (show ¬ b + 324000 ≤ 324000 by omega), if_neg (by omega), if_pos (by omega), show b + 324000 - 648000 = 324000 - (648000 - b) by omega]; exact .inr rfl
    · by_cases q3 : b ≤ 972000
      · refine ⟨b - 648000, by omega, by omega, ?_, ?_⟩
        · rw [if_neg q1, if_neg q2, if_pos q3]; exact .inr rfl
        · by_cases e1 : b = 972000
          · subst e1; left; rfl
          · by_cases e0 : b = 648000
            · subst e0; right; rfl
            · rw [if_pos (show b < 972000 by omega), if_neg (by omega), if_neg (by omega), if_neg (by omega), show 1296000 - (b + 324000) = 324000 - (b - 648000) by omega]; exact .inr rfl
      · refine ⟨1296000 - b, by omega, by omega, ?_, ?_⟩
        · rw [if_neg q1, if_neg q2, if_neg q3]; exact .inr rfl
        · rw [if_neg (show ¬ b < 972000 by omega), if_pos (by omega), show b - 972000 = 324000 - (1296000 - b) by omega]; exact .inl rfl
theorem PQ_0 : PQ 0 = 0 := by decide +kernel
/-- The sine of what is left to a right angle is the cosine. -/
theorem ext_left (a : Int) : ext PQ (324000 - a) = ext PQ (a + 324000) := by
  have hb : (324000 - a) % 1296000 = if (a + 324000) % 1296000 ≤ 648000 then 648000 - (a + 324000) % 1296000 else 1944000 - (a + 324000) % 1296000 := by split <;> omega
  unfold ext
  rw [hb]
  have h0 : 0 ≤ (a + 324000) % 1296000 := by omega
  have h1 : (a + 324000) % 1296000 < 1296000 := by omega
  generalize (a + 324000) % 1296000 = u at *
  by_cases e0 : u = 0
  · subst e0; show -PQ 0 = PQ 0; rw [PQ_0]; rfl
  by_cases e1 : u = 648000
  · subst e1; show PQ 0 = -PQ 0; rw [PQ_0]; rfl
  by_cases e2 : u = 324000
  · subst e2; rfl
  by_cases e3 : u = 972000
  · subst e3; rfl
  by_cases q1 : u ≤ 324000
  · rw [if_pos (show u ≤ 648000 by omega), if_neg (by omega), if_pos (by omega), if_pos q1, show 648000 - (648000 - u) = u by omega]
  · by_cases q2 : u < 648000
    · rw [if_pos (show u ≤ 648000 by omega), if_pos (by omega), if_neg q1, if_pos q2]
    · rw [if_neg (show ¬ u ≤ 648000 by omega)]
      by_cases q3 : u ≤ 972000
      · rw [if_neg (by omega), if_neg (by omega), if_neg (by omega), if_neg q1, if_neg q2, if_pos q3, show 1296000 - (1944000 - u) = u - 648000 by omega]
      · rw [if_neg (by omega), if_neg (by omega), if_pos (by omega), if_neg q1, if_neg q2, if_neg q3, show 1944000 - u - 648000 = 1296000 - u by omega]
/-- The circle, for sizes. -/
theorem circle2 {c : Int} (h0 : 0 ≤ c) (h1 : c ≤ 324000) :
    1000000000 * 1000000000 ≤ (PQ c + 50) * (PQ c + 50) + (PQ (324000 - c) + 50) * (PQ (324000 - c) + 50) ∧
    max 0 (PQ c - 50) * max 0 (PQ c - 50) + max 0 (PQ (324000 - c) - 50) * max 0 (PQ (324000 - c) - 50) ≤ 1000000000 * 1000000000 := by
  have key : ∀ {p q : Int}, -13 ≤ p → -13 ≤ q → (p ≤ 50 ∨ (p - 50) * (p - 50) + (q - 50) * (q - 50) ≤ 1000000000 * 1000000000) → q - 50 ≤ 1000000000 → 500000000 ≤ q → max 0 (p - 50) * max 0 (p - 50) + max 0 (q - 50) * max 0 (q - 50) ≤ 1000000000 * 1000000000 := by
    intro p q hp hq h h2 h3
    rw [show max 0 (q - 50) = q - 50 by omega]
    have := sq_le_mul (show 0 ≤ q - 50 by omega) h2
    by_cases hp' : p ≤ 50
    · rw [show max 0 (p - 50) = 0 by omega]; omega
    · rw [show max 0 (p - 50) = p - 50 by omega]
      rcases h with h | h
      · omega
      · exact h
  have b1 := PQ_b h0 h1
  have b2 := PQ_b (show 0 ≤ 324000 - c by omega) (by omega)
  by_cases hc : c ≤ 162000
  · obtain ⟨x1, x2, x3, x4⟩ := circle1 h0 hc
    exact ⟨x1, key b1.1 b2.1 x2 x3 x4⟩
  · obtain ⟨x1, x2, x3, x4⟩ := circle1 (show 0 ≤ 324000 - c by omega) (by omega)
    rw [show 324000 - (324000 - c) = c by omega] at x1 x2 x3 x4
    have := key b2.1 b1.1 x2 x3 x4
    omega
theorem pos_of_mulp {a b : Int} (h : 0 < a * b) (ha : 0 < a) : 0 < b := by
  by_cases hb : 0 < b
  · exact hb
  · have := Int.mul_le_mul_of_nonneg_left (show b ≤ 0 by omega) (show 0 ≤ a by omega); rw [Int.mul_zero] at this; omega
theorem near_le {t n v : Int} (t1 : 1 ≤ t) (t2 : t ≤ 1000000) (n1 : -1000000013 ≤ n) (n2 : n ≤ 1000000013) (hv : n = v ∨ n = -v) (hv0 : -13 ≤ v) :
    0 ≤ nrF (loS t n) (hiS t n) ∧ nrF (loS t n) (hiS t n) * 1000000000 ≤ t * max 0 (v - 50) ∧ t * (v + 50) ≤ frF (loS t n) (hiS t n) * 1000000000 ∧ 0 ≤ frF (loS t n) (hiS t n) := by
  obtain ⟨⟨a1, a2⟩, ⟨a3, a4⟩, a5, a6, a7, a8⟩ := range_b t1 t2 n1 n2
  have z : 0 ≤ t * max 0 (v - 50) := Int.mul_nonneg (by omega) (by omega)
  have m1 : t * (n - 50) ≤ t * (max n (-n) - 50) := Int.mul_le_mul_of_nonneg_left (by omega) (by omega)
  have m2 : t * (-n - 50) ≤ t * (max n (-n) - 50) := Int.mul_le_mul_of_nonneg_left (by omega) (by omega)
  have e1 : t * (n - 50) = t * n - 50 * t := by rw [Int.mul_sub]; omega
  have e2 : t * (n + 50) = t * n + 50 * t := by rw [Int.mul_add]; omega
  have e3 : t * (-n - 50) = -(t * n) - 50 * t := by rw [Int.mul_sub, Int.mul_neg]; omega
  have e4 : t * (-n + 50) = -(t * n) + 50 * t := by rw [Int.mul_add, Int.mul_neg]; omega
  have hvm : max v (-v) = max n (-n) := by omega
  -- v is nearly its own size
  have w1 : t * (v + 50) ≤ max (t * (n + 50)) (t * (-n + 50)) := by
    rcases hv with h | h
    · rw [h]; omega
    · rw [h, Int.neg_neg]; omega
  have w2 : 0 < t * n - 50 * t → t * n - 50 * t ≤ t * max 0 (v - 50) := by
    intro hp
    have : 0 < t * (n - 50) := by omega
    have hn : 0 < n - 50 := pos_of_mulp this (by omega)
    have : v = n := by omega
    rw [this, show max 0 (n - 50) = n - 50 by omega]; omega
  have w3 : 0 < -(t * n) - 50 * t → -(t * n) - 50 * t ≤ t * max 0 (v - 50) := by
    intro hp
    have : 0 < t * (-n - 50) := by omega
    have hn : 0 < -n - 50 := pos_of_mulp this (by omega)
    have : v = -n := by omega
    rw [this, show max 0 (-n - 50) = -n - 50 by omega]; omega
  generalize loS t n = l at *
  generalize hiS t n = h at *
  unfold nrF frF
  refine ⟨by split <;> omega, ?_, by omega, by omega⟩
  split <;> omega
theorem circle_t {t v1 v2 : Int} {x1 x2 y1 y2 : Int} (t1 : 1 ≤ t)
    (hx1 : 0 ≤ x1) (hx2 : 0 ≤ x2) (hy1 : 0 ≤ y1) (hy2 : 0 ≤ y2) (hv1 : -13 ≤ v1) (hv2 : -13 ≤ v2)
    (a1 : x1 * 1000000000 ≤ t * max 0 (v1 - 50)) (a2 : x2 * 1000000000 ≤ t * max 0 (v2 - 50))
    (b1 : t * (v1 + 50) ≤ y1 * 1000000000) (b2 : t * (v2 + 50) ≤ y2 * 1000000000)
    (c1 : 1000000000 * 1000000000 ≤ (v1 + 50) * (v1 + 50) + (v2 + 50) * (v2 + 50))
    (c2 : max 0 (v1 - 50) * max 0 (v1 - 50) + max 0 (v2 - 50) * max 0 (v2 - 50) ≤ 1000000000 * 1000000000) :
    x1 * x1 + x2 * x2 ≤ t * t ∧ t * t ≤ y1 * y1 + y2 * y2 := by
  have q1 := sq_le_mul (show 0 ≤ x1 * 1000000000 by omega) a1
  have q2 := sq_le_mul (show 0 ≤ x2 * 1000000000 by omega) a2
  have q3 := sq_le_mul (Int.mul_nonneg (show 0 ≤ t by omega) (show 0 ≤ v1 + 50 by omega)) b1
  have q4 := sq_le_mul (Int.mul_nonneg (show 0 ≤ t by omega) (show 0 ≤ v2 + 50 by omega)) b2
  have tt := Int.mul_nonneg (show 0 ≤ t by omega) (show 0 ≤ t by omega)
  have s1 := Int.mul_le_mul_of_nonneg_left c1 tt
  have s2 := Int.mul_le_mul_of_nonneg_left c2 tt
  generalize max 0 (v1 - 50) = r1 at *
  generalize max 0 (v2 - 50) = r2 at *
  have f1 : t * t * (r1 * r1 + r2 * r2) = t * r1 * (t * r1) + t * r2 * (t * r2) := by grind
  have f2 : t * t * ((v1 + 50) * (v1 + 50) + (v2 + 50) * (v2 + 50)) = t * (v1 + 50) * (t * (v1 + 50)) + t * (v2 + 50) * (t * (v2 + 50)) := by grind
  have f3 : x1 * 1000000000 * (x1 * 1000000000) = x1 * x1 * 1000000000000000000 := by grind
  have f4 : x2 * 1000000000 * (x2 * 1000000000) = x2 * x2 * 1000000000000000000 := by grind
  have f5 : y1 * 1000000000 * (y1 * 1000000000) = y1 * y1 * 1000000000000000000 := by grind
  have f6 : y2 * 1000000000 * (y2 * 1000000000) = y2 * y2 * 1000000000000000000 := by grind
  constructor <;> omega
theorem k_copy0 {times l h a b : Int} {z3 z4 z5 : ((Int × Int) × (Int × Unit)) × Unit} (hz : z3 = (((l, h), (0, ())), ())) (h1 : -1000002 ≤ l) (h2 : l ≤ h) (h3 : h ≤ 1000002) (a0 : 0 ≤ a) (a1 : a ≤ 4000000000000) (b0 : 0 ≤ b) (b1 : b ≤ 4000000000000) :
    (T_law01xNumberCircle_l9 times z3 z4 z5 a b 0).run = some (.inl (a + nrF l h * nrF l h, b + frF l h * frF l h, 1, ())) := by
  subst hz
  obtain ⟨⟨n0, n1⟩, f0, f1⟩ := nrF_b (M := 1000002) (by decide) h1 h2 h3
  have qn := sq_le_mul n0 n1
  have qf := sq_le_mul f0 f1
  have pn := Int.mul_nonneg n0 n0
  have pf := Int.mul_nonneg f0 f0
  unfold T_law01xNumberCircle_l9
  refine (br_t rfl).trans ?_
  refine (br_t rfl).trans ?_
  refine (r_bs (k_Within _ _ _)).trans ?_
  refine (br_f (nd (show -2000000 ≤ l ∧ l ≤ h by omega))).trans ?_
  refine (br_f (decide_eq_false (show ¬ 2000000 < h by omega))).trans ?_
  refine (r_bs (k_Abs (n := l) (by omega) (by omega))).trans ?_
  refine (r_bs (k_Abs (n := h) (by omega) (by omega))).trans ?_
  refine (r_bs (k_Abs (n := l) (by omega) (by omega))).trans ?_
  refine (r_bs (k_Abs (n := h) (by omega) (by omega))).trans ?_
  dsimp only
  rw [max_if, min_if]
  rw [show max (max l (-l)) (max h (-h)) = frF l h from rfl, w64' (x := frF l h * frF l h) (by omega) (by omega), w64' (x := b + frF l h * frF l h) (by omega) (by omega)]
  by_cases c1 : l ≤ 0
  · refine (br_t (decide_eq_true c1)).trans ?_
    by_cases c2 : 0 ≤ h
    · refine (br_t (decide_eq_true c2)).trans ?_
      have e : nrF l h = 0 := if_pos ⟨c1, c2⟩
      rw [e, w64' (x := 0 * 0) (by omega) (by omega), w64' (x := a + 0 * 0) (by omega) (by omega)]
      exact r_ret _
    · refine (br_f (decide_eq_false c2)).trans ?_
      have e : nrF l h = min (max l (-l)) (max h (-h)) := if_neg (fun hh => c2 hh.2)
      rw [← e, w64' (x := nrF l h * nrF l h) (by omega) (by omega), w64' (x := a + nrF l h * nrF l h) (by omega) (by omega)]
      exact r_ret _
  · refine (br_f (decide_eq_false c1)).trans ?_
    have e : nrF l h = min (max l (-l)) (max h (-h)) := if_neg (fun hh => c1 hh.1)
    rw [← e, w64' (x := nrF l h * nrF l h) (by omega) (by omega), w64' (x := a + nrF l h * nrF l h) (by omega) (by omega)]
    exact r_ret _
theorem k_copy1 {times l h a b : Int} {z3 z4 z5 : ((Int × Int) × (Int × Unit)) × Unit} (hz : z4 = (((l, h), (0, ())), ())) (h1 : -1000002 ≤ l) (h2 : l ≤ h) (h3 : h ≤ 1000002) (a0 : 0 ≤ a) (a1 : a ≤ 4000000000000) (b0 : 0 ≤ b) (b1 : b ≤ 4000000000000) :
    (T_law01xNumberCircle_l9 times z3 z4 z5 a b 1).run = some (.inl (a + nrF l h * nrF l h, b + frF l h * frF l h, 2, ())) := by
  subst hz
  obtain ⟨⟨n0, n1⟩, f0, f1⟩ := nrF_b (M := 1000002) (by decide) h1 h2 h3
  have qn := sq_le_mul n0 n1
  have qf := sq_le_mul f0 f1
  have pn := Int.mul_nonneg n0 n0
  have pf := Int.mul_nonneg f0 f0
  unfold T_law01xNumberCircle_l9
  refine (br_t rfl).trans ?_
  refine (br_f rfl).trans ?_
  refine (br_t rfl).trans ?_
  refine (r_bs (k_Within _ _ _)).trans ?_
  refine (br_f (nd (show -2000000 ≤ l ∧ l ≤ h by omega))).trans ?_
  refine (br_f (decide_eq_false (show ¬ 2000000 < h by omega))).trans ?_
  refine (r_bs (k_Abs (n := l) (by omega) (by omega))).trans ?_
  refine (r_bs (k_Abs (n := h) (by omega) (by omega))).trans ?_
  refine (r_bs (k_Abs (n := l) (by omega) (by omega))).trans ?_
  refine (r_bs (k_Abs (n := h) (by omega) (by omega))).trans ?_
  dsimp only
  rw [max_if, min_if]
  rw [show max (max l (-l)) (max h (-h)) = frF l h from rfl, w64' (x := frF l h * frF l h) (by omega) (by omega), w64' (x := b + frF l h * frF l h) (by omega) (by omega)]
  by_cases c1 : l ≤ 0
  · refine (br_t (decide_eq_true c1)).trans ?_
    by_cases c2 : 0 ≤ h
    · refine (br_t (decide_eq_true c2)).trans ?_
      have e : nrF l h = 0 := if_pos ⟨c1, c2⟩
      rw [e, w64' (x := 0 * 0) (by omega) (by omega), w64' (x := a + 0 * 0) (by omega) (by omega)]
      exact r_ret _
    · refine (br_f (decide_eq_false c2)).trans ?_
      have e : nrF l h = min (max l (-l)) (max h (-h)) := if_neg (fun hh => c2 hh.2)
      rw [← e, w64' (x := nrF l h * nrF l h) (by omega) (by omega), w64' (x := a + nrF l h * nrF l h) (by omega) (by omega)]
      exact r_ret _
  · refine (br_f (decide_eq_false c1)).trans ?_
    have e : nrF l h = min (max l (-l)) (max h (-h)) := if_neg (fun hh => c1 hh.1)
    rw [← e, w64' (x := nrF l h * nrF l h) (by omega) (by omega), w64' (x := a + nrF l h * nrF l h) (by omega) (by omega)]
    exact r_ret _
theorem k_NumberCircle {angle : Int} {times : Int} (b0 : bulkT (.int .i64) angle ≤ 1048576) (w0 : wfT (.int .i64) angle) (b1 : bulkT (.int .i64) times ≤ 1048576) (w1 : wfT (.int .i64) times) : law01xNumberCircle angle times = some ((true, ()), ()) := by
  show (T_law01xNumberCircle angle times).run = _
  unfold T_law01xNumberCircle
  rw [r_bind, awake_ok, Option.bind_some]
  refine (br_f rfl).trans ?_
  refine (r_bs (k_Within _ _ _)).trans ?_
  by_cases ha : ¬ (-1000000000 ≤ angle ∧ angle ≤ 998704000)
  · exact (br_t (nd' ha)).trans (r_ret _)
  have ha := Decidable.not_not.1 ha
  refine (br_f (nd ha)).trans ?_
  refine (r_bs (k_Within _ _ _)).trans ?_
  by_cases ht : ¬ (1 ≤ times ∧ times ≤ 1000000)
  · exact (br_t (nd' ht)).trans (r_ret _)
  have ht := Decidable.not_not.1 ht
  refine (br_f (nd ht)).trans ?_
  obtain ⟨t1, t2⟩ := ht
  rw [w64' (x := 324000 - angle) (by omega) (by omega)]
  refine (r_bs (k_Sine (by omega) (by omega) t1 t2)).trans ?_
  refine (r_bs (k_Cosine (by omega) (by omega) t1 t2)).trans ?_
  by_cases h3 : -1000000000 ≤ 324000 - angle ∧ 324000 - angle ≤ 1000000000
  · refine (r_bs (k_Sine h3.1 h3.2 t1 t2)).trans ?_
    refine (br_f (nd rfl)).trans ?_
    refine (br_f (nd rfl)).trans ?_
    refine (br_f (nd rfl)).trans ?_
    rw [r_iter]
    have p1 := PQ_b' angle
    have p2 := PQ_b' (angle + 324000)
    obtain ⟨c, c0, c1, f1, f2⟩ := folded PQ angle
    obtain ⟨d1, d2⟩ := circle2 c0 c1
    have v1 := PQ_b c0 c1
    have v2 := PQ_b (show 0 ≤ 324000 - c by omega) (by omega)
    obtain ⟨n1, n2, n3, n4⟩ := near_le t1 t2 p1.1 p1.2 f1 v1.1
    obtain ⟨m1, m2, m3, m4⟩ := near_le t1 t2 p2.1 p2.2 f2 v2.1
    obtain ⟨r1, r2⟩ := circle_t t1 n1 m1 n4 m4 v1.1 v2.1 n2 m2 n3 m3 d1 d2
    obtain ⟨_, _, a5, a6, a7, a8⟩ := range_b t1 t2 p1.1 p1.2
    obtain ⟨_, _, b5, b6, b7, b8⟩ := range_b t1 t2 p2.1 p2.2
    obtain ⟨⟨x0, x1⟩, y0, y1⟩ := nrF_b (M := 1000002) (by decide) a5 a6 a7
    obtain ⟨⟨z0, z1⟩, u0, u1⟩ := nrF_b (M := 1000002) (by decide) b5 b6 b7
    have qx := sq_le_mul x0 x1
    have qy := sq_le_mul y0 y1
    have px := Int.mul_nonneg x0 x0
    have py := Int.mul_nonneg y0 y0
    have qt := mul_bd (a := times) (b := times) (m := 1000000) (n := 1000000) (by omega) (by omega) (by omega) (by omega)
    have e5 : sineV (324000 - angle) times = sineV (angle + 324000) times := by unfold sineV; rw [ext_left]
    rw [e5]
    unfold sineV
    generalize loS times (ext PQ angle) = l at *
    generalize hiS times (ext PQ angle) = h at *
    generalize loS times (ext PQ (angle + 324000)) = l' at *
    generalize hiS times (ext PQ (angle + 324000)) = h' at *
    refine iter_eq (fun i st => (i = 0 ∧ st = (0, 0, 0, ())) ∨ (i = 1 ∧ st = (0 + nrF l h * nrF l h, 0 + frF l h * frF l h, 1, ())) ∨ (i = 2 ∧ st = (0 + nrF l h * nrF l h + nrF l' h' * nrF l' h', 0 + frF l h * frF l h + frF l' h' * frF l' h', 2, ()))) _ 2 (by omega) ?_ (.inl ⟨rfl, rfl⟩)
    rintro i st hi (⟨rfl, rfl⟩ | ⟨rfl, rfl⟩ | ⟨rfl, rfl⟩)
    · left
      exact ⟨_, k_copy0 (a := 0) (b := 0) rfl a5 a6 a7 (by omega) (by omega) (by omega) (by omega), by omega, .inr (.inl ⟨rfl, rfl⟩)⟩
    · left
      exact ⟨_, k_copy1 (a := 0 + nrF l h * nrF l h) (b := 0 + frF l h * frF l h) rfl b5 b6 b7 (by omega) (by omega) (by omega) (by omega), by omega, .inr (.inr ⟨rfl, rfl⟩)⟩
    · right
      unfold T_law01xNumberCircle_l9
      refine (br_f rfl).trans ?_
      dsimp only
      rw [w64' (x := times * times) (by omega) (by omega)]
      refine (br_t (decide_eq_true (by omega))).trans ?_
      refine (br_t (decide_eq_true (by omega))).trans ?_
      refine (br_t (decide_eq_true (by omega))).trans ?_
      rw [decide_eq_true b6]
      exact r_ret _
  · refine (r_bs (k_Sine_e (fun hh => h3 hh.1))).trans ?_
    refine (br_f (nd rfl)).trans ?_
    refine (br_f (nd rfl)).trans ?_
    refine (br_t rfl).trans ?_
    refine (r_bs (k_Within _ _ _)).trans ?_
    refine (br_t (decide_eq_true (show 1000000001 ≤ 324000 - angle ∧ 324000 - angle ≤ 2000000000 by omega))).trans ?_
    refine (br_t (decide_eq_true rfl)).trans ?_
    exact r_ret _
end Go.Ab
