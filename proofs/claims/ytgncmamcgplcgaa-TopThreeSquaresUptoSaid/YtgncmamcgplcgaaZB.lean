/- The walks through the series of the program and of the reference, and through their sines. -/
import Derived.Test.YtgncmamcgplcgaaF4
import Derived.Test.YtgncmamcgplcgaaZA
namespace Go.Ab
open Go
set_option maxRecDepth 1000000
set_option maxHeartbeats 1000000
set_option linter.unusedVariables false
set_option linter.unusedSimpArgs false

def sg (j : Nat) (a : Int) : Int := if j % 2 = 0 then a else -a
theorem sg_bd {j : Nat} {a M : Int} (h : 0 ≤ a) (h2 : a ≤ M) : -M ≤ sg j a ∧ sg j a ≤ M := by unfold sg; split <;> omega
theorem sg_neg (j : Nat) (a : Int) : 0 - sg j a = sg (j + 1) a := by unfold sg; split <;> split <;> omega
theorem sg_mul (j : Nat) (a b : Int) : sg j a * b = sg j (a * b) := by
  unfold sg; split
  · rfl
  · exact Int.neg_mul _ _
theorem sg_tdiv (j : Nat) {a b : Int} (h : 0 ≤ a) : (sg j a).tdiv b = sg j (a / b) := by
  unfold sg; split
  · exact Int.tdiv_eq_ediv_of_nonneg h
  · rw [Int.neg_tdiv, Int.tdiv_eq_ediv_of_nonneg h]
theorem w_sg {j : Nat} {a : Int} (h : 0 ≤ a) (h2 : a ≤ 9223372036854775807) : IntKind.i64.wrap (sg j a) = sg j a := by
  have := sg_bd (j := j) h h2
  rw [w64' (by omega) (by omega)]
theorem ediv_le' {a b : Int} (h : 0 ≤ a) (hb : 0 < b) : 0 ≤ a / b ∧ a / b ≤ a := ⟨Int.ediv_nonneg h (by omega), Int.ediv_le_self b h⟩
theorem term_w {j : Nat} {t sq m : Int} (ht : 0 ≤ t) (hs : 0 ≤ sq) (hm : 0 < m) (ht2 : t ≤ 9223372036854775807) (hb : t * sq ≤ 9223372036854775807) :
    IntKind.i64.wrap ((IntKind.i64.wrap ((IntKind.i64.wrap (IntKind.i64.wrap (0 - sg j t) * sq)).tdiv 1000000000)).tdiv m) = sg (j + 1) (gt sq m t) := by
  have p := Int.mul_nonneg ht hs
  obtain ⟨d1, d2⟩ := ediv_le' (b := 1000000000) p (by decide)
  obtain ⟨d3, d4⟩ := ediv_le' d1 hm
  rw [sg_neg, w_sg ht ht2, sg_mul, w_sg p hb, sg_tdiv _ p, w_sg d1 (by omega), sg_tdiv _ d1, w_sg d3 (by omega)]
  rfl
theorem sqx_nn {x : Int} (h : 0 ≤ x) : 0 ≤ sqx x := Int.ediv_nonneg (Int.mul_nonneg h h) (by decide)
theorem m_ge (j : Nat) : 6 ≤ (2 * j + 2 : Int) * (2 * j + 3) ∧ 2 ≤ (2 * j + 1 : Int) * (2 * j + 2) := by
  have h1 := Int.mul_nonneg (a := j) (b := j) (by omega) (by omega)
  constructor <;> grind
theorem sT_b {x : Int} (h0 : 0 ≤ x) (h1 : x ≤ 1570796327) : ∀ j, 0 ≤ sT x j ∧ sT x j ≤ 1570796327
  | 0 => ⟨h0, h1⟩
  | j + 1 => by
    obtain ⟨a, b⟩ := sT_b h0 h1 j
    have s := Int.le_trans (sqx_le h0 h1) (show (1570796327 : Int) * 1570796327 / 1000000000 ≤ 2467401101 by decide)
    have m := (m_ge j).1
    exact ⟨gt_nn (sqx_nn h0) (by omega) a, Int.le_trans (gt_le (sqx_nn h0) (by omega) a (by omega)) b⟩
theorem cT_b {x : Int} (h0 : 0 ≤ x) (h1 : x ≤ 800000000) : ∀ j, 0 ≤ cT x j ∧ cT x j ≤ 1000000000
  | 0 => ⟨show (0 : Int) ≤ 1000000000 by decide, show (1000000000 : Int) ≤ 1000000000 by decide⟩
  | j + 1 => by
    obtain ⟨a, b⟩ := cT_b h0 h1 j
    have s := Int.le_trans (sqx_le h0 h1) (show (800000000 : Int) * 800000000 / 1000000000 ≤ 640000000 by decide)
    have m := (m_ge j).2
    exact ⟨gt_nn (sqx_nn h0) (by omega) a, Int.le_trans (gt_le (sqx_nn h0) (by omega) a (by omega)) b⟩
theorem alt_b {f : Nat → Int} {M : Int} (h : ∀ j, 0 ≤ f j ∧ f j ≤ M) : ∀ j : Nat, -(j * M) ≤ alt f j ∧ alt f j ≤ j * M
  | 0 => by simp [alt]
  | j + 1 => by
    have ih := alt_b h j
    have := h j
    have e : ((j + 1 : Nat) : Int) * M = j * M + M := by rw [show ((j + 1 : Nat) : Int) = (j : Int) + 1 by omega, Int.add_mul, Int.one_mul]
    rw [alt, e]; split <;> omega
theorem alt_sg (f : Nat → Int) (j : Nat) : alt f j + sg j (f j) = alt f (j + 1) := by rw [alt, sg]
theorem gt_zero (sq m : Int) : gt sq m 0 = 0 := by simp [gt]
theorem sT_zero {x : Int} {i : Nat} (h : sT x i = 0) : ∀ k, sT x (i + k) = 0 ∧ alt (sT x) (i + k) = alt (sT x) i
  | 0 => ⟨h, rfl⟩
  | k + 1 => by
    obtain ⟨a, b⟩ := sT_zero h k
    refine ⟨?_, ?_⟩
    · show gt _ _ (sT x (i + k)) = 0; rw [a, gt_zero]
    · show alt (sT x) ((i + k) + 1) = _
      rw [alt, a, b]; split <;> omega
theorem k_sine {n : Int} (h0 : 0 ≤ n) (h1 : n ≤ 32400000) : number_sine n = some ((P n, ()), ()) := by
  obtain ⟨a0, a1, _, _⟩ := xP_b h0 h1
  have eX : IntKind.i64.wrap ((IntKind.i64.wrap (n * 1570796327)).tdiv 32400000) = xP n := by
    rw [w64' (x := n * 1570796327) (by omega) (by omega), Int.tdiv_eq_ediv_of_nonneg (by omega)]
    exact w64' (x := xP n) (by omega) (by omega)
  have hsq := Int.le_trans (sqx_le a0 a1) (show (1570796327 : Int) * 1570796327 / 1000000000 ≤ 2467401101 by decide)
  have hsq0 := sqx_nn a0
  have eS : IntKind.i64.wrap ((IntKind.i64.wrap (xP n * xP n)).tdiv 1000000000) = sqx (xP n) := by
    have m := mul_bd (a := xP n) (b := xP n) (m := 1570796327) (n := 1570796327) (by omega) (by omega) (by omega) (by omega)
    have m0 := Int.mul_nonneg a0 a0
    rw [w64' (x := xP n * xP n) (by omega) (by omega), Int.tdiv_eq_ediv_of_nonneg m0]
    exact w64' (x := sqx (xP n)) (by omega) (by omega)
  have z7 := (sin_err (div_self9 (xP n)) a0 a1).2
  have hT := sT_b a0 a1
  have hA := alt_b hT
  show (T_number_sine n).run = _
  unfold T_number_sine
  refine (q_of rfl).trans ?_
  refine (q_of rfl).trans ?_
  rw [r_iter, eX]
  refine iter_eq (fun i st => i ≤ 7 ∧ st = (alt (sT (xP n)) i, sg i (sT (xP n) i), 2 * (i : Int) + 2, ())) _ 7 (by omega) ?_ ⟨by omega, rfl⟩
  rintro i st hi ⟨_, rfl⟩
  simp only [T_number_sine_l0, eX, eS]
  have hTi := hT i
  have hAi := hA i
  by_cases hz : sT (xP n) i = 0
  · right
    obtain ⟨_, e⟩ := sT_zero hz (7 - i)
    rw [show i + (7 - i) = 7 by omega] at e
    have es : sg i (sT (xP n) i) = 0 := by rw [hz]; unfold sg; split <;> rfl
    unfold P
    rw [e]
    exact (br_f (nd es)).trans (r_ret _)
  · left
    have es : ¬ sg i (sT (xP n) i) = 0 := by unfold sg; split <;> omega
    have hi7 : i < 7 := by
      rcases Nat.lt_or_ge i 7 with h | h
      · exact h
      · exact absurd (by rw [show i = 7 by omega]; exact z7) hz
    have m := (m_ge i).1
    have mb := mul_bd (a := (2 * (i : Int) + 2)) (b := (2 * (i : Int) + 3)) (m := 100) (n := 100) (by omega) (by omega) (by omega) (by omega)
    have tb := mul_bd (a := sT (xP n) i) (b := sqx (xP n)) (m := 1570796327) (n := 2467401101) (by omega) (by omega) (by omega) (by omega)
    have sb := sg_bd (j := i) hTi.1 hTi.2
    have eM : IntKind.i64.wrap ((2 * (i : Int) + 2) * IntKind.i64.wrap (2 * (i : Int) + 2 + 1)) = (2 * (i : Int) + 2) * (2 * (i : Int) + 3) := by
      rw [w64' (x := 2 * (i : Int) + 2 + 1) (by omega) (by omega), show 2 * (i : Int) + 2 + 1 = 2 * (i : Int) + 3 by omega]
      exact w64' (by omega) (by omega)
    have e2 : IntKind.i64.wrap (2 * (i : Int) + 2 + 2) = 2 * ((i + 1 : Nat) : Int) + 2 := by rw [w64' (by omega) (by omega)]; omega
    rw [eM, e2, term_w hTi.1 hsq0 (by omega) (by omega) (by omega), w64' (x := alt (sT (xP n)) i + sg i (sT (xP n) i)) (by omega) (by omega), alt_sg]
    refine ⟨_, ?_, hi7, by omega, rfl⟩
    refine (br_t (nd' es)).trans ?_
    refine (q_of rfl).trans ?_
    refine (q_of (nz_t (by omega))).trans ?_
    exact r_ret _
theorem k_series {a : Int} (h0 : 0 ≤ a) (h1 : a ≤ 162000) : ref01xseries a = some ((RS a, RC a, ()), ()) := by
  obtain ⟨a0, a1, _, _⟩ := xR_b h0 (by omega)
  have eX : IntKind.i64.wrap ((IntKind.i64.wrap ((IntKind.i64.wrap (a * 3141592653590)).tdiv 648000)).tdiv 1000) = xR a := by
    rw [w64' (x := a * 3141592653590) (by omega) (by omega), Int.tdiv_eq_ediv_of_nonneg (a := a * 3141592653590) (by omega), w64' (x := a * 3141592653590 / 648000) (by omega) (by omega), Int.tdiv_eq_ediv_of_nonneg (a := a * 3141592653590 / 648000) (by omega)]
    exact w64' (x := xR a) (by omega) (by omega)
  have hsq := Int.le_trans (sqx_le a0 a1) (show (800000000 : Int) * 800000000 / 1000000000 ≤ 640000000 by decide)
  have hsq0 := sqx_nn a0
  have eS : IntKind.i64.wrap ((IntKind.i64.wrap (xR a * xR a)).tdiv 1000000000) = sqx (xR a) := by
    have m := mul_bd (a := xR a) (b := xR a) (m := 800000000) (n := 800000000) (by omega) (by omega) (by omega) (by omega)
    have m0 := Int.mul_nonneg a0 a0
    rw [w64' (x := xR a * xR a) (by omega) (by omega), Int.tdiv_eq_ediv_of_nonneg m0]
    exact w64' (x := sqx (xR a)) (by omega) (by omega)
  have z7 := (sin_err (div_self9 (xR a)) a0 (by omega)).2
  have y7 := (cos_err (div_self9 (xR a)) a0 a1).2
  have hT := sT_b a0 (show xR a ≤ 1570796327 by omega)
  have hA := alt_b hT
  have hC := cT_b a0 a1
  have hB := alt_b hC
  have f1 : alt (sT (xR a)) 8 = RS a := by rw [alt, z7]; unfold RS; omega
  have f2 : alt (cT (xR a)) 8 = RC a := by rw [alt, y7]; unfold RC; omega
  show (T_ref01xseries a).run = _
  unfold T_ref01xseries
  refine (q_of rfl).trans ?_
  refine (q_of rfl).trans ?_
  refine (q_of rfl).trans ?_
  rw [r_iter, eX]
  refine iter_eq (fun i st => i ≤ 8 ∧ st = (alt (sT (xR a)) i, alt (cT (xR a)) i, sg i (sT (xR a) i), sg i (cT (xR a) i), 2 * (i : Int) + 1, ())) _ 8 (by omega) ?_ ⟨by omega, rfl⟩
  rintro i st hi ⟨_, rfl⟩
  simp only [T_ref01xseries_l0, eX, eS]
  have hTi := hT i
  have hAi := hA i
  have hCi := hC i
  have hBi := hB i
  by_cases hi8 : i < 8
  · left
    obtain ⟨m, m'⟩ := m_ge i
    have mb := mul_bd (a := (2 * (i : Int) + 2)) (b := (2 * (i : Int) + 3)) (m := 100) (n := 100) (by omega) (by omega) (by omega) (by omega)
    have mb' := mul_bd (a := (2 * (i : Int) + 1)) (b := (2 * (i : Int) + 2)) (m := 100) (n := 100) (by omega) (by omega) (by omega) (by omega)
    have tb := mul_bd (a := sT (xR a) i) (b := sqx (xR a)) (m := 1570796327) (n := 2467401101) (by omega) (by omega) (by omega) (by omega)
    have tb' := mul_bd (a := cT (xR a) i) (b := sqx (xR a)) (m := 1570796327) (n := 2467401101) (by omega) (by omega) (by omega) (by omega)
    have sb := sg_bd (j := i) hTi.1 hTi.2
    have sb' := sg_bd (j := i) hCi.1 hCi.2
    have eM : IntKind.i64.wrap (IntKind.i64.wrap (2 * (i : Int) + 1 + 1) * IntKind.i64.wrap (2 * (i : Int) + 1 + 2)) = (2 * (i : Int) + 2) * (2 * (i : Int) + 3) := by
      rw [w64' (x := 2 * (i : Int) + 1 + 1) (by omega) (by omega), w64' (x := 2 * (i : Int) + 1 + 2) (by omega) (by omega), show 2 * (i : Int) + 1 + 1 = 2 * (i : Int) + 2 by omega, show 2 * (i : Int) + 1 + 2 = 2 * (i : Int) + 3 by omega]
      exact w64' (by omega) (by omega)
    have eM' : IntKind.i64.wrap ((2 * (i : Int) + 1) * IntKind.i64.wrap (2 * (i : Int) + 1 + 1)) = (2 * (i : Int) + 1) * (2 * (i : Int) + 2) := by
      rw [w64' (x := 2 * (i : Int) + 1 + 1) (by omega) (by omega), show 2 * (i : Int) + 1 + 1 = 2 * (i : Int) + 2 by omega]
      exact w64' (by omega) (by omega)
    have e2 : IntKind.i64.wrap (2 * (i : Int) + 1 + 2) = 2 * ((i + 1 : Nat) : Int) + 1 := by rw [w64' (by omega) (by omega)]; omega
    rw [eM, eM', e2, term_w hTi.1 hsq0 (by omega) (by omega) (by omega), term_w hCi.1 hsq0 (by omega) (by omega) (by omega), w64' (x := alt (sT (xR a)) i + sg i (sT (xR a) i)) (by omega) (by omega), w64' (x := alt (cT (xR a)) i + sg i (cT (xR a) i)) (by omega) (by omega), alt_sg, alt_sg]
    refine ⟨_, ?_, hi8, by omega, rfl⟩
    refine (br_t (decide_eq_true (by omega))).trans ?_
    refine (q_of rfl).trans ?_
    refine (q_of (nz_t (by omega))).trans ?_
    refine (q_of rfl).trans ?_
    refine (q_of (nz_t (by omega))).trans ?_
    exact r_ret _
  · right
    have : i = 8 := by omega
    subst this
    rw [f1, f2]
    exact (br_f (decide_eq_false (by omega))).trans (r_ret _)
end Go.Ab
