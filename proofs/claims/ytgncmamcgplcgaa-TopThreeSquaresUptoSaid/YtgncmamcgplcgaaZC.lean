/- The sines of any angle: of the program, of the reference. -/
import Derived.Test.YtgncmamcgplcgaaZB
namespace Go.Ab
open Go
set_option maxRecDepth 1000000
set_option maxHeartbeats 1000000
set_option linter.unusedVariables false
set_option linter.unusedSimpArgs false

/-- A sine that is told for a quarter of a turn, for any angle. -/
def ext (g : Int → Int) (a : Int) : Int :=
  if a % 1296000 ≤ 324000 then g (a % 1296000) else if a % 1296000 < 648000 then g (648000 - a % 1296000) else if a % 1296000 ≤ 972000 then -g (a % 1296000 - 648000) else -g (1296000 - a % 1296000)
theorem tm_em (a : Int) : (a.tmod 1296000 < 0 → a.tmod 1296000 + 1296000 = a % 1296000) ∧ (0 ≤ a.tmod 1296000 → a.tmod 1296000 = a % 1296000) ∧ -1296000 < a.tmod 1296000 ∧ a.tmod 1296000 < 1296000 := by
  have h1 := Int.mul_tdiv_add_tmod a 1296000
  have h2 := tmod_lt (a := a) (b := 1296000) (by decide)
  omega
theorem k_sine' {c : Int} (h0 : 0 ≤ c) (h1 : c ≤ 324000) : number_sine (IntKind.i64.wrap (100 * c)) = some ((PQ c, ()), ()) := by
  rw [w64' (by omega) (by omega)]; exact k_sine (by omega) (by omega)
def loS (times n : Int) : Int := times * (n - 50) / 1000000000
def hiS (times n : Int) : Int := -(-(times * (n + 50)) / 1000000000)
theorem k_tail {times c s n : Int} (t1 : 1 ≤ times) (t2 : times ≤ 1000000) (h0 : 0 ≤ c) (h1 : c ≤ 324000) (hn : s * PQ c = n) (hb : -1000000013 ≤ n ∧ n ≤ 1000000013) :
    number_sine (IntKind.i64.wrap (100 * c)) = some ((PQ c, ()), ()) ∧ number_down (IntKind.i64.wrap (times * IntKind.i64.wrap (IntKind.i64.wrap (s * PQ c) - 50))) 1000000000 = some ((loS times n, ()), ()) ∧ number_up (IntKind.i64.wrap (times * IntKind.i64.wrap (IntKind.i64.wrap (s * PQ c) + 50))) 1000000000 = some ((hiS times n, ()), ()) := by
  have m1 := mul_bd (a := times) (b := n - 50) (m := 1000000) (n := 1000000100) (by omega) (by omega) (by omega) (by omega)
  have m2 := mul_bd (a := times) (b := n + 50) (m := 1000000) (n := 1000000100) (by omega) (by omega) (by omega) (by omega)
  refine ⟨k_sine' h0 h1, ?_, ?_⟩
  · rw [hn, w64' (x := n) (by omega) (by omega), w64' (x := n - 50) (by omega) (by omega), w64' (by omega) (by omega)]
    exact k_down (by decide) (by decide) (by omega) (by omega)
  · rw [hn, w64' (x := n) (by omega) (by omega), w64' (x := n + 50) (by omega) (by omega), w64' (by omega) (by omega)]
    exact k_up (by decide) (by decide) (by omega) (by omega)
theorem ext_b {g : Int → Int} {M : Int} (h : ∀ c, 0 ≤ c → c ≤ 324000 → -M ≤ g c ∧ g c ≤ M) (a : Int) : -M ≤ ext g a ∧ ext g a ≤ M := by
  unfold ext
  split
  · exact h _ (by omega) (by omega)
  · split
    · exact h _ (by omega) (by omega)
    · split
      · have := h (a % 1296000 - 648000) (by omega) (by omega); omega
      · have := h (1296000 - a % 1296000) (by omega) (by omega); omega
theorem PQ_b' (a : Int) : -1000000013 ≤ ext PQ a ∧ ext PQ a ≤ 1000000013 :=
  ext_b (M := 1000000013) (fun c h0 h1 => by have := PQ_b h0 h1; omega) a
def sineV (angle times : Int) : ((Int × Int) × (Int × Unit)) × Unit := (((loS times (ext PQ angle), hiS times (ext PQ angle)), (0, ())), ())
theorem k_Sine {angle times : Int} (a1 : -1000000000 ≤ angle) (a2 : angle ≤ 1000000000) (t1 : 1 ≤ times) (t2 : times ≤ 1000000) : number_Sine angle times = some (sineV angle times) := by
  obtain ⟨e1, e2, e3, e4⟩ := tm_em angle
  have hb := PQ_b' angle
  show (T_number_Sine angle times).run = _
  unfold T_number_Sine
  refine (r_bs (k_between _ _ _)).trans ?_
  refine (br_f (nd ⟨a1, a2⟩)).trans ?_
  refine (r_bs (k_between _ _ _)).trans ?_
  refine (br_f (nd ⟨t1, t2⟩)).trans ?_
  refine (q_of rfl).trans ?_
  by_cases hneg : angle.tmod 1296000 < 0
  · refine (br_t (decide_eq_true hneg)).trans ?_
    rw [w64' (x := angle.tmod 1296000 + 1296000) (by omega) (by omega), e1 hneg]
    by_cases h2 : 648000 ≤ angle % 1296000
    · refine (br_t (decide_eq_true h2)).trans ?_
      rw [w64' (x := angle % 1296000 - 648000) (by omega) (by omega)]
      by_cases h3 : 324000 < angle % 1296000 - 648000
      · refine (br_t (decide_eq_true h3)).trans ?_
        rw [w64' (x := 648000 - (angle % 1296000 - 648000)) (by omega) (by omega)]
        have hn : -1 * PQ (648000 - (angle % 1296000 - 648000)) = ext PQ angle := by
          unfold ext; rw [if_neg (by omega), if_neg (by omega), if_neg (by omega), show 648000 - (angle % 1296000 - 648000) = 1296000 - angle % 1296000 by omega]; omega
        obtain ⟨k1, k2, k3⟩ := k_tail t1 t2 (by omega) (by omega) hn hb
        exact (r_bs k1).trans ((r_bs k2).trans ((r_bs k3).trans (r_ret _)))
      · refine (br_f (decide_eq_false h3)).trans ?_
        have hn : -1 * PQ (angle % 1296000 - 648000) = ext PQ angle := by
          unfold ext; rw [if_neg (by omega), if_neg (by omega), if_pos (by omega)]; omega
        obtain ⟨k1, k2, k3⟩ := k_tail t1 t2 (by omega) (by omega) hn hb
        exact (r_bs k1).trans ((r_bs k2).trans ((r_bs k3).trans (r_ret _)))
    · refine (br_f (decide_eq_false h2)).trans ?_
      by_cases h3 : 324000 < angle % 1296000
      · refine (br_t (decide_eq_true h3)).trans ?_
        rw [w64' (x := 648000 - angle % 1296000) (by omega) (by omega)]
        have hn : 1 * PQ (648000 - angle % 1296000) = ext PQ angle := by
          unfold ext; rw [if_neg (by omega), if_pos (by omega)]; omega
        obtain ⟨k1, k2, k3⟩ := k_tail t1 t2 (by omega) (by omega) hn hb
        exact (r_bs k1).trans ((r_bs k2).trans ((r_bs k3).trans (r_ret _)))
      · refine (br_f (decide_eq_false h3)).trans ?_
        have hn : 1 * PQ (angle % 1296000) = ext PQ angle := by
          unfold ext; rw [if_pos (by omega)]; omega
        obtain ⟨k1, k2, k3⟩ := k_tail t1 t2 (by omega) (by omega) hn hb
        exact (r_bs k1).trans ((r_bs k2).trans ((r_bs k3).trans (r_ret _)))
  · refine (br_f (decide_eq_false hneg)).trans ?_
    rw [e2 (by omega)]
    by_cases h2 : 648000 ≤ angle % 1296000
    · refine (br_t (decide_eq_true h2)).trans ?_
      rw [w64' (x := angle % 1296000 - 648000) (by omega) (by omega)]
      by_cases h3 : 324000 < angle % 1296000 - 648000
      · refine (br_t (decide_eq_true h3)).trans ?_
        rw [w64' (x := 648000 - (angle % 1296000 - 648000)) (by omega) (by omega)]
        have hn : -1 * PQ (648000 - (angle % 1296000 - 648000)) = ext PQ angle := by
          unfold ext; rw [if_neg (by omega), if_neg (by omega), if_neg (by omega), show 648000 - (angle % 1296000 - 648000) = 1296000 - angle % 1296000 by omega]; omega
        obtain ⟨k1, k2, k3⟩ := k_tail t1 t2 (by omega) (by omega) hn hb
        exact (r_bs k1).trans ((r_bs k2).trans ((r_bs k3).trans (r_ret _)))
      · refine (br_f (decide_eq_false h3)).trans ?_
        have hn : -1 * PQ (angle % 1296000 - 648000) = ext PQ angle := by
          unfold ext; rw [if_neg (by omega), if_neg (by omega), if_pos (by omega)]; omega
        obtain ⟨k1, k2, k3⟩ := k_tail t1 t2 (by omega) (by omega) hn hb
        exact (r_bs k1).trans ((r_bs k2).trans ((r_bs k3).trans (r_ret _)))
    · refine (br_f (decide_eq_false h2)).trans ?_
      by_cases h3 : 324000 < angle % 1296000
      · refine (br_t (decide_eq_true h3)).trans ?_
        rw [w64' (x := 648000 - angle % 1296000) (by omega) (by omega)]
        have hn : 1 * PQ (648000 - angle % 1296000) = ext PQ angle := by
          unfold ext; rw [if_neg (by omega), if_pos (by omega)]; omega
        obtain ⟨k1, k2, k3⟩ := k_tail t1 t2 (by omega) (by omega) hn hb
        exact (r_bs k1).trans ((r_bs k2).trans ((r_bs k3).trans (r_ret _)))
      · refine (br_f (decide_eq_false h3)).trans ?_
        have hn : 1 * PQ (angle % 1296000) = ext PQ angle := by
          unfold ext; rw [if_pos (by omega)]; omega
        obtain ⟨k1, k2, k3⟩ := k_tail t1 t2 (by omega) (by omega) hn hb
        exact (r_bs k1).trans ((r_bs k2).trans ((r_bs k3).trans (r_ret _)))
def rangeE : ((Int × Int) × (Int × Unit)) × Unit := (((0, 0), (2, ())), ())
theorem k_Sine_e {angle times : Int} (h : ¬ ((-1000000000 ≤ angle ∧ angle ≤ 1000000000) ∧ 1 ≤ times ∧ times ≤ 1000000)) : number_Sine angle times = some rangeE := by
  show (T_number_Sine angle times).run = _
  unfold T_number_Sine
  refine (r_bs (k_between _ _ _)).trans ?_
  by_cases h1 : -1000000000 ≤ angle ∧ angle ≤ 1000000000
  · refine (br_f (nd h1)).trans ?_
    refine (r_bs (k_between _ _ _)).trans ?_
    exact (br_t (nd' (fun h2 => h ⟨h1, h2⟩))).trans (r_ret _)
  · exact (br_t (nd' h1)).trans (r_ret _)
theorem ext_tm (g : Int → Int) (a : Int) : ext g (a.tmod 1296000 + 324000) = ext g (a + 324000) := by
  obtain ⟨e1, e2, e3, e4⟩ := tm_em a
  have : (a.tmod 1296000 + 324000) % 1296000 = (a + 324000) % 1296000 := by omega
  unfold ext; rw [this]
theorem k_Cosine {angle times : Int} (a1 : -1000000000 ≤ angle) (a2 : angle ≤ 1000000000) (t1 : 1 ≤ times) (t2 : times ≤ 1000000) : number_Cosine angle times = some (sineV (angle + 324000) times) := by
  obtain ⟨e1, e2, e3, e4⟩ := tm_em angle
  show (T_number_Cosine angle times).run = _
  unfold T_number_Cosine
  refine (r_bs (k_between _ _ _)).trans ?_
  refine (br_f (nd ⟨a1, a2⟩)).trans ?_
  refine (q_of rfl).trans ?_
  rw [w64' (x := angle.tmod 1296000 + 324000) (by omega) (by omega)]
  refine (r_bs (k_Sine (by omega) (by omega) t1 t2)).trans ?_
  refine (r_ret _).trans ?_
  unfold sineV
  rw [ext_tm]
theorem k_Cosine_e {angle times : Int} (h : ¬ ((-1000000000 ≤ angle ∧ angle ≤ 1000000000) ∧ 1 ≤ times ∧ times ≤ 1000000)) : number_Cosine angle times = some rangeE := by
  obtain ⟨e1, e2, e3, e4⟩ := tm_em angle
  show (T_number_Cosine angle times).run = _
  unfold T_number_Cosine
  refine (r_bs (k_between _ _ _)).trans ?_
  by_cases h1 : -1000000000 ≤ angle ∧ angle ≤ 1000000000
  · refine (br_f (nd h1)).trans ?_
    refine (q_of rfl).trans ?_
    rw [w64' (x := angle.tmod 1296000 + 324000) (by omega) (by omega)]
    refine (r_bs (k_Sine_e (fun h2 => h ⟨h1, h2.2⟩))).trans ?_
    exact r_ret _
  · exact (br_t (nd' h1)).trans (r_ret _)
/-! ### The reference -/
theorem k_ModT {n : Int} (h1 : -4000000000 ≤ n) (h2 : n ≤ 4000000000) : base_Mod n 1296000 = some ((n % 1296000, ()), ()) := by
  obtain ⟨e1, e2, e3, e4⟩ := tm_em n
  show (T_base_Mod n 1296000).run = _
  unfold T_base_Mod
  refine (q_of rfl).trans ?_
  by_cases h : n.tmod 1296000 < 0
  · refine (br_t (decide_eq_true h)).trans ?_
    rw [w64' (x := n.tmod 1296000 + 1296000) (by omega) (by omega), e1 h]
    exact r_ret _
  · refine (br_f (decide_eq_false h)).trans ?_
    rw [e2 (by omega)]
    exact r_ret _
theorem RQ_b {c : Int} (h0 : 0 ≤ c) (h1 : c ≤ 324000) : -43 ≤ RQ c ∧ RQ c ≤ 1000000043 := by
  have := PQ_RQ h0 h1
  have := PQ_b h0 h1
  omega
theorem RQ_b' (a : Int) : -1000000043 ≤ ext RQ a ∧ ext RQ a ≤ 1000000043 :=
  ext_b (M := 1000000043) (fun c h0 h1 => by have := RQ_b h0 h1; omega) a
theorem min_max' (a b : Int) : (if true = true then min a b else max a b) = min a b := if_pos rfl
theorem k_rSine {n : Int} (h1 : -4000000000 ≤ n) (h2 : n ≤ 4000000000) : ref01xSine n = some ((ext RQ n, ()), ()) := by
  show (T_ref01xSine n).run = _
  unfold T_ref01xSine
  refine (r_bs (k_ModT h1 h2)).trans ?_
  have hm0 : 0 ≤ n % 1296000 := by omega
  have hm1 : n % 1296000 < 1296000 := by omega
  refine (q_of rfl).trans ?_
  refine (q_of rfl).trans ?_
  refine (q_of rfl).trans ?_
  dsimp only
  unfold ext
  generalize n % 1296000 = b at *
  rw [Int.tdiv_eq_ediv_of_nonneg hm0, Int.tmod_eq_emod_of_nonneg hm0, w64' (x := b / 324000) (by omega) (by omega), Int.tmod_eq_emod_of_nonneg (show 0 ≤ b / 324000 by omega), w64' (x := 324000 - b % 324000) (by omega) (by omega), w64' (x := 324000 - (324000 - b % 324000)) (by omega) (by omega)]
  have tail : ∀ {c : Int} {e : Int}, 0 ≤ c → c ≤ 324000 → (c ≤ 162000 → min c (324000 - c) = c ∧ RQ c = RS c) ∧ (162000 < c → min c (324000 - c) = 324000 - c ∧ RQ c = RC (324000 - c)) := by
    intro c e h0 h1
    unfold RQ
    exact ⟨fun h => ⟨by omega, if_pos h⟩, fun h => ⟨by omega, if_neg (by omega)⟩⟩
  by_cases ho : b / 324000 % 2 = 1
  · refine (br_t (decide_eq_true ho)).trans ?_
    rw [min_max']
    have hc := tail (c := 324000 - b % 324000) (e := 0) (by omega) (by omega)
    generalize hcc : 324000 - b % 324000 = c at *
    have hb := RQ_b (c := c) (by omega) (by omega)
    by_cases hl : c ≤ 162000
    · obtain ⟨m1, m2⟩ := hc.1 hl
      rw [m1]
      rw [m2] at hb
      refine (r_bs (k_series (by omega) (by omega))).trans ?_
      refine (br_f (decide_eq_false (by omega))).trans ?_
      by_cases ht : 2 ≤ b / 324000
      · refine (br_t (decide_eq_true ht)).trans ?_
        refine (r_ret _).trans ?_
        dsimp only
        rw [w64' (x := 0 - RS c) (by omega) (by omega), if_neg (by omega), if_neg (by omega), if_neg (by omega), show 1296000 - b = c by omega, m2, Int.zero_sub]
      · refine (br_f (decide_eq_false ht)).trans ?_
        refine (r_ret _).trans ?_
        dsimp only
        by_cases hq : b ≤ 324000
        · rw [if_pos hq, show b = c by omega, m2]
        · rw [if_neg hq, if_pos (by omega), show 648000 - b = c by omega, m2]
    · obtain ⟨m1, m2⟩ := hc.2 (by omega)
      rw [m1]
      rw [m2] at hb
      refine (r_bs (k_series (by omega) (by omega))).trans ?_
      refine (br_t (decide_eq_true (by omega))).trans ?_
      refine (r_bs (k_series (by omega) (by omega))).trans ?_
      by_cases ht : 2 ≤ b / 324000
      · refine (br_t (decide_eq_true ht)).trans ?_
        refine (r_ret _).trans ?_
        dsimp only
        rw [w64' (x := 0 - RC (324000 - c)) (by omega) (by omega), if_neg (by omega), if_neg (by omega)]
        by_cases hq : b ≤ 972000
        · rw [if_pos hq, show b - 648000 = c by omega, m2, Int.zero_sub]
        · rw [if_neg hq, show 1296000 - b = c by omega, m2, Int.zero_sub]
      · refine (br_f (decide_eq_false ht)).trans ?_
        refine (r_ret _).trans ?_
        dsimp only
        by_cases hq : b ≤ 324000
        · rw [if_pos hq, show b = c by omega, m2]
        · rw [if_neg hq, if_pos (by omega), show 648000 - b = c by omega, m2]
  · refine (br_f (decide_eq_false ho)).trans ?_
    rw [min_max']
    have hc := tail (c := b % 324000) (e := 0) (by omega) (by omega)
    generalize hcc : b % 324000 = c at *
    have hb := RQ_b (c := c) (by omega) (by omega)
    by_cases hl : c ≤ 162000
    · obtain ⟨m1, m2⟩ := hc.1 hl
      rw [m1]
      rw [m2] at hb
      refine (r_bs (k_series (by omega) (by omega))).trans ?_
      refine (br_f (decide_eq_false (by omega))).trans ?_
      by_cases ht : 2 ≤ b / 324000
      · refine (br_t (decide_eq_true ht)).trans ?_
        refine (r_ret _).trans ?_
        dsimp only
        rw [w64' (x := 0 - RS c) (by omega) (by omega), if_neg (by omega), if_neg (by omega), if_pos (by omega), show b - 648000 = c by omega, m2, Int.zero_sub]
      · refine (br_f (decide_eq_false ht)).trans ?_
        refine (r_ret _).trans ?_
        dsimp only
        rw [if_pos (by omega), show b = c by omega, m2]
    · obtain ⟨m1, m2⟩ := hc.2 (by omega)
      rw [m1]
      rw [m2] at hb
      refine (r_bs (k_series (by omega) (by omega))).trans ?_
      refine (br_t (decide_eq_true (by omega))).trans ?_
      refine (r_bs (k_series (by omega) (by omega))).trans ?_
      by_cases ht : 2 ≤ b / 324000
      · refine (br_t (decide_eq_true ht)).trans ?_
        refine (r_ret _).trans ?_
        dsimp only
        rw [w64' (x := 0 - RC (324000 - c)) (by omega) (by omega), if_neg (by omega), if_neg (by omega), if_pos (by omega), show b - 648000 = c by omega, m2, Int.zero_sub]
      · refine (br_f (decide_eq_false ht)).trans ?_
        refine (r_ret _).trans ?_
        dsimp only
        rw [if_pos (by omega), show b = c by omega, m2]
theorem k_rCosine {n : Int} (h1 : -2000000000 ≤ n) (h2 : n ≤ 2000000000) : ref01xCosine n = some ((ext RQ (n + 324000), ()), ()) := by
  show (T_ref01xCosine n).run = _
  unfold T_ref01xCosine
  rw [w64' (x := n + 324000) (by omega) (by omega)]
  refine (r_bs (k_rSine (by omega) (by omega))).trans ?_
  exact r_ret _
theorem ext_near {g h : Int → Int} {M : Int} (hg : ∀ c, 0 ≤ c → c ≤ 324000 → -M ≤ g c - h c ∧ g c - h c ≤ M) (a : Int) : -M ≤ ext g a - ext h a ∧ ext g a - ext h a ≤ M := by
  unfold ext
  split
  · exact hg _ (by omega) (by omega)
  · split
    · exact hg _ (by omega) (by omega)
    · split
      · have := hg (a % 1296000 - 648000) (by omega) (by omega); omega
      · have := hg (1296000 - a % 1296000) (by omega) (by omega); omega
theorem PR (a : Int) : -30 ≤ ext PQ a - ext RQ a ∧ ext PQ a - ext RQ a ≤ 30 := ext_near (fun c h0 h1 => PQ_RQ h0 h1) a
/-- The range of a sine: sizes. -/
theorem range_b {t n : Int} (t1 : 1 ≤ t) (t2 : t ≤ 1000000) (n1 : -1000000013 ≤ n) (n2 : n ≤ 1000000013) :
    (loS t n * 1000000000 ≤ t * (n - 50) ∧ t * (n - 50) < loS t n * 1000000000 + 1000000000) ∧ (t * (n + 50) ≤ hiS t n * 1000000000 ∧ hiS t n * 1000000000 < t * (n + 50) + 1000000000) ∧
    -1000002 ≤ loS t n ∧ loS t n ≤ hiS t n ∧ hiS t n ≤ 1000002 ∧ hiS t n - loS t n ≤ 2 := by
  have m1 := mul_bd (a := t) (b := n - 50) (m := 1000000) (n := 1000000100) (by omega) (by omega) (by omega) (by omega)
  have m2 := mul_bd (a := t) (b := n + 50) (m := 1000000) (n := 1000000100) (by omega) (by omega) (by omega) (by omega)
  have e : t * (n + 50) = t * (n - 50) + 100 * t := by rw [Int.mul_add, Int.mul_sub]; omega
  unfold loS hiS
  rw [e] at *
  generalize t * (n - 50) = w at *
  omega
theorem k_Holds {t n m : Int} (t1 : 1 ≤ t) (t2 : t ≤ 1000000) (n1 : -1000000013 ≤ n) (n2 : n ≤ 1000000013) (h : -30 ≤ n - m ∧ n - m ≤ 30) : ref01xHolds (loS t n, hiS t n) m t = some ((true, ()), ()) := by
  obtain ⟨⟨a1, a2⟩, ⟨a3, a4⟩, a5, a6, a7, a8⟩ := range_b t1 t2 n1 n2
  have m1 := mul_bd (a := t) (b := m + 40) (m := 1000000) (n := 1000000200) (by omega) (by omega) (by omega) (by omega)
  have m2 := mul_bd (a := t) (b := m - 40) (m := 1000000) (n := 1000000200) (by omega) (by omega) (by omega) (by omega)
  have l1 : t * (n - 50) ≤ t * (m + 40) := Int.mul_le_mul_of_nonneg_left (by omega) (by omega)
  have l2 : t * (m - 40) ≤ t * (n + 50) := Int.mul_le_mul_of_nonneg_left (by omega) (by omega)
  show (T_ref01xHolds (loS t n, hiS t n) m t).run = _
  unfold T_ref01xHolds
  refine (r_bs (k_Within _ _ _)).trans ?_
  refine (br_f (nd (show -2000000 ≤ loS t n ∧ loS t n ≤ hiS t n by omega))).trans ?_
  refine (br_f (decide_eq_false (show ¬ 2000000 < hiS t n by omega))).trans ?_
  dsimp only
  rw [w64' (x := hiS t n - loS t n) (by omega) (by omega), w64' (x := loS t n * 1000000000) (by omega) (by omega), w64' (x := m + 40) (by omega) (by omega), w64' (x := m - 40) (by omega) (by omega), w64' (x := t * (m + 40)) (by omega) (by omega), w64' (x := t * (m - 40)) (by omega) (by omega), w64' (x := hiS t n * 1000000000) (by omega) (by omega)]
  refine (br_f (decide_eq_false (by omega))).trans ?_
  refine (br_t (decide_eq_true (by omega))).trans ?_
  rw [decide_eq_true (show t * (m - 40) ≤ hiS t n * 1000000000 by omega)]
  exact r_ret _
end Go.Ab
