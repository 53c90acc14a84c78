/- Changes: at most one at a point; none where the polynomial stays away from 0; some where it changes its sign. The changes as a function of a fraction. -/
import Derived.Test.YtgncmamcgplcgaaSD
namespace Go.Ab
set_option linter.unusedVariables false
set_option linter.unusedSimpArgs false
set_option linter.unusedSectionVars false
set_option maxRecDepth 100000
theorem se_kh {K w B d : Rat} (hd : 0 < d) (hK : K * d = 8 * B) (hf : w * (8 * B) ≤ d) : K * w ≤ 1 := by
  by_cases q : K * w ≤ 1
  · exact q
  · have h1 := Rat.mul_pos (show 0 < K * w - 1 by grind) hd
    have h2 : (K * w - 1) * d = w * (K * d) - d := by grind
    rw [h2, hK] at h1
    grind
theorem se_key {K B d u v : Rat} (hd : 0 < d) (hK : K * d = 8 * B) (hK0 : 0 ≤ K) (b1 : -B ≤ v) (b2 : v ≤ B) (hu : u ≤ -(d / 2) ∨ d / 2 ≤ u) : -(K * (u * u)) ≤ 4 * (u * v) := by
  rcases hu with hu | hu
  · have w1 := Rat.mul_nonneg (show 0 ≤ -u by grind) (show 0 ≤ B + -v by grind)
    have w2 := Rat.mul_nonneg hK0 (Rat.mul_nonneg (show 0 ≤ -u by grind) (show 0 ≤ -u - d / 2 by grind))
    have w3 : K * (-u * (-u - d / 2)) = K * (u * u) + (K * d) * u / 2 := by grind
    rw [w3, hK] at w2
    grind
  · have w1 := Rat.mul_nonneg (show 0 ≤ u by grind) (show 0 ≤ B + v by grind)
    have w2 := Rat.mul_nonneg hK0 (Rat.mul_nonneg (show 0 ≤ u by grind) (show 0 ≤ u - d / 2 by grind))
    have w3 : K * (u * (u - d / 2)) = K * (u * u) - (K * d) * u / 2 := by grind
    rw [w3, hK] at w2
    grind
section
variable {m : Nat} {g p : List Rat} {S Q : Nat → List Rat} {al : Nat → Rat} (h : Sturm m g p S Q al)
include h
theorem Sturm.one (r : Rat) : ∃ e, 0 < e ∧ ∀ t, 0 < t → t ≤ e → chg S m (r - t) ≤ chg S m (r + t) + 1 := by
  have hZ : 0 ≤ rabs r + 1 := by have := rabs_le r; grind
  have x1 : -(rabs r + 1) ≤ r - 1 := by have := rabs_le r; grind
  have y1 : r + 1 ≤ rabs r + 1 := by have := rabs_le r; grind
  generalize rabs r + 1 = Z at *
  obtain ⟨e, he, hh⟩ := h.fine hZ (d := 1) (by decide)
  obtain ⟨e', he', hh'⟩ := small_two ⟨e / 2, by grind, fun t (_ : 0 < t) (h : t ≤ e / 2) => h⟩ ⟨(1 : Rat), by decide, fun t _ (h : t ≤ 1) => h⟩
  refine ⟨e', he', fun t t1 t2 => ?_⟩
  obtain ⟨t3, t4⟩ := hh' t t1 t2
  obtain ⟨f1, f2⟩ := hh (2 * t) (by grind) (by grind)
  have pc := (h.piece hZ (x := r - t) (y := r + t) (by grind) (by grind) (by grind) (by rw [show r + t - (r - t) = 2 * t by grind]; exact f1)).count
  exact pc.2
/-- A grid of fine pieces. -/
theorem Sturm.grid {x y d Z : Rat} (hZ : 0 ≤ Z) (hxy : x < y) (x1 : -Z ≤ x) (y1 : y ≤ Z) (hd : 0 < d) : ∃ (h0 : Rat) (n : Nat), 0 < h0 ∧ gp x h0 n = y ∧ h0 * LL Z S m < d ∧ (∀ j, j ≤ n → x ≤ gp x h0 j ∧ gp x h0 j ≤ y) ∧ (∀ j, j < n → gp x h0 (j + 1) - gp x h0 j = h0) ∧
    ∀ a b, x ≤ a → a < b → b ≤ y → b - a ≤ h0 → Piece (fun k => sgR (ev (S k) a)) (fun k => sgR (ev (S k) b)) m := by
  obtain ⟨e, he, hh⟩ := h.fine hZ hd
  obtain ⟨n, hn, hN⟩ := arch ((y - x) / e)
  have hs := step_nn hxy hn
  have hend := gp_end (x := x) (y := y) hn
  have hle : (y - x) / ((n : Int) : Rat) ≤ e := by
    have hN0 := cast_pos (show (0 : Int) < (n : Int) by omega)
    generalize ((n : Int) : Rat) = N at *
    have k3 := Rat.mul_lt_mul_of_pos_right hN he
    have e4 : (y - x) / e * e = y - x := by grind
    rw [e4] at k3
    by_cases q : (y - x) / N ≤ e
    · exact q
    · have k4 := Rat.mul_nonneg (show 0 ≤ (y - x) / N - e by grind) (show 0 ≤ N by grind)
      have e5 : (y - x) / N * N = y - x := by grind
      grind
  generalize (y - x) / ((n : Int) : Rat) = h0 at *
  refine ⟨h0, n, hs, hend, (hh h0 hs hle).2, fun j hj => ⟨gp_ge (by grind) j, ?_⟩, fun j hj => ?_, fun a b a1 ab b1 hab => ?_⟩
  · rw [← hend]; exact gp_le (by grind) hj
  · rw [gp]; grind
  · exact h.piece hZ (by grind) ab (by grind) (hh (b - a) (by grind) (by grind)).1
/-- Where the polynomial stays away from 0 the changes are the same. -/
theorem Sturm.flat {x y d : Rat} (hxy : x ≤ y) (hd : 0 < d) (hp : ∀ z, x ≤ z → z ≤ y → d ≤ ev p z ∨ ev p z ≤ -d) : chg S m y = chg S m x := by
  by_cases hq : x = y
  · rw [hq]
  have hlt : x < y := by grind
  have hZ : 0 ≤ rabs x + rabs y := by have := rabs_le x; have := rabs_le y; grind
  have x1 : -(rabs x + rabs y) ≤ x := by have := rabs_le x; have := rabs_le y; grind
  have y1 : y ≤ rabs x + rabs y := by have := rabs_le x; have := rabs_le y; grind
  generalize rabs x + rabs y = Z at *
  have hB := bnd_nn hZ g
  have hdd : 0 < d / (bnd Z g + 1) := rdiv_pos hd (by grind)
  have hdv : d / (bnd Z g + 1) * (bnd Z g + 1) = d := by grind
  -- the first member stays away from 0
  have hS : ∀ z, x ≤ z → z ≤ y → d / (bnd Z g + 1) ≤ ev (S 0) z ∨ ev (S 0) z ≤ -(d / (bnd Z g + 1)) := by
    intro z z1 z2
    by_cases c1 : d / (bnd Z g + 1) ≤ ev (S 0) z
    · exact .inl c1
    by_cases c2 : ev (S 0) z ≤ -(d / (bnd Z g + 1))
    · exact .inr c2
    exfalso
    obtain ⟨b1, b2⟩ := ev_bnd2 (Z := Z) (z := z) (by grind) (by grind) g
    have hpz := hp z z1 z2
    rw [h.hp] at hpz
    generalize d / (bnd Z g + 1) = u at *
    obtain ⟨m1, m2⟩ := mul_b b1 b2 (show -u ≤ ev (S 0) z by grind) (show ev (S 0) z ≤ u by grind)
    grind
  generalize d / (bnd Z g + 1) = u at *
  obtain ⟨h0, n, s0, hend, hf, hin, hst, hpc⟩ := h.grid hZ hlt x1 y1 hdd
  have L0 := h.L0 hZ
  have lp := h.Lk hZ (k := 0) (by omega)
  have key : ∀ j, j ≤ n → chg S m (gp x h0 j) = chg S m x := by
    intro j
    induction j with
    | zero => intro _; rfl
    | succ j ih =>
      intro hj
      have i := ih (by omega)
      obtain ⟨a1, a2⟩ := hin j (by omega)
      obtain ⟨a3, a4⟩ := hin (j + 1) hj
      have e := hst j (by omega)
      have pc := hpc (gp x h0 j) (gp x h0 (j + 1)) a1 (by grind) a4 (by grind)
      obtain ⟨l1, l2⟩ := ev_lip2 (Z := Z) (a := gp x h0 j) (b := gp x h0 (j + 1)) (by grind) (by grind) (by grind) (S 0)
      rw [e] at l1 l2
      have w := Rat.mul_nonneg (show 0 ≤ h0 by grind) (show 0 ≤ LL Z S m - lip Z (S 0) by grind)
      have c1 := hS _ a1 a2
      have c2 := hS _ a3 a4
      rw [← i]
      have st : sgR (ev (S 0) (gp x h0 j)) = sgR (ev (S 0) (gp x h0 (j + 1))) ∧ sgR (ev (S 0) (gp x h0 j)) ≠ 0 := by
        rcases c1 with c1 | c1
        · rw [sgR_pos (show 0 < ev (S 0) (gp x h0 j) by grind), sgR_pos (show 0 < ev (S 0) (gp x h0 (j + 1)) by grind)]; decide
        · rw [sgR_neg (show ev (S 0) (gp x h0 j) < 0 by grind), sgR_neg (show ev (S 0) (gp x h0 (j + 1)) < 0 by grind)]; decide
      exact pc.flat st.1 st.2
  have := key n (Nat.le_refl _)
  rw [hend] at this
  exact this
/-- The parity of the changes tells the first member's sign. -/
theorem Sturm.parity {z : Rat} (hz : ev (S 0) z ≠ 0) : sgR (ev (S 0) z) = if chg S m z % 2 = 0 then 1 else -1 := by
  have k := cg_parity (s := fun k => sgR (ev (S k) z)) (fun i => sgR_sgn _) (fun h => hz (sgR_0.1 h)) m
  have l : (cgS (fun k => sgR (ev (S k) z)) (m + 1)).2 = 1 := by
    have e1 : sgR (ev (S m) z) = 1 := by rw [h.hm]; exact sgR_pos (by decide)
    rw [cg_stable (s := fun k => sgR (ev (S k) z)) (k := m) (by show sgR (ev (S m) z) ≠ 0; rw [e1]; decide)]
    exact e1
  rw [l] at k
  unfold chg
  split at k
  · rename_i c; rw [if_pos c, k]
  · rename_i c; rw [if_neg c]; omega
/-- Where a polynomial changes its sign the changes fall. -/
theorem Sturm.signs (hm : 1 ≤ m) (hp : Nz p) {x y : Rat} (hxy : x < y) (hs : ev p x * ev p y < 0) : chg S m y < chg S m x := by
  have hmono := h.mono (show x ≤ y by grind)
  by_cases hc : chg S m y < chg S m x
  · exact hc
  exfalso
  have hconst : ∀ z, x ≤ z → z ≤ y → chg S m z = chg S m x := by
    intro z z1 z2
    have a := h.mono z1
    have b := h.mono z2
    omega
  -- no root
  have hnr : ∀ z, x ≤ z → z ≤ y → ev p z ≠ 0 := by
    intro z z1 z2 h0
    by_cases q1 : z = x
    · rw [q1] at h0; rw [h0] at hs; grind
    by_cases q2 : z = y
    · rw [q2] at h0; rw [h0] at hs; grind
    obtain ⟨e, he, hh⟩ := small_two (h.root hm hp h0) (small_two ⟨z - x, by grind, fun t (_ : 0 < t) (h : t ≤ z - x) => h⟩ ⟨y - z, by grind, fun t (_ : 0 < t) (h : t ≤ y - z) => h⟩)
    obtain ⟨a, b, c⟩ := hh e he Rat.le_refl
    have a1 := hconst (z - e) (by grind) (by grind)
    have a2 := hconst (z + e) (by grind) (by grind)
    omega
  have hn0 : ∀ z, x ≤ z → z ≤ y → ev (S 0) z ≠ 0 := by
    intro z z1 z2 h0
    exact hnr z z1 z2 (by rw [h.hp, h0]; grind)
  have hpar : ∀ z, x ≤ z → z ≤ y → sgR (ev (S 0) z) = if chg S m x % 2 = 0 then 1 else -1 := by
    intro z z1 z2
    rw [h.parity (hn0 z z1 z2), hconst z z1 z2]
  have hZ : 0 ≤ rabs x + rabs y := by have := rabs_le x; have := rabs_le y; grind
  have x1 : -(rabs x + rabs y) ≤ x := by have := rabs_le x; have := rabs_le y; grind
  have y1 : y ≤ rabs x + rabs y := by have := rabs_le x; have := rabs_le y; grind
  generalize rabs x + rabs y = Z at *
  have K1 := h.K1 hZ
  have Kp := kp_ge K1 m
  have L0 := h.L0 hZ
  have hd0 : 0 < 1 / kp (KK Z Q al m) m := rdiv_pos (by decide) (by grind)
  have hd1 : 1 / kp (KK Z Q al m) m * kp (KK Z Q al m) m = 1 := by grind
  generalize hdd : 1 / kp (KK Z Q al m) m = d at *
  have B1 := bnd_nn hZ (S 1)
  -- the step: below d / 2 in changes, and below 1 / (4 M)
  have step : ∀ a b, x ≤ a → a ≤ b → b ≤ y → (b - a) * LL Z S m ≤ d / 2 → (b - a) * (8 * bnd Z (S 1)) ≤ d → 0 < ev p a * ev p b := by
    intro a b a1 ab b1 hf1 hf2
    have lipk : ∀ k, k ≤ m → ∀ w, a ≤ w → w ≤ b → -(d / 2) ≤ ev (S k) w - ev (S k) a ∧ ev (S k) w - ev (S k) a ≤ d / 2 := by
      intro k hk w w1 w2
      obtain ⟨l1, l2⟩ := ev_lip2 (Z := Z) (a := a) (b := w) (by grind) w1 (by grind) (S k)
      have u := Rat.mul_nonneg (show 0 ≤ w - a by grind) (show 0 ≤ LL Z S m - lip Z (S k) by have := h.Lk hZ hk; grind)
      have v := Rat.mul_nonneg (show 0 ≤ b - w by grind) L0
      constructor <;> grind
    have sq : ∀ z, x ≤ z → z ≤ y → 0 < ev p z * ev p z := by
      intro z z1 z2
      have := sqn (ev p z)
      have : ev p z * ev p z ≠ 0 := by
        intro h; rcases Rat.mul_eq_zero.1 h with h | h <;> exact hnr z z1 z2 h
      grind
    by_cases big : ev (S 1) a ≤ -d ∨ d ≤ ev (S 1) a
    · -- the product of the polynomial and its slope keeps its sign
      have hsg : (∀ z, a ≤ z → z ≤ b → 0 ≤ ev p z * ev (pd p) z) ∨ (∀ z, a ≤ z → z ≤ b → ev p z * ev (pd p) z ≤ 0) := by
        have hpr : ∀ z, a ≤ z → z ≤ b → sgR (ev (S 0) z * ev (S 1) z) = (if chg S m x % 2 = 0 then 1 else -1) * (if d ≤ ev (S 1) a then 1 else -1) := by
          intro z z1 z2
          rw [sgR_mul, hpar z (by grind) (by grind)]
          congr 1
          have l := lipk 1 hm z z1 z2
          by_cases c : d ≤ ev (S 1) a
          · rw [if_pos c]; exact sgR_pos (by grind)
          · rw [if_neg c]
            have c' : ev (S 1) a ≤ -d := by
              rcases big with q | q
              · exact q
              · exact absurd q c
            exact sgR_neg (by grind)
        have hv : (if chg S m x % 2 = 0 then (1 : Int) else -1) * (if d ≤ ev (S 1) a then 1 else -1) = 1 ∨ (if chg S m x % 2 = 0 then (1 : Int) else -1) * (if d ≤ ev (S 1) a then 1 else -1) = -1 := by
          split <;> split <;> decide
        rcases hv with hv | hv
        · left; intro z z1 z2
          have := sgR_1.1 ((hpr z z1 z2).trans hv)
          rw [h.pp hm]
          exact Rat.mul_nonneg (sqn _) (by grind)
        · right; intro z z1 z2
          have := sgR_m1.1 ((hpr z z1 z2).trans hv)
          rw [h.pp hm]
          have := Rat.mul_nonneg (sqn (ev g z)) (show 0 ≤ -(ev (S 0) z * ev (S 1) z) by grind)
          grind
      rcases hsg with hsg | hsg
      · refine no_cross ab (sq a a1 (by grind)) (fun z z1 z2 => ?_)
        have := no_fall (l := pmul p p) z1 (fun w w1 w2 => by rw [pd_pmul]; have := hsg w w1 (by grind); grind)
        rw [ev_pmul, ev_pmul] at this
        exact this
      · refine no_cross ab (sq b (by grind) b1) (fun z z1 z2 => ?_)
        have := no_fall (l := psc (-1) (pmul p p)) z2 (fun w w1 w2 => by rw [pd_psc, pd_pmul]; have := hsg w (by grind) w2; grind)
        rw [ev_psc, ev_psc, ev_pmul, ev_pmul] at this
        grind
    · have big0 : ev (S 0) a ≤ -d ∨ d ≤ ev (S 0) a := by
        by_cases c1 : ev (S 0) a ≤ -d
        · exact .inl c1
        · by_cases c2 : d ≤ ev (S 0) a
          · exact .inr c2
          · have := h.big hZ hd0 (show -Z ≤ a by grind) (show a ≤ Z by grind) (k := 0) (by omega) (by grind) (by grind) (by show -d < ev (S 1) a; grind) (by show ev (S 1) a < d; grind)
            grind
      -- K = 8 B / d
      have hK : 8 * bnd Z (S 1) / d * d = 8 * bnd Z (S 1) := by grind
      have hK0 : 0 ≤ 8 * bnd Z (S 1) / d := by
        by_cases q : 0 ≤ 8 * bnd Z (S 1) / d
        · exact q
        · have := Rat.mul_pos (show 0 < -(8 * bnd Z (S 1) / d) by grind) hd0; grind
      generalize 8 * bnd Z (S 1) / d = K at *
      have hKh : K * (b - a) ≤ 1 := se_kh hd0 hK hf2
      have hF : ∀ z, a ≤ z → z ≤ b → 0 ≤ ev (pd (pmul [1 - K * a, K] (pmul p p))) z := by
        intro z z1 z2
        have e1 : ev (pd [1 - K * a, K]) z = K := by simp only [pd, pad, ev]; grind
        have e2 : ev [1 - K * a, K] z = 1 + K * (z - a) := by simp only [ev]; grind
        rw [pd_pmul, e1, e2, pd_pmul, ev_pmul, show ev (pd p) z * ev p z + ev p z * ev (pd p) z = 2 * (ev p z * ev (pd p) z) by grind, h.pp hm, h.hp]
        have l := lipk 0 (by omega) z z1 z2
        obtain ⟨b1, b2⟩ := ev_bnd2 (Z := Z) (z := z) (by grind) (by grind) (S 1)
        have k1 : K * (z - a) ≤ 1 := by
          have := Rat.mul_nonneg hK0 (show 0 ≤ b - z by grind); grind
        have k2 : 0 ≤ K * (z - a) := Rat.mul_nonneg hK0 (by grind)
        -- 4 |S0 S1| ≤ K S0 S0
        have key : -(K * (ev (S 0) z * ev (S 0) z)) ≤ 4 * (ev (S 0) z * ev (S 1) z) := by
          refine se_key hd0 hK hK0 b1 b2 ?_
          rcases big0 with q | q
          · left; grind
          · right; grind
        have g2 := sqn (ev g z)
        have n1 := Rat.mul_nonneg hK0 (sqn (ev (S 0) z))
        generalize K * (z - a) = T at *
        have n2 : 0 ≤ K * (ev (S 0) z * ev (S 0) z) + (1 + T) * (2 * (ev (S 0) z * ev (S 1) z)) := by
          by_cases q : 0 ≤ ev (S 0) z * ev (S 1) z
          · have := Rat.mul_nonneg (show 0 ≤ 1 + T by grind) q; grind
          · have := Rat.mul_nonneg (show 0 ≤ 1 - T by grind) (show 0 ≤ -(ev (S 0) z * ev (S 1) z) by grind); grind
        have n3 := Rat.mul_nonneg g2 n2
        generalize ev g z = G at *
        generalize ev (S 0) z = u at *
        generalize ev (S 1) z = v at *
        grind
      have pa := sq a a1 (by grind)
      refine no_cross ab (c := ev p a * ev p a / 2) (by grind) (fun z z1 z2 => ?_)
      have := no_fall (l := pmul [1 - K * a, K] (pmul p p)) z1 (fun w w1 w2 => hF w w1 (by grind))
      rw [ev_pmul, ev_pmul, ev_pmul, ev_pmul] at this
      have e1 : ev [1 - K * a, K] a = 1 := by simp only [ev]; grind
      have e2 : ev [1 - K * a, K] z = 1 + K * (z - a) := by simp only [ev]; grind
      rw [e1, e2] at this
      have k1 : K * (z - a) ≤ 1 := by
        have := Rat.mul_nonneg hK0 (show 0 ≤ b - z by grind); grind
      have k2 := Rat.mul_nonneg (show 0 ≤ 1 - K * (z - a) by grind) (sqn (ev p z))
      grind
  -- along a fine grid
  have hd2 : 0 < d / 2 := by grind
  have hdm : 0 < d / (8 * bnd Z (S 1) + 1) := rdiv_pos hd0 (by grind)
  have hdv : d / (8 * bnd Z (S 1) + 1) * (8 * bnd Z (S 1) + 1) = d := by grind
  obtain ⟨e, he, hfine⟩ := small_two (h.fine hZ hd2) ⟨d / (8 * bnd Z (S 1) + 1), hdm, fun t (_ : 0 < t) (h : t ≤ d / (8 * bnd Z (S 1) + 1)) => h⟩
  obtain ⟨n, hn, hN⟩ := arch ((y - x) / e)
  have hs' := step_nn hxy hn
  have hend := gp_end (x := x) (y := y) hn
  have hle : (y - x) / ((n : Int) : Rat) ≤ e := by
    have hN0 := cast_pos (show (0 : Int) < (n : Int) by omega)
    generalize ((n : Int) : Rat) = N at *
    have k3 := Rat.mul_lt_mul_of_pos_right hN he
    have e4 : (y - x) / e * e = y - x := by grind
    rw [e4] at k3
    by_cases q : (y - x) / N ≤ e
    · exact q
    · have k4 := Rat.mul_nonneg (show 0 ≤ (y - x) / N - e by grind) (show 0 ≤ N by grind)
      have e5 : (y - x) / N * N = y - x := by grind
      grind
  generalize (y - x) / ((n : Int) : Rat) = h0 at *
  obtain ⟨⟨_, f1⟩, f2⟩ := hfine h0 hs' hle
  have f3 : h0 * (8 * bnd Z (S 1)) ≤ d := by
    have := Rat.mul_le_mul_of_nonneg_right f2 (show 0 ≤ 8 * bnd Z (S 1) + 1 by grind)
    grind
  have key : ∀ j, j ≤ n → 0 < ev p x * ev p (gp x h0 j) := by
    intro j
    induction j with
    | zero =>
      intro _
      have := sqn (ev p x)
      have : ev p x * ev p x ≠ 0 := by
        intro h; rcases Rat.mul_eq_zero.1 h with h | h <;> exact hnr x Rat.le_refl (by grind) h
      simp only [gp]; grind
    | succ j ih =>
      intro hj
      have i := ih (by omega)
      have g1 : gp x h0 j ≤ gp x h0 (j + 1) := gp_le (by grind) (by omega)
      have g0 := gp_ge (x := x) (h := h0) (by grind) j
      have g2 : gp x h0 (j + 1) ≤ y := by rw [← hend]; exact gp_le (by grind) hj
      have eh : gp x h0 (j + 1) - gp x h0 j = h0 := by rw [gp]; grind
      have s := step (gp x h0 j) (gp x h0 (j + 1)) g0 g1 g2 (by rw [eh]; grind) (by rw [eh]; exact f3)
      generalize ev p (gp x h0 (j + 1)) = w at *
      generalize ev p (gp x h0 j) = v at *
      generalize ev p x = u at *
      have : 0 < (u * v) * (v * w) := Rat.mul_pos i s
      by_cases q : 0 < u * w
      · exact q
      · have := Rat.mul_nonneg (sqn v) (show 0 ≤ -(u * w) by grind)
        grind
  have := key n (Nat.le_refl _)
  rw [hend] at this
  grind
end
end Go.Ab
