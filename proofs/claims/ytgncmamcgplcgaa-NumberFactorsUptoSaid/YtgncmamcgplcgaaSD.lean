/- Roots and changes: at a root the changes fall by one, elsewhere they do not; where the polynomial changes its sign they fall. -/
import Derived.Test.YtgncmamcgplcgaaSC
namespace Go.Ab
set_option linter.unusedVariables false
set_option linter.unusedSimpArgs false
set_option linter.unusedSectionVars false
set_option maxRecDepth 100000
/-! ### Counting -/
theorem Piece.flat {s t : Nat → Int} {m : Nat} (h : Piece s t m) (h0 : s 0 = t 0) (h0' : s 0 ≠ 0) : (cgS t (m + 1)).1 = (cgS s (m + 1)).1 := by
  have key : ∀ n k, k < n → k ≤ m → s k = t k → s k ≠ 0 → (cgS t (k + 1)).1 = (cgS s (k + 1)).1 := by
    intro n
    induction n with
    | zero => intro k h1; omega
    | succ n ih =>
      intro k hk hm e0 e1
      match k with
      | 0 => simp [cgS]
      | 1 =>
        have i : (cgS t 1).1 = (cgS s 1).1 := ih 0 (by omega) (by omega) h0 h0'
        rw [cg_step (k := 1), cg_step (s := s) (k := 1), cg_stable h0', cg_stable (s := t) (k := 0) (by rw [← h0]; exact h0'), ← e0, ← h0, i]
      | k + 2 =>
        by_cases st : s (k + 1) = t (k + 1) ∧ s (k + 1) ≠ 0
        · have i : (cgS t (k + 2)).1 = (cgS s (k + 2)).1 := ih (k + 1) (by omega) (by omega) st.1 st.2
          rw [cg_step (k := k + 2), cg_step (s := s) (k := k + 2), cg_stable st.2, cg_stable (s := t) (k := k + 1) (by rw [← st.1]; exact st.2), ← e0, ← st.1, i]
        · have md := h.mid k hm st
          have st0 : s k = t k ∧ s k ≠ 0 := by
            rcases h.adj k (by omega) with q | q
            · exact q
            · exact absurd q st
          have i := ih k (by omega) (by omega) st0.1 st0.2
          have c1 := (cg_between h.hs st0.2 md).1
          have c2 := (cg_between h.ht (k := k) (by rw [← st0.1]; exact st0.2) (by rw [← e0, ← st0.1]; exact md)).1
          show (cgS t (k + 3)).1 = (cgS s (k + 3)).1
          rw [c1, c2, i]
  exact key (m + 1) m (by omega) (Nat.le_refl _) h.last.1 h.last.2
theorem Piece.strict {s t : Nat → Int} {m : Nat} (h : Piece s t m) (hm : 1 ≤ m) (h1 : s 1 = t 1) (h1' : s 1 ≠ 0) (n0 : s 1 * s 0 < 0) (p0 : ¬ t 1 * t 0 < 0) : (cgS s (m + 1)).1 = (cgS t (m + 1)).1 + 1 := by
  have key : ∀ n k, k < n → 1 ≤ k → k ≤ m → s k = t k → s k ≠ 0 → (cgS s (k + 1)).1 = (cgS t (k + 1)).1 + 1 := by
    intro n
    induction n with
    | zero => intro k h1; omega
    | succ n ih =>
      intro k hk hk1 hm e0 e1
      match k with
      | 0 => omega
      | 1 =>
        have zs : (cgS s 1).1 = 0 := by simp [cgS]
        have zt : (cgS t 1).1 = 0 := by simp [cgS]
        have ps : (cgS s 1).2 = s 0 := by simp [cgS]; omega
        have pt : (cgS t 1).2 = t 0 := by simp [cgS]; omega
        rw [cg_step (k := 1), cg_step (s := t) (k := 1), zs, zt, ps, pt, if_pos n0, if_neg p0]
      | k + 2 =>
        by_cases st : s (k + 1) = t (k + 1) ∧ s (k + 1) ≠ 0
        · have i : (cgS s (k + 2)).1 = (cgS t (k + 2)).1 + 1 := ih (k + 1) (by omega) (by omega) (by omega) st.1 st.2
          rw [cg_step (s := t) (k := k + 2), cg_step (s := s) (k := k + 2), cg_stable st.2, cg_stable (s := t) (k := k + 1) (by rw [← st.1]; exact st.2), ← e0, ← st.1]
          split <;> omega
        · by_cases hk0 : k = 0
          · subst hk0
            exact absurd ⟨h1, h1'⟩ st
          have md := h.mid k hm st
          have st0 : s k = t k ∧ s k ≠ 0 := by
            rcases h.adj k (by omega) with q | q
            · exact q
            · exact absurd q st
          have i := ih k (by omega) (by omega) (by omega) st0.1 st0.2
          have c1 := (cg_between h.hs st0.2 md).1
          have c2 := (cg_between h.ht (k := k) (by rw [← st0.1]; exact st0.2) (by rw [← e0, ← st0.1]; exact md)).1
          show (cgS s (k + 3)).1 = (cgS t (k + 3)).1 + 1
          rw [c1, c2, i]
  exact key (m + 1) m (by omega) hm (Nat.le_refl _) h.last.1 h.last.2
/-- Even changes: the first sign is the last one. -/
theorem cg_parity {s : Nat → Int} (hs : ∀ i, Sgn (s i)) (h0 : s 0 ≠ 0) : ∀ n, (cgS s (n + 1)).2 = if (cgS s (n + 1)).1 % 2 = 0 then s 0 else -s 0
  | 0 => by simp [cgS, h0]
  | n + 1 => by
    have ih := cg_parity hs h0 n
    have b := (cgS_bd hs (n + 1)).1
    rw [cgS]
    dsimp only
    have a := hs (n + 1)
    have a0 := hs 0
    generalize (cgS s (n + 1)).1 = u at *
    generalize (cgS s (n + 1)).2 = w at *
    rw [ih]
    rcases a0 with q0 | q0 | q0
    · exact absurd q0 h0
    · rcases a with q | q | q <;> rw [q, q0] <;> repeat' split
      all_goals omega
    · rcases a with q | q | q <;> rw [q, q0] <;> repeat' split
      all_goals omega
/-! ### Small facts about polynomials -/
theorem vanish {c C : Rat} (hC : 0 ≤ C) (h : ∃ e, 0 < e ∧ ∀ t, 0 < t → t ≤ e → c ≤ t * C) : c ≤ 0 := by
  obtain ⟨e, he, h⟩ := h
  by_cases q : c ≤ 0
  · exact q
  exfalso
  have hc : 0 < c := by grind
  have hd : 0 < c / (2 * (C + 1)) := rdiv_pos hc (by grind)
  have hv : c / (2 * (C + 1)) * (2 * (C + 1)) = c := by grind
  by_cases k : e ≤ c / (2 * (C + 1))
  · have h1 := h e he Rat.le_refl
    have h2 := Rat.mul_le_mul_of_nonneg_right k (show 0 ≤ C by grind)
    generalize c / (2 * (C + 1)) = u at *
    have : u * C ≤ u * (C + 1) := Rat.mul_le_mul_of_nonneg_left (by grind) (by grind)
    grind
  · have h1 := h _ hd (by grind)
    generalize c / (2 * (C + 1)) = u at *
    grind
/-- Where the slope is nowhere negative a polynomial does not fall. -/
theorem no_fall {l : List Rat} {a b : Rat} (hab : a ≤ b) (h : ∀ z, a ≤ z → z ≤ b → 0 ≤ ev (pd l) z) : ev l a ≤ ev l b := by
  by_cases hq : a = b
  · rw [hq]; exact Rat.le_refl
  have hlt : a < b := by grind
  have hZ : 0 ≤ rabs a + rabs b := by have := rabs_le a; have := rabs_le b; grind
  have x1 : -(rabs a + rabs b) ≤ a := by have := rabs_le a; have := rabs_le b; grind
  have y1 : b ≤ rabs a + rabs b := by have := rabs_le a; have := rabs_le b; grind
  generalize rabs a + rabs b = Z at *
  have hC := cc_nn hZ l
  by_cases q : ev l a ≤ ev l b
  · exact q
  exfalso
  have hd : 0 < ev l a - ev l b := by grind
  obtain ⟨n, hn, hN⟩ := arch (cc Z l * ((b - a) * (b - a)) / (ev l a - ev l b))
  have hs := step_nn hlt hn
  have key : ∀ h0, 0 ≤ h0 → ∀ j : Nat, gp a h0 j ≤ b → ev l a - ((j : Int) : Rat) * (cc Z l * (h0 * h0)) ≤ ev l (gp a h0 j) := by
    intro h0 hh j
    induction j with
    | zero =>
      intro _
      have : (((0 : Nat) : Int) : Rat) = 0 := rfl
      rw [this]; simp only [gp]; grind
    | succ j ih =>
      intro hj
      have g1 : gp a h0 j ≤ gp a h0 (j + 1) := gp_le hh (by omega)
      have g0 := gp_ge (x := a) hh j
      have i := ih (by grind)
      have t := (taylor (Z := Z) (z := gp a h0 j) (e := h0) (by grind) (by grind) (by grind) (by rw [gp] at hj; grind) l).1
      have d := h (gp a h0 j) g0 (by grind)
      have d' := Rat.mul_nonneg hh d
      have e1 : (((j + 1 : Nat) : Int) : Rat) = ((j : Int) : Rat) + 1 := by
        rw [show ((j + 1 : Nat) : Int) = (j : Int) + 1 by omega, Rat.intCast_add]; rfl
      rw [e1, gp]
      grind
  have k := key ((b - a) / ((n : Int) : Rat)) (by grind) n (by rw [gp_end hn]; exact Rat.le_refl)
  rw [gp_end hn] at k
  have hN0 := cast_pos (show (0 : Int) < (n : Int) by omega)
  generalize ((n : Int) : Rat) = N at *
  have e2 : N * (cc Z l * ((b - a) / N * ((b - a) / N))) = cc Z l * ((b - a) * (b - a)) / N := by grind
  rw [e2] at k
  generalize cc Z l * ((b - a) * (b - a)) = W at *
  have k1 : ev l a - ev l b ≤ W / N := by grind
  generalize ev l a - ev l b = D at *
  have k2 := Rat.mul_le_mul_of_nonneg_right k1 (show 0 ≤ N by grind)
  have e3 : W / N * N = W := by grind
  rw [e3] at k2
  have k3 := Rat.mul_lt_mul_of_pos_right hN hd
  have e4 : W / D * D = W := by grind
  rw [e4] at k3
  grind
/-- A polynomial whose square stays away from 0 keeps its sign. -/
theorem no_cross {l : List Rat} {a b c : Rat} (hab : a ≤ b) (hc : 0 < c) (h : ∀ z, a ≤ z → z ≤ b → c ≤ ev l z * ev l z) : 0 < ev l a * ev l b := by
  by_cases hq : a = b
  · rw [hq]
    have := h b hab Rat.le_refl
    grind
  have hlt : a < b := by grind
  have hZ : 0 ≤ rabs a + rabs b := by have := rabs_le a; have := rabs_le b; grind
  have x1 : -(rabs a + rabs b) ≤ a := by have := rabs_le a; have := rabs_le b; grind
  have y1 : b ≤ rabs a + rabs b := by have := rabs_le a; have := rabs_le b; grind
  generalize rabs a + rabs b = Z at *
  have hL := lip_nn hZ l
  obtain ⟨n, hn, hN⟩ := arch ((b - a) * lip Z l * ((b - a) * lip Z l) / c)
  have hs := step_nn hlt hn
  have hfine : (b - a) / ((n : Int) : Rat) * lip Z l * ((b - a) / ((n : Int) : Rat) * lip Z l) < c := by
    have hN0 := cast_pos (show (0 : Int) < (n : Int) by omega)
    have hN1 := Rat.intCast_le_intCast.2 (show (1 : Int) ≤ (n : Int) by omega)
    rw [cast1] at hN1
    generalize ((n : Int) : Rat) = N at *
    have e : (b - a) / N * lip Z l * ((b - a) / N * lip Z l) * (N * N) = (b - a) * lip Z l * ((b - a) * lip Z l) := by grind
    have hW := sqn ((b - a) * lip Z l)
    generalize (b - a) * lip Z l * ((b - a) * lip Z l) = W at *
    generalize (b - a) / N * lip Z l * ((b - a) / N * lip Z l) = V at *
    have k3 := Rat.mul_lt_mul_of_pos_right hN hc
    have e4 : W / c * c = W := by grind
    rw [e4] at k3
    by_cases q : V < c
    · exact q
    · have k4 := Rat.mul_nonneg (show 0 ≤ V - c by grind) (sqn N)
      have k5 := Rat.mul_nonneg (show 0 ≤ N - 1 by grind) (show 0 ≤ N * c by exact Rat.mul_nonneg (by grind) (by grind))
      grind
  have hend := gp_end (x := a) (y := b) hn
  generalize (b - a) / ((n : Int) : Rat) = h0 at *
  have key : ∀ j : Nat, gp a h0 j ≤ b → 0 < ev l a * ev l (gp a h0 j) := by
    intro j
    induction j with
    | zero => intro _; have := h a Rat.le_refl hab; simp only [gp]; grind
    | succ j ih =>
      intro hj
      have hh : 0 ≤ h0 := by grind
      have g1 : gp a h0 j ≤ gp a h0 (j + 1) := gp_le hh (by omega)
      have g0 := gp_ge (x := a) hh j
      have i := ih (by grind)
      obtain ⟨l1, l2⟩ := ev_lip2 (Z := Z) (a := gp a h0 j) (b := gp a h0 (j + 1)) (by grind) g1 (by grind) l
      have eh : gp a h0 (j + 1) - gp a h0 j = h0 := by rw [gp]; grind
      rw [eh] at l1 l2
      have s1 := sq_bdd l1 l2
      have c1 := h (gp a h0 j) g0 (by grind)
      have c2 := h (gp a h0 (j + 1)) (by grind) hj
      generalize ev l (gp a h0 (j + 1)) = w at *
      generalize ev l (gp a h0 j) = v at *
      generalize ev l a = u at *
      -- v w > 0
      have vw : 0 < v * w := by
        by_cases q : 0 < v * w
        · exact q
        · grind
      have : 0 < (u * v) * (v * w) := Rat.mul_pos i vw
      by_cases q : 0 < u * w
      · exact q
      · have := Rat.mul_nonneg (sqn v) (show 0 ≤ -(u * w) by grind)
        grind
  have := key n (by rw [hend]; exact Rat.le_refl)
  rw [hend] at this
  exact this
/-! ### A root -/
/-- Just beside a root a polynomial and its slope have the same sign behind it, and opposite signs ahead of it. -/
theorem root_sides {p : List Rat} (hp : Nz p) {r : Rat} (hr : ev p r = 0) {b : Rat} (hb : b = 1 ∨ b = -1) :
    ∃ e, 0 < e ∧ ∀ t, 0 < t → t ≤ e → ev p (r + b * t) * ev p (r + b * t) < 2 * t * (b * (ev p (r + b * t) * ev (pd p) (r + b * t))) ∧ ev p (r + b * t) ≠ 0 := by
  have hb0 : b ≠ 0 := by rcases hb with h | h <;> rw [h] <;> decide
  have hl := hp.lead r hb0
  have hv : ∀ t, ev (pcomp r b p) t = ev p (r + b * t) := fun t => ev_pcomp r b p t
  have hd : ∀ t, ev (pd (pcomp r b p)) t = b * ev (pd p) (r + b * t) := fun t => pd_pcomp r b p t
  cases hc : pcomp r b p with
  | nil => rw [hc] at hl; exact absurd rfl hl
  | cons c l =>
    rw [hc] at hl hv hd
    have h0 : c = 0 := by
      have := hv 0
      rw [show r + b * 0 = r by grind, hr, ev] at this
      grind
    rw [lead, if_pos h0] at hl
    obtain ⟨e, he, hh⟩ := small_two (lead_small hl) (der_small (n := 1 / 2) (by grind) hl)
    refine ⟨e, he, fun t t1 t2 => ?_⟩
    obtain ⟨q1, q2⟩ := hh t t1 t2
    have v := hv t
    have d := hd t
    rw [pd_cons] at d
    rw [ev, h0] at v
    have hne : ev l t ≠ 0 := by intro h; rw [h] at q1; grind
    constructor
    · have e1 : b * (ev p (r + b * t) * ev (pd p) (r + b * t)) = ev p (r + b * t) * (b * ev (pd p) (r + b * t)) := by grind
      rw [e1, ← d, ← v]
      have w := Rat.mul_pos q1 q2
      generalize ev l t = x at *
      generalize ev (pd l) t = y at *
      generalize lead l = u at *
      have hu : 0 < u * u := by
        have := sqn u
        have : u * u ≠ 0 := by intro h; rcases Rat.mul_eq_zero.1 h with h | h <;> exact hl h
        grind
      have w2 : 0 < (u * u) * (x * (1 / 2 * x + t * y)) := by grind
      have w3 : 0 < x * (1 / 2 * x + t * y) := by
        by_cases q : 0 < x * (1 / 2 * x + t * y)
        · exact q
        · have := Rat.mul_nonneg (show 0 ≤ u * u by grind) (show 0 ≤ -(x * (1 / 2 * x + t * y)) by grind); grind
      have w4 := Rat.mul_pos (Rat.mul_pos t1 t1) w3
      grind
    · rw [← v]
      intro h
      rcases Rat.mul_eq_zero.1 (show t * ev l t = 0 by grind) with h | h
      · grind
      · exact hne h
section
variable {m : Nat} {g p : List Rat} {S Q : Nat → List Rat} {al : Nat → Rat} (h : Sturm m g p S Q al)
include h
theorem Sturm.pp (hm : 1 ≤ m) (z : Rat) : ev p z * ev (pd p) z = ev g z * ev g z * (ev (S 0) z * ev (S 1) z) := by
  rw [h.hp, h.hd hm]; grind
theorem pos_of {u v : Rat} (h : 0 < u * u * v) : 0 < v := by
  by_cases q : 0 < v
  · exact q
  · have := Rat.mul_nonneg (sqn u) (show 0 ≤ -v by grind); grind
theorem Sturm.mem0 (hm : 1 ≤ m) (hp : Nz p) {r : Rat} (hr : ev p r = 0) : ev (S 0) r = 0 := by
  obtain ⟨e, he, hh⟩ := root_sides hp hr (b := 1) (.inl rfl)
  have hZ : 0 ≤ rabs r + 1 := by have := rabs_le r; grind
  have x1 : -(rabs r + 1) ≤ r := by have := rabs_le r; grind
  have y1 : r + 1 ≤ rabs r + 1 := by have := rabs_le r; grind
  generalize rabs r + 1 = Z at *
  have B0 := bnd_nn hZ (S 0)
  have B1 := bnd_nn hZ (S 1)
  have L0 := lip_nn hZ (S 0)
  have key : ev (S 0) r * ev (S 0) r ≤ 0 := by
    refine vanish (C := 4 * (bnd Z (S 0) * bnd Z (S 1)) + 2 * (lip Z (S 0) * lip Z (S 0))) (by have := Rat.mul_nonneg B0 B1; have := Rat.mul_nonneg L0 L0; grind) ?_
    obtain ⟨e', he', hh'⟩ := small_two ⟨e, he, hh⟩ ⟨(1 : Rat), by decide, fun t _ (h : t ≤ 1) => h⟩
    refine ⟨e', he', fun t t1 t2 => ?_⟩
    obtain ⟨⟨q, _⟩, t3⟩ := hh' t t1 t2
    rw [show r + 1 * t = r + t by grind, h.pp hm, h.hp] at q
    have q2 : 0 < ev g (r + t) * ev g (r + t) * (2 * t * (ev (S 0) (r + t) * ev (S 1) (r + t)) - ev (S 0) (r + t) * ev (S 0) (r + t)) := by grind
    have q3 := pos_of h q2
    obtain ⟨b1, b2⟩ := ev_bnd2 (Z := Z) (z := r + t) (by grind) (by grind) (S 0)
    obtain ⟨b3, b4⟩ := ev_bnd2 (Z := Z) (z := r + t) (by grind) (by grind) (S 1)
    obtain ⟨m1, m2⟩ := mul_b b1 b2 b3 b4
    obtain ⟨l1, l2⟩ := ev_lip2 (Z := Z) (a := r) (b := r + t) x1 (by grind) (by grind) (S 0)
    rw [show r + t - r = t by grind] at l1 l2
    have s1 := sq_bdd l1 l2
    have t4 := Rat.mul_nonneg (show 0 ≤ t by grind) (show 0 ≤ bnd Z (S 0) * bnd Z (S 1) - ev (S 0) (r + t) * ev (S 1) (r + t) by grind)
    have t5 := Rat.mul_nonneg (Rat.mul_nonneg (show 0 ≤ t by grind) (show 0 ≤ 1 - t by grind)) (Rat.mul_nonneg L0 L0)
    have s2 := sqn (2 * ev (S 0) (r + t) - ev (S 0) r)
    generalize ev (S 0) (r + t) = u at *
    generalize ev (S 0) r = v at *
    generalize ev (S 1) (r + t) = w at *
    grind
  have := sqn (ev (S 0) r)
  rcases Rat.mul_eq_zero.1 (show ev (S 0) r * ev (S 0) r = 0 by grind) with h | h <;> exact h
/-- A step so fine that a piece of it holds. -/
theorem Sturm.fine {Z : Rat} (hZ : 0 ≤ Z) {d : Rat} (hd : 0 < d) : ∃ e, 0 < e ∧ ∀ t, 0 < t → t ≤ e → t * LL Z S m * KK Z Q al m * kp (KK Z Q al m) m < 1 ∧ t * LL Z S m < d := by
  have K1 := h.K1 hZ
  have Kp := kp_ge K1 m
  have L0 := h.L0 hZ
  have n1 : 0 ≤ LL Z S m * KK Z Q al m * kp (KK Z Q al m) m := Rat.mul_nonneg (Rat.mul_nonneg L0 (by grind)) (by grind)
  refine small_two ⟨1 / (LL Z S m * KK Z Q al m * kp (KK Z Q al m) m + 1), rdiv_pos (by decide) (by grind), fun t t1 t2 => ?_⟩ ⟨d / (LL Z S m + 1), rdiv_pos hd (by grind), fun t t1 t2 => ?_⟩
  · have e1 : t * LL Z S m * KK Z Q al m * kp (KK Z Q al m) m = t * (LL Z S m * KK Z Q al m * kp (KK Z Q al m) m) := by grind
    rw [e1]
    generalize LL Z S m * KK Z Q al m * kp (KK Z Q al m) m = W at *
    have := Rat.mul_le_mul_of_nonneg_right t2 (show 0 ≤ W + 1 by grind)
    have e2 : 1 / (W + 1) * (W + 1) = 1 := by grind
    grind
  · generalize LL Z S m = W at *
    have := Rat.mul_le_mul_of_nonneg_right t2 (show 0 ≤ W + 1 by grind)
    have e2 : d / (W + 1) * (W + 1) = d := by grind
    grind
/-- At a root the changes fall by one. -/
theorem Sturm.root (hm : 1 ≤ m) (hp : Nz p) {r : Rat} (hr : ev p r = 0) : ∃ e, 0 < e ∧ ∀ t, 0 < t → t ≤ e → chg S m (r - t) = chg S m (r + t) + 1 := by
  have h0 := h.mem0 hm hp hr
  have hZ : 0 ≤ rabs r + 1 := by have := rabs_le r; grind
  have x1 : -(rabs r + 1) ≤ r - 1 := by have := rabs_le r; grind
  have y1 : r + 1 ≤ rabs r + 1 := by have := rabs_le r; grind
  generalize rabs r + 1 = Z at *
  have K1 := h.K1 hZ
  have Kp := kp_ge K1 m
  have hd0 : 0 < 1 / kp (KK Z Q al m) m := rdiv_pos (by decide) (by grind)
  have hd1 : 1 / kp (KK Z Q al m) m * kp (KK Z Q al m) m = 1 := by grind
  have hbig : ev (S 1) r ≤ -(1 / kp (KK Z Q al m) m) ∨ 1 / kp (KK Z Q al m) m ≤ ev (S 1) r := by
    by_cases c1 : ev (S 1) r ≤ -(1 / kp (KK Z Q al m) m)
    · exact .inl c1
    · by_cases c2 : 1 / kp (KK Z Q al m) m ≤ ev (S 1) r
      · exact .inr c2
      · have := h.big hZ hd0 (show -Z ≤ r by grind) (show r ≤ Z by grind) (k := 0) (by omega) (by rw [h0]; grind) (by rw [h0]; grind) (by grind) (by grind)
        grind
  obtain ⟨e, he, hh⟩ := small_two (small_two (root_sides hp hr (b := 1) (.inl rfl)) (root_sides hp hr (b := -1) (.inr rfl))) (h.fine hZ hd0)
  obtain ⟨e', he', hh'⟩ := small_two ⟨e / 2, by grind, fun t (_ : 0 < t) (h : t ≤ e / 2) => h⟩ ⟨(1 : Rat), by decide, fun t _ (h : t ≤ 1) => h⟩
  refine ⟨e', he', fun t t1 t2 => ?_⟩
  obtain ⟨t3, t4⟩ := hh' t t1 t2
  obtain ⟨⟨⟨q1, _⟩, ⟨q2, _⟩⟩, _⟩ := hh t t1 (by grind)
  obtain ⟨_, f1, f2⟩ := hh (2 * t) (by grind) (by grind)
  rw [show r + 1 * t = r + t by grind, h.pp hm] at q1
  rw [show r + -1 * t = r - t by grind, h.pp hm] at q2
  have s1 := sqn (ev p (r + t))
  have s2 := sqn (ev p (r - t))
  have r1 : 0 < ev (S 0) (r + t) * ev (S 1) (r + t) := by
    refine pos_of h (u := ev g (r + t)) ?_
    by_cases c : 0 < ev g (r + t) * ev g (r + t) * (ev (S 0) (r + t) * ev (S 1) (r + t))
    · exact c
    · have := Rat.mul_nonneg (show 0 ≤ t by grind) (show 0 ≤ -(ev g (r + t) * ev g (r + t) * (ev (S 0) (r + t) * ev (S 1) (r + t))) by grind); grind
  have r2 : 0 < -(ev (S 0) (r - t) * ev (S 1) (r - t)) := by
    refine pos_of h (u := ev g (r - t)) ?_
    have e1 : ev g (r - t) * ev g (r - t) * -(ev (S 0) (r - t) * ev (S 1) (r - t)) = -(ev g (r - t) * ev g (r - t) * (ev (S 0) (r - t) * ev (S 1) (r - t))) := by grind
    rw [e1]
    by_cases c : 0 < -(ev g (r - t) * ev g (r - t) * (ev (S 0) (r - t) * ev (S 1) (r - t)))
    · exact c
    · have := Rat.mul_nonneg (show 0 ≤ t by grind) (show 0 ≤ ev g (r - t) * ev g (r - t) * (ev (S 0) (r - t) * ev (S 1) (r - t)) by grind); grind
  have pc := h.piece hZ (x := r - t) (y := r + t) (by grind) (by grind) (by grind) (by rw [show r + t - (r - t) = 2 * t by grind]; exact f1)
  have L0 := h.L0 hZ
  have lp := h.Lk hZ (k := 1) hm
  have lL := lip_nn hZ (S 1)
  obtain ⟨l1, l2⟩ := ev_lip2 (Z := Z) (a := r - t) (b := r) (by grind) (by grind) (by grind) (S 1)
  obtain ⟨l3, l4⟩ := ev_lip2 (Z := Z) (a := r) (b := r + t) (by grind) (by grind) (by grind) (S 1)
  rw [show r - (r - t) = t by grind] at l1 l2
  rw [show r + t - r = t by grind] at l3 l4
  have w := Rat.mul_nonneg (show 0 ≤ t by grind) (show 0 ≤ LL Z S m - lip Z (S 1) by grind)
  have w2 := Rat.mul_nonneg (show 0 ≤ t by grind) L0
  have st : sgR (ev (S 1) (r - t)) = sgR (ev (S 1) (r + t)) ∧ sgR (ev (S 1) (r - t)) ≠ 0 := by
    rcases hbig with c | c
    · rw [sgR_neg (show ev (S 1) (r - t) < 0 by grind), sgR_neg (show ev (S 1) (r + t) < 0 by grind)]; decide
    · rw [sgR_pos (show 0 < ev (S 1) (r - t) by grind), sgR_pos (show 0 < ev (S 1) (r + t) by grind)]; decide
  refine pc.strict hm st.1 st.2 ?_ ?_
  · show sgR (ev (S 1) (r - t)) * sgR (ev (S 0) (r - t)) < 0
    rw [← sgR_mul, sgR_neg (by grind)]; decide
  · show ¬ sgR (ev (S 1) (r + t)) * sgR (ev (S 0) (r + t)) < 0
    rw [← sgR_mul, sgR_pos (by grind)]; decide
end
end Go.Ab
