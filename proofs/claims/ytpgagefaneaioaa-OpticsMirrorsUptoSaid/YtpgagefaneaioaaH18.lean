/- OpticsMirrors answers true. -/
import Derived.Test.YtpgagefaneaioaaH14
import Derived.Test.YtpgagefaneaioaaR1
import Derived.Test.YtpgagefaneaioaaQLOpticsMirrors
namespace Go.Ab
open Go
set_option maxRecDepth 1000000
set_option maxHeartbeats 1000000
set_option linter.unusedVariables false
set_option linter.unusedSimpArgs false
attribute [local congr] bindC iterC

/-- What a reflection is, in rational numbers. -/
theorem out_q {t0 t1 r n : Fr} (h0 : Small t0) (h1 : Small t1) (hr : Small r) (hn : Small n) (h : outL false t0 t1 r n = false) :
    ∃ F : Rat, F * (qr r * qr r + qr n * qr n) = 2 * (qr t0 * qr r + qr t1 * qr n) ∧ qr r * qr r + qr n * qr n ≠ 0 ∧ qr (outV t0 t1 r n).1 = qr t0 - F * qr r ∧ qr (outV t0 t1 r n).2 = qr t1 - F * qr n := by
  simp only [outL, Bool.or_eq_false_iff] at h
  obtain ⟨⟨⟨⟨⟨⟨⟨⟨⟨⟨⟨⟨_, a1⟩, a2⟩, a3⟩, a4⟩, a5⟩, a6⟩, a7⟩, a8⟩, a9⟩, a10⟩, a11⟩, a12⟩ := h
  have s2 : Small (2, 1) := small_one (by decide) (by decide)
  have eD : qr (dotV t0 t1 r n) = qr t0 * qr r + qr t1 * qr n := by
    unfold dotV
    rw [qr_add (small_mulv _ _) (small_mulv _ _) a3, qr_mul h0 hr a1, qr_mul h1 hn a2]
  have eN : qr (dotV r n r n) = qr r * qr r + qr n * qr n := by
    unfold dotV
    rw [qr_add (small_mulv _ _) (small_mulv _ _) a7, qr_mul hr hr a5, qr_mul hn hn a6]
  have eM : qr (mulv (2, 1) (dotV t0 t1 r n)) = 2 * (qr t0 * qr r + qr t1 * qr n) := by
    have e : qr (mulv (2, 1) (dotV t0 t1 r n)) = qr (2, 1) * qr (dotV t0 t1 r n) := qr_mul s2 (small_addv _ _) a4
    rw [e, eD, qr_one]; rfl
  obtain ⟨z, eF⟩ := qr_quo (small_mulv _ _) (small_addv _ _) a8
  have eF : qr (facV t0 t1 r n) = qr (mulv (2, 1) (dotV t0 t1 r n)) / qr (dotV r n r n) := eF
  have hz : qr (dotV r n r n) ≠ 0 := fun h => z ((qr_zero (small_addv _ _)).1 h)
  rw [eM] at eF
  rw [eN] at eF hz
  refine ⟨qr (facV t0 t1 r n), ?_, hz, ?_, ?_⟩
  · rw [eF]; grind
  · show qr (subv t0 (mulv (facV t0 t1 r n) r)) = _
    have e : qr (mulv (facV t0 t1 r n) r) = qr (facV t0 t1 r n) * qr r := qr_mul (small_quov _ _) hr a9
    rw [qr_sub h0 (small_mulv _ _) a10, e]
  · show qr (subv t1 (mulv (facV t0 t1 r n) n)) = _
    have e : qr (mulv (facV t0 t1 r n) n) = qr (facV t0 t1 r n) * qr n := qr_mul (small_quov _ _) hn a11
    rw [qr_sub h1 (small_mulv _ _) a12, e]
theorem refl_len {F N D T0 T1 R n : Rat} (hF : F * (R * R + n * n) = 2 * (T0 * R + T1 * n)) : (T0 - F * R) * (T0 - F * R) + (T1 - F * n) * (T1 - F * n) = T0 * T0 + T1 * T1 := by grind
theorem refl_back {F F' d T0 T1 R n : Rat} (hF : F * (R * R + n * n) = 2 * (T0 * R + T1 * n)) (hz : R * R + n * n ≠ 0) (hF' : F' * (R * R + n * n) = 2 * (d * (T0 - F * R) * R + d * (T1 - F * n) * n)) :
    d * (T0 - F * R) - F' * R = d * T0 ∧ d * (T1 - F * n) - F' * n = d * T1 := by
  have e : F' = -(d * F) := by
    have h1 : (F' + d * F) * (R * R + n * n) = 0 := by grind
    rcases Rat.mul_eq_zero.1 h1 with h | h
    · grind
    · exact absurd h hz
  subst e
  constructor <;> grind
theorem lcm_parts {a b : Int} (ha : 0 < a) (hb : 0 < b) : ∃ u v : Int, 0 < u ∧ 0 < v ∧ a = G a b * u ∧ b = G a b * v ∧ a.tdiv (G a b) = u ∧ (u * b).tdiv a = v ∧ (u * b).tdiv b = u := by
  have hg := G_pos (a := a) (show b ≠ 0 by omega)
  obtain ⟨u, hu⟩ := G_dvd_left a b
  obtain ⟨v, hv⟩ := G_dvd_right a b
  generalize G a b = g at *
  have u0 : 0 < u := by
    rcases Int.lt_trichotomy u 0 with q | q | q
    · have := Int.mul_neg_of_pos_of_neg hg q; omega
    · rw [q] at hu; omega
    · exact q
  have v0 : 0 < v := by
    rcases Int.lt_trichotomy v 0 with q | q | q
    · have := Int.mul_neg_of_pos_of_neg hg q; omega
    · rw [q] at hv; omega
    · exact q
  refine ⟨u, v, u0, v0, hu, hv, ?_, ?_, ?_⟩
  · rw [hu]; exact Int.mul_tdiv_cancel_left _ (by omega)
  · rw [show u * b = a * v by rw [hv, hu]; grind]; exact Int.mul_tdiv_cancel_left _ (by omega)
  · exact Int.mul_tdiv_cancel _ (by omega)
theorem rat_ne {n : Int} (h : n ≠ 0) : (n : Rat) ≠ 0 := qr_ne h
/-- A reflection that was told: what is known. -/
theorem refR_ok {x : Con} {p : Sp} {tw : Int × Int} (h : (refR x p tw).2 = 0) : offL x p = false ∧ onB x p = true ∧ norL x p = false ∧ ¬ (p.1.1 = 0 ∧ (norV x p).1 = 0) ∧ outL false (tw.1, 1) (tw.2, 1) p.1 (norV x p) = false ∧ (refR x p tw).1 = outV (tw.1, 1) (tw.2, 1) p.1 (norV x p) := by
  unfold refR at *
  split at h; · cases h
  split at h; · cases h
  split at h; · cases h
  split at h; · cases h
  split at h; · cases h
  rename_i a1 a2 a3 a4 a5
  refine ⟨by simpa using a1, by simpa using a2, by simpa using a3, a4, by simpa using a5, ?_⟩
  rw [if_neg a1, if_neg a2, if_neg a3, if_neg a4, if_neg a5]

/-- What is known of a reflection that was told, and of the way back. -/
theorem mir {c : Con} {p : Sp} {toward : Int × Int} (h : raE c = 0) (h1 : Small p.1) (h2 : Small p.2) (ht : twE toward = 0) (c1 : (refR c p toward).2 = 0) : ∃ (o0 o1 : Fr) (u v : Int), (refR c p toward).1 = (o0, o1) ∧ Small o0 ∧ Small o1 ∧ 0 < u ∧ 0 < v ∧ o0.2 = G o0.2 o1.2 * u ∧ o1.2 = G o0.2 o1.2 * v ∧
    o0.2.tdiv (G o0.2 o1.2) = u ∧ (u * o1.2).tdiv o0.2 = v ∧ (u * o1.2).tdiv o1.2 = u ∧ 0 < G o0.2 o1.2 ∧ base_Gcd o0.2 o1.2 = some ((G o0.2 o1.2, ()), ()) ∧
    ((false || mull o0 o0 || mull o1 o1 || addl (mulv o0 o0) (mulv o1 o1)) = false → addv (mulv o0 o0) (mulv o1 o1) = (toward.1 * toward.1 + toward.2 * toward.2, 1)) ∧
    (u * o1.2 ≤ 1000000000 → twE (o0.1 * v, o1.1 * u) = 0 → ((refR c p (o0.1 * v, o1.1 * u)).2 = 8 ∨ (refR c p (o0.1 * v, o1.1 * u)).2 = 0) ∧
      ((refR c p (o0.1 * v, o1.1 * u)).2 = 0 → (refR c p (o0.1 * v, o1.1 * u)).1.1 = (toward.1 * (u * o1.2), 1) ∧ (refR c p (o0.1 * v, o1.1 * u)).1.2 = (toward.2 * (u * o1.2), 1))) := by
  obtain ⟨a1, a2, a3, a4, a5, a6⟩ := refR_ok c1
  obtain ⟨t1, t2, t3⟩ := twE_ok ht
  have s0 : Small (toward.1, 1) := small_one (by omega) (by omega)
  have s1 : Small (toward.2, 1) := small_one (by omega) (by omega)
  have hn : Small (norV c p) := small_subv _ _
  obtain ⟨F, f1, f2, f3, f4⟩ := out_q s0 s1 h1 hn a5
  rw [qr_one] at f1 f3
  rw [qr_one] at f1 f4
  have so0 : Small (outV (toward.1, 1) (toward.2, 1) p.1 (norV c p)).1 := small_subv _ _
  have so1 : Small (outV (toward.1, 1) (toward.2, 1) p.1 (norV c p)).2 := small_subv _ _
  rw [a6]
  generalize ho : outV (toward.1, 1) (toward.2, 1) p.1 (norV c p) = o at *
  obtain ⟨o0, o1⟩ := o
  dsimp only at f3 f4 so0 so1
  obtain ⟨u, v, u0, v0, eu, ev, d1, d2, d3⟩ := lcm_parts so0.1.1 so1.1.1
  have hg := G_pos (a := o0.2) (show o1.2 ≠ 0 by have := so1.1.1; omega)
  have gl := G_le (a := o0.2) (show o1.2 ≠ 0 by have := so1.1.1; omega)
  have p0 := so0.1.1; have p1 := so1.1.1
  have q0 := so0.2; have q1 := so1.2
  have kg := k_Gcd (a := o0.2) (b := o1.2) (by omega) (by omega) (by omega) (by omega) (by omega)
  have back : ∀ (hd : u * o1.2 ≤ 1000000000), twE (o0.1 * v, o1.1 * u) = 0 → ((refR c p (o0.1 * v, o1.1 * u)).2 = 8 ∨ (refR c p (o0.1 * v, o1.1 * u)).2 = 0) ∧
      ((refR c p (o0.1 * v, o1.1 * u)).2 = 0 → (refR c p (o0.1 * v, o1.1 * u)).1.1 = (toward.1 * (u * o1.2), 1) ∧ (refR c p (o0.1 * v, o1.1 * u)).1.2 = (toward.2 * (u * o1.2), 1)) := by
    intro hd ct
    refine ⟨?_, fun h0 => ?_⟩
    · unfold refR
      rw [if_neg (by rw [a1]; decide), if_neg (by rw [a2]; decide), if_neg (by rw [a3]; decide), if_neg a4]
      split
      · exact .inl rfl
      · exact .inr rfl
    · obtain ⟨_, _, _, _, b5, b6⟩ := refR_ok h0
      obtain ⟨r1, r2, _⟩ := twE_ok ct
      dsimp only at r1 r2
      have sb0 : Small (o0.1 * v, 1) := small_one (by omega) (by omega)
      have sb1 : Small (o1.1 * u, 1) := small_one (by omega) (by omega)
      obtain ⟨F', g1, g2, g3, g4⟩ := out_q sb0 sb1 h1 hn b5
      rw [qr_one] at g1 g3
      rw [qr_one] at g1 g4
      rw [b6]
      have z0 := rat_ne (show o0.2 ≠ 0 by omega)
      have z1 := rat_ne (show o1.2 ≠ 0 by omega)
      have zg := rat_ne (show G o0.2 o1.2 ≠ 0 by omega)
      have c0 : ((o0.1 * v : Int) : Rat) = ((u * o1.2 : Int) : Rat) * qr o0 := by
        unfold qr
        have e : (o0.1 * v) * o0.2 = (u * o1.2) * o0.1 := by
          conv => lhs; rw [eu]
          conv => rhs; rw [ev]
          grind
        have e' : ((o0.1 * v : Int) : Rat) * (o0.2 : Rat) = ((u * o1.2 : Int) : Rat) * (o0.1 : Rat) := by rw [← Rat.intCast_mul, ← Rat.intCast_mul, e]
        grind
      have c2 : ((o1.1 * u : Int) : Rat) = ((u * o1.2 : Int) : Rat) * qr o1 := by
        unfold qr
        have e : (o1.1 * u) * o1.2 = (u * o1.2) * o1.1 := by grind
        have e' : ((o1.1 * u : Int) : Rat) * (o1.2 : Rat) = ((u * o1.2 : Int) : Rat) * (o1.1 : Rat) := by rw [← Rat.intCast_mul, ← Rat.intCast_mul, e]
        grind
      rw [c0, f3] at g1 g3
      rw [c2, f4] at g1 g4
      obtain ⟨x1, x2⟩ := refl_back f1 f2 g1
      refine ⟨qr_eq (small_subv _ _).1 (isLow_one _) ?_, qr_eq (small_subv _ _).1 (isLow_one _) ?_⟩
      · rw [g3, x1, qr_one, Rat.intCast_mul]; grind
      · rw [g4, x2, qr_one, Rat.intCast_mul]; grind
  have hsq : (false || mull o0 o0 || mull o1 o1 || addl (mulv o0 o0) (mulv o1 o1)) = false → addv (mulv o0 o0) (mulv o1 o1) = (toward.1 * toward.1 + toward.2 * toward.2, 1) := by
    intro hl
    simp only [Bool.or_eq_false_iff] at hl
    obtain ⟨⟨⟨_, l1⟩, l2⟩, l3⟩ := hl
    refine qr_eq (small_addv _ _).1 (isLow_one _) ?_
    rw [qr_add (small_mulv _ _) (small_mulv _ _) l3, qr_mul so0 so0 l1, qr_mul so1 so1 l2, f3, f4, refl_len (D := 0) (N := 0) f1, qr_one, Rat.intCast_add, Rat.intCast_mul, Rat.intCast_mul]
  exact ⟨o0, o1, u, v, rfl, so0, so1, u0, v0, eu, ev, d1, d2, d3, hg, kg, hsq, back⟩
theorem k_OpticsMirrors {c : (Int × (Int × Int))} {p : ((Int × Int) × (Int × Int))} {toward : (Int × Int)} (b0 : bulkT (.pair (.int .i64) (.pair (.int .i64) (.int .i64))) c ≤ 1048576) (w0 : wfT (.pair (.int .i64) (.pair (.int .i64) (.int .i64))) c) (b1 : bulkT (.pair (.pair (.int .i64) (.int .i64)) (.pair (.int .i64) (.int .i64))) p ≤ 1048576) (w1 : wfT (.pair (.pair (.int .i64) (.int .i64)) (.pair (.int .i64) (.int .i64))) p) (b2 : bulkT (.pair (.int .i64) (.int .i64)) toward ≤ 1048576) (w2 : wfT (.pair (.int .i64) (.int .i64)) toward) : law02xOpticsMirrors c p toward = some ((true, ()), ()) := by
  have i1 : I64 c.2.1 := w0.2.1
  have i2 : I64 c.2.2 := w0.2.2
  have j1 : IF p.1 := w1.1
  have j2 : IF p.2 := w1.2
  simp only [law02xOpticsMirrors, T_law02xOpticsMirrors]
  rw [r_bind, awake_ok, Option.bind_some]
  refine (br_f rfl).trans ?_
  by_cases hall : raE c = 0 ∧ spE p = 0 ∧ twE toward = 0
  · obtain ⟨h, hp, ht⟩ := hall
    obtain ⟨h1, h2⟩ := spE_ok hp
    have k1 := k_Reflect h h1 h2 ht i1 i2
    refine (r_bs k1).trans ?_
    by_cases c1 : (refR c p toward).2 = 0
    · obtain ⟨t1, t2, t3⟩ := twE_ok ht
      obtain ⟨o0, o1, u, v, ho, so0, so1, u0, v0, eu, ev, d1, d2, d3, hg, kg, hsq, back⟩ := mir h h1 h2 ht c1
      rw [ho, c1]
      refine (br_f rfl).trans ?_
      have kc0 := k_rCheckFrac so0.i1 so0.i2
      have kc1 := k_rCheckFrac so1.i1 so1.i2
      rw [cfE_of so0] at kc0
      rw [cfE_of so1] at kc1
      have kt := k_CheckToward toward
      rw [ht] at kt
      refine (r_bs kc0).trans ?_
      refine (br_f rfl).trans ?_
      refine (r_bs kc1).trans ?_
      refine (br_f rfl).trans ?_
      refine (r_bs kt).trans ?_
      refine (br_f rfl).trans ?_
      have p0 := so0.1.1; have p1 := so1.1.1
      have q0 := so0.2; have q1 := so1.2
      have mp : 0 < u * o1.2 := Int.mul_pos u0 p1
      have m1 := mul_bd (a := u) (b := o1.2) (m := 1000000000) (n := 1000000000) (by omega) (by
        have := Int.mul_le_mul_of_nonneg_right (show 1 ≤ G o0.2 o1.2 by omega) (show 0 ≤ u by omega)
        omega) (by omega) (by omega)
      have ub : u ≤ 1000000000 := by
        have := Int.mul_le_mul_of_nonneg_right (show 1 ≤ G o0.2 o1.2 by omega) (show 0 ≤ u by omega)
        omega
      have vb : v ≤ 1000000000 := by
        have := Int.mul_le_mul_of_nonneg_right (show 1 ≤ G o0.2 o1.2 by omega) (show 0 ≤ v by omega)
        omega
      have m2 := mul_bd (a := o0.1) (b := v) (m := 1000000000) (n := 1000000000) (by omega) (by omega) (by omega) (by omega)
      have m3 := mul_bd (a := o1.1) (b := u) (m := 1000000000) (n := 1000000000) (by omega) (by omega) (by omega) (by omega)
      have e1 : IntKind.i64.wrap (o0.2.tdiv (G o0.2 o1.2)) = u := by rw [d1]; exact w64' (by omega) (by omega)
      have e2 : IntKind.i64.wrap (u * o1.2) = u * o1.2 := w64' (by omega) (by omega)
      have e3 : (u * o1.2).tdiv o0.2 = v := d2
      have e4 : (u * o1.2).tdiv o1.2 = u := d3
      have e5 : IntKind.i64.wrap v = v := w64' (by omega) (by omega)
      have e6 : IntKind.i64.wrap u = u := w64' (by omega) (by omega)
      have e7 : IntKind.i64.wrap (o0.1 * v) = o0.1 * v := w64' (by omega) (by omega)
      have e8' : IntKind.i64.wrap (o1.1 * u) = o1.1 * u := w64' (by omega) (by omega)
      have r5 := k_rMul so0 so0 false
      have r6 := k_rMul so1 so1 (false || mull o0 o0)
      have r7 := k_rAdd (small_mulv o0 o0) (small_mulv o1 o1) (false || mull o0 o0 || mull o1 o1)
      refine (r_bs r5).trans ?_
      refine (r_bs r6).trans ?_
      refine (r_bs r7).trans ?_
      generalize hW : (false || mull o0 o0 || mull o1 o1 || addl (mulv o0 o0) (mulv o1 o1)) = W at *
      cases W with
      | false =>
        rw [hsq rfl]
        have n1 := mul_bd (a := toward.1) (b := toward.1) (m := 1000) (n := 1000) (by omega) (by omega) (by omega) (by omega)
        have n2 := mul_bd (a := toward.2) (b := toward.2) (m := 1000) (n := 1000) (by omega) (by omega) (by omega) (by omega)
        have g0 : IntKind.i64.wrap (IntKind.i64.wrap (toward.1 * toward.1) + IntKind.i64.wrap (toward.2 * toward.2)) = toward.1 * toward.1 + toward.2 * toward.2 := by simp (disch := omega) only [w64']
        refine (br_t rfl).trans ?_
        simp only [g0]
        refine (r_bs (k_lwhole _)).trans ?_
        refine (br_f (by simp)).trans ?_
        refine (r_bs kg).trans ?_
        refine (q_of (nz_t (show G o0.2 o1.2 ≠ 0 by omega))).trans ?_
        simp only [e1, e2]
        by_cases cd : 1000000000 < u * o1.2
        · exact (br_t (decide_eq_true cd)).trans (r_ret _)
        · refine (br_f (decide_eq_false cd)).trans ?_
          refine (q_of (nz_t (show o0.2 ≠ 0 by omega))).trans ?_
          refine (q_of (nz_t (show o1.2 ≠ 0 by omega))).trans ?_
          simp only [e3, e4, e5, e6, e7, e8']
          have kt2 := k_CheckToward (o0.1 * v, o1.1 * u)
          refine (r_bs kt2).trans ?_
          by_cases ct : twE (o0.1 * v, o1.1 * u) = 0
          · refine (br_f (by simp [ct])).trans ?_
            have k2 := k_Reflect (tw := (o0.1 * v, o1.1 * u)) h h1 h2 ct i1 i2
            obtain ⟨w1, w2⟩ := back (by omega) ct
            refine (r_bs k2).trans ?_
            rcases w1 with w1 | w1
            · rw [w1]
              exact (br_t rfl).trans (r_ret _)
            · rw [w1]
              obtain ⟨x1, x2⟩ := w2 w1
              refine (br_f rfl).trans ?_
              refine (br_t rfl).trans ?_
              have m4 := mul_bd (a := toward.1) (b := u * o1.2) (m := 1000) (n := 1000000000) (by omega) (by omega) (by omega) (by omega)
              have m5 := mul_bd (a := toward.2) (b := u * o1.2) (m := 1000) (n := 1000000000) (by omega) (by omega) (by omega) (by omega)
              have f1 : IntKind.i64.wrap (toward.1 * (u * o1.2)) = toward.1 * (u * o1.2) := w64' (by omega) (by omega)
              have f2 : IntKind.i64.wrap (toward.2 * (u * o1.2)) = toward.2 * (u * o1.2) := w64' (by omega) (by omega)
              simp only [f1, f2]
              refine (r_bs (k_lwhole _)).trans ?_
              refine (r_bs (k_lwhole _)).trans ?_
              refine (r_ret _).trans ?_
              rw [x1, x2]
              simp
          · exact (br_t (by simp [ct])).trans (r_ret _)
      | true =>
        refine (br_f rfl).trans ?_
        refine (r_bs kg).trans ?_
        refine (q_of (nz_t (show G o0.2 o1.2 ≠ 0 by omega))).trans ?_
        simp only [e1, e2]
        by_cases cd : 1000000000 < u * o1.2
        · exact (br_t (decide_eq_true cd)).trans (r_ret _)
        · refine (br_f (decide_eq_false cd)).trans ?_
          refine (q_of (nz_t (show o0.2 ≠ 0 by omega))).trans ?_
          refine (q_of (nz_t (show o1.2 ≠ 0 by omega))).trans ?_
          simp only [e3, e4, e5, e6, e7, e8']
          have kt2 := k_CheckToward (o0.1 * v, o1.1 * u)
          refine (r_bs kt2).trans ?_
          by_cases ct : twE (o0.1 * v, o1.1 * u) = 0
          · refine (br_f (by simp [ct])).trans ?_
            have k2 := k_Reflect (tw := (o0.1 * v, o1.1 * u)) h h1 h2 ct i1 i2
            obtain ⟨w1, w2⟩ := back (by omega) ct
            refine (r_bs k2).trans ?_
            rcases w1 with w1 | w1
            · rw [w1]
              exact (br_t rfl).trans (r_ret _)
            · rw [w1]
              obtain ⟨x1, x2⟩ := w2 w1
              refine (br_f rfl).trans ?_
              refine (br_t rfl).trans ?_
              have m4 := mul_bd (a := toward.1) (b := u * o1.2) (m := 1000) (n := 1000000000) (by omega) (by omega) (by omega) (by omega)
              have m5 := mul_bd (a := toward.2) (b := u * o1.2) (m := 1000) (n := 1000000000) (by omega) (by omega) (by omega) (by omega)
              have f1 : IntKind.i64.wrap (toward.1 * (u * o1.2)) = toward.1 * (u * o1.2) := w64' (by omega) (by omega)
              have f2 : IntKind.i64.wrap (toward.2 * (u * o1.2)) = toward.2 * (u * o1.2) := w64' (by omega) (by omega)
              simp only [f1, f2]
              refine (r_bs (k_lwhole _)).trans ?_
              refine (r_bs (k_lwhole _)).trans ?_
              refine (r_ret _).trans ?_
              rw [x1, x2]
              simp
          · exact (br_t (by simp [ct])).trans (r_ret _)
    · exact (br_t (by simp [c1])).trans (r_ret _)
  · have k1 := k_ReflectE (tw := toward) j1 j2 i1 i2 hall
    have hne : ¬ (if raE c ≠ 0 then raE c else if spE p ≠ 0 then spE p else twE toward) = 0 := by
      intro h0
      split at h0
      · contradiction
      · rename_i a
        split at h0
        · contradiction
        · rename_i b
          exact hall ⟨Decidable.of_not_not a, Decidable.of_not_not b, h0⟩
    refine (r_bs k1).trans ?_
    exact (br_t (by simp only [hne, decide_false, Bool.not_false])).trans (r_ret _)
end Go.Ab
