/- OpticsTrue answers true. -/
import Derived.Test.YtpgagefaneaioaaH23
import Derived.Test.YtpgagefaneaioaaH20
import Derived.Test.YtpgagefaneaioaaQLOpticsTrue
namespace Go.Ab
open Go
set_option maxRecDepth 1000000
set_option maxHeartbeats 1000000
set_option linter.unusedVariables false
set_option linter.unusedSimpArgs false
attribute [local congr] bindC iterC

theorem conOk {R k : Int} (h : 0 < R) (h2 : R ≤ 10000000) (hk : k = 0 ∨ k = -1) : ConOk (R, k, 1) := ⟨show R ≠ 0 by omega, show -10000000 ≤ R by omega, h2, isLow_one k, show -100 ≤ k by omega, show k ≤ 100 by omega, show (0 : Int) < 1 by decide, show (1 : Int) ≤ 100 by decide⟩
theorem conPl {R r k : Int} (h0 : 0 ≤ r) (h : r ≤ R) (h2 : r ≤ 1000000) (hk : k = 0 ∨ k = -1) : pl R (k, 1) r = 0 := by
  have a1 := Int.mul_le_mul h h h0 (by omega)
  have a2 := Int.mul_nonneg h0 h0
  unfold pl
  rw [if_neg (fun hh => hh ⟨h0, h2⟩), if_neg]
  unfold bey
  dsimp only
  rcases hk with rfl | rfl
  · grind
  · have : (-1 + 1 : Int) * r * r = 0 := by grind
    rw [this]
    grind
theorem k_Sag1 {R r k : Int} (h : 0 < R) (h2 : R ≤ 10000000) (hk : k = 0 ∨ k = -1) (h0 : 0 ≤ r) (hr : r ≤ R) (hr2 : r ≤ 1000000) : optics_Sag (R, k, 1) r = some (((sagLo R (k, 1) r, sagHi R (k, 1) r), 0, ()), ()) := by
  have ks := k_Sag (r := r) (conOk h h2 hk)
  have hpl : pl R (k, 1) r = 0 := conPl h0 hr hr2 hk
  have hab : ab R = R := by unfold ab; omega
  have hV : sagV (R, k, 1) r = (sagLo R (k, 1) r, sagHi R (k, 1) r) := by
    unfold sagV turnV
    dsimp only
    rw [if_pos hpl, if_neg (by omega), hab]
  rw [hV] at ks
  dsimp only at ks
  rw [hpl] at ks
  exact ks
/-- The true height lies in the range: below. -/
theorem near_ok {R r n H m : Int} (hR : 0 < R) (h0 : 0 ≤ r) (hr : r ≤ R) (hn : n = R * R - r * r) (hH : 0 ≤ H) (hH2 : 10000 * n ≤ H * H) (hm : 0 ≤ m) (hq : m * (100 * R + H) ≤ 100 * r * r) : R * R ≤ (R - m) * (R - m) + r * r := by
  rcases Int.lt_or_le ((R - m) * (R - m)) n with q | q
  · exfalso
    have c : 100 * (R - m) < H := by
      rcases Int.lt_or_le (100 * (R - m)) H with p | p
      · exact p
      · exfalso
        have := sq_le hH p
        grind
    rcases Int.lt_or_le 0 m with p | p
    · have := Int.mul_lt_mul_of_pos_left (show 100 * R + 100 * (R - m) < 100 * R + H by omega) p
      grind
    · have : m = 0 := by omega
      subst this
      have := Int.mul_nonneg h0 h0
      grind
  · grind
theorem far_ok {R r n L m : Int} (hR : 0 < R) (h0 : 0 ≤ r) (hr : r ≤ R) (hn : n = R * R - r * r) (hL : 0 ≤ L) (hL2 : L * L ≤ 10000 * n) (hm : 0 ≤ m) (hq : 100 * r * r ≤ m * (100 * R + L)) (hf : 0 < R - m) : (R - m) * (R - m) + r * r ≤ R * R := by
  rcases Int.lt_or_le n ((R - m) * (R - m)) with q | q
  · exfalso
    have c : L < 100 * (R - m) := by
      rcases Int.lt_or_le L (100 * (R - m)) with p | p
      · exact p
      · exfalso
        have := sq_le (show 0 ≤ 100 * (R - m) by omega) p
        grind
    rcases Int.lt_or_le 0 m with p | p
    · have := Int.mul_lt_mul_of_pos_left (show 100 * R + L < 100 * R + 100 * (R - m) by omega) p
      grind
    · have : m = 0 := by omega
      subst this
      grind
  · grind

theorem k_OpticsTrue {radius : Int} {r : Int} (b0 : bulkT (.int .i64) radius ≤ 1048576) (w0 : wfT (.int .i64) radius) (b1 : bulkT (.int .i64) r ≤ 1048576) (w1 : wfT (.int .i64) r) : law02xOpticsTrue radius r = some ((true, ()), ()) := by
  simp only [law02xOpticsTrue, T_law02xOpticsTrue]
  rw [r_bind, awake_ok, Option.bind_some]
  refine (br_f rfl).trans ?_
  refine (r_bs (k_Within radius 1 10000000)).trans ?_
  by_cases c1 : 1 ≤ radius ∧ radius ≤ 10000000
  · refine (br_f (by simp [c1])).trans ?_
    refine (r_bs (k_Within r 0 (min radius 1000000))).trans ?_
    by_cases c2 : 0 ≤ r ∧ r ≤ min radius 1000000
    · refine (br_f (by simp only [c2, and_self, decide_true, Bool.not_true])).trans ?_
      obtain ⟨R1, R2⟩ := c1
      obtain ⟨r1, r2⟩ := c2
      have r3 : r ≤ radius := by omega
      have r4 : r ≤ 1000000 := by omega
      clear r2
      have kp := k_Sag1 (R := radius) (k := -1) (by omega) R2 (.inr rfl) r1 r3 r4
      have ks := k_Sag1 (R := radius) (k := 0) (by omega) R2 (.inl rfl) r1 r3 r4
      obtain ⟨q1, q2⟩ := sph_rad radius r
      obtain ⟨p1, p2⟩ := par_rad radius r
      have hRR := sq_le r1 r3
      have hr0 := Int.mul_nonneg r1 r1
      have hRb := sq_le (a := radius) (b := 10000000) (by omega) (by omega)
      have hrb := sq_le (a := r) (b := 1000000) r1 r4
      generalize hn : radius * radius - r * r = n at *
      have n0 : 0 ≤ n := by omega
      have s1 := rt_spec (n := 10000 * n) (by omega)
      have s2 := rtu_spec (n := 10000 * n) (by omega)
      have s5 := rt_bd (n := 10000 * n) (m := 100 * radius) (by omega) (by omega) (by grind)
      obtain ⟨t1, t2⟩ := rt_sq (a := 100 * radius) (by omega)
      have hb : 0 ≤ 100000 * r * r := Int.mul_nonneg (by omega) r1
      have hbe : 100000 * r * r = 100 * (1000 * r * r) := by grind
      -- the paraboloid
      have eP : sagLo radius (-1, 1) r = 100000 * r * r / (100 * radius + 100 * radius) := by unfold sagLo; rw [p2, t2]
      have eQ : sagHi radius (-1, 1) r = -(-(100000 * r * r) / (100 * radius + 100 * radius)) := by unfold sagHi; rw [p1, t1]
      have eL : sagLo radius (0, 1) r = 100000 * r * r / (100 * radius + rtu (10000 * n)) := by unfold sagLo; rw [q2]
      have eH : sagHi radius (0, 1) r = -(-(100000 * r * r) / (100 * radius + rt (10000 * n))) := by unfold sagHi; rw [q1]
      rw [eP, eQ] at kp
      rw [eL, eH] at ks
      have b1 : 0 ≤ 100000 * r * r / (100 * radius + 100 * radius) := Int.ediv_nonneg hb (by omega)
      have b2 := Int.ediv_mul_le (100000 * r * r) (show 100 * radius + 100 * radius ≠ 0 by omega)
      have b3 : 100000 * r * r / (100 * radius + 100 * radius) ≤ -(-(100000 * r * r) / (100 * radius + 100 * radius)) := by
        refine le_cdiv (by omega) ?_
        have e : (100000 * r * r / (100 * radius + 100 * radius) - 1) * (100 * radius + 100 * radius) = 100000 * r * r / (100 * radius + 100 * radius) * (100 * radius + 100 * radius) - (100 * radius + 100 * radius) := by grind
        omega
      have b4 := Int.ediv_mul_le (-(100000 * r * r)) (show 100 * radius + 100 * radius ≠ 0 by omega)
      have x1 : 0 ≤ 100000 * r * r / (100 * radius + rtu (10000 * n)) := Int.ediv_nonneg hb (by omega)
      have x2 := Int.ediv_mul_le (100000 * r * r) (show 100 * radius + rtu (10000 * n) ≠ 0 by omega)
      have x3 : 100000 * r * r / (100 * radius + rtu (10000 * n)) ≤ -(-(100000 * r * r) / (100 * radius + rt (10000 * n))) := by
        refine le_cdiv (by omega) ?_
        have := Int.mul_le_mul_of_nonneg_left (show 100 * radius + rt (10000 * n) ≤ 100 * radius + rtu (10000 * n) by omega) x1
        have e : (100000 * r * r / (100 * radius + rtu (10000 * n)) - 1) * (100 * radius + rt (10000 * n)) = 100000 * r * r / (100 * radius + rtu (10000 * n)) * (100 * radius + rt (10000 * n)) - (100 * radius + rt (10000 * n)) := by grind
        omega
      have x4 := Int.ediv_mul_le (-(100000 * r * r)) (show 100 * radius + rt (10000 * n) ≠ 0 by omega)
      have top : ∀ d : Int, 100 * radius ≤ d → -(-(100000 * r * r) / d) ≤ 10000000000 := by
        intro d hd
        have : -10000000000 ≤ -(100000 * r * r) / d := by
          refine (Int.le_ediv_iff_mul_le (by omega)).2 ?_
          have a1 := Int.mul_le_mul_of_nonneg_left r3 (show 0 ≤ 100000 * r by omega)
          have a2 : 100000 * r * radius ≤ 100000000000 * radius := Int.mul_le_mul_of_nonneg_right (by omega) (by omega)
          omega
        omega
      have b5 := top (100 * radius + 100 * radius) (by omega)
      have x5 := top (100 * radius + rt (10000 * n)) (by omega)
      have y1 : 100000 * r * r / (100 * radius + 100 * radius) ≤ -(-(100000 * r * r) / (100 * radius + rt (10000 * n))) := by
        refine le_cdiv (by omega) ?_
        have := Int.mul_le_mul_of_nonneg_left (show 100 * radius + rt (10000 * n) ≤ 100 * radius + 100 * radius by omega) b1
        have e : (100000 * r * r / (100 * radius + 100 * radius) - 1) * (100 * radius + rt (10000 * n)) = 100000 * r * r / (100 * radius + 100 * radius) * (100 * radius + rt (10000 * n)) - (100 * radius + rt (10000 * n)) := by grind
        omega
      generalize 100000 * r * r / (100 * radius + 100 * radius) = pl' at *
      generalize hph : -(100000 * r * r) / (100 * radius + 100 * radius) = ph at *
      generalize 100000 * r * r / (100 * radius + rtu (10000 * n)) = lo at *
      generalize hsh : -(100000 * r * r) / (100 * radius + rt (10000 * n)) = sh at *
      have g1 : 2 * radius * pl' ≤ 1000 * r * r := by
        have e : pl' * (100 * radius + 100 * radius) = 100 * (2 * radius * pl') := by grind
        omega
      have g2 : 1000 * r * r ≤ 2 * radius * -ph := by
        have e : ph * (100 * radius + 100 * radius) = -(100 * (2 * radius * -ph)) := by grind
        omega
      have m1 := mul_bd (a := 2 * radius) (b := pl') (m := 20000000) (n := 10000000000) (by omega) (by omega) (by omega) (by omega)
      have m2 := mul_bd (a := 2 * radius) (b := -ph) (m := 20000000) (n := 10000000000) (by omega) (by omega) (by omega) (by omega)
      have m3 : 1000 * r * r ≤ 1000000000000000 := by grind
      have d1 : lo.tdiv 1000 = lo / 1000 := Int.tdiv_eq_ediv_of_nonneg x1
      have kc := k_Ceil (n := -sh) (b := 1000) (by decide) (by decide) (by omega) (by omega)
      rw [Int.neg_neg] at kc
      have l0 : 0 ≤ lo / 1000 := by omega
      have l1 : lo / 1000 * 1000 ≤ lo := by omega
      have h0' : 0 ≤ -(sh / 1000) := by omega
      have h1' : -sh ≤ -(sh / 1000) * 1000 := by omega
      have l2 : lo / 1000 * (100 * radius + rtu (10000 * n)) ≤ 100 * r * r := by
        have := Int.mul_le_mul_of_nonneg_right l1 (show 0 ≤ 100 * radius + rtu (10000 * n) by omega)
        have e : lo / 1000 * 1000 * (100 * radius + rtu (10000 * n)) = 1000 * (lo / 1000 * (100 * radius + rtu (10000 * n))) := by grind
        have e2 : 100000 * r * r = 1000 * (100 * r * r) := by grind
        omega
      have h2' : 100 * r * r ≤ -(sh / 1000) * (100 * radius + rt (10000 * n)) := by
        have := Int.mul_le_mul_of_nonneg_right h1' (show 0 ≤ 100 * radius + rt (10000 * n) by omega)
        have e : -(sh / 1000) * 1000 * (100 * radius + rt (10000 * n)) = 1000 * (-(sh / 1000) * (100 * radius + rt (10000 * n))) := by grind
        have e2 : 100000 * r * r = 1000 * (100 * r * r) := by grind
        have e3 : -sh * (100 * radius + rt (10000 * n)) = -(sh * (100 * radius + rt (10000 * n))) := Int.neg_mul _ _
        omega
      have near := near_ok (n := n) (by omega) r1 r3 hn.symm s2.1 s2.2.1 l0 l2
      have far := far_ok (n := n) (by omega) r1 r3 hn.symm s1.1 s1.2.1 h0' h2'
      have nb : lo / 1000 ≤ 10000000 := by omega
      have fb : -(sh / 1000) ≤ 10000000 := by omega
      generalize lo / 1000 = low at *
      generalize -(sh / 1000) = high at *
      have m4 := mul_bd (a := radius - low) (b := radius - low) (m := 10000000) (n := 10000000) (by omega) (by omega) (by omega) (by omega)
      have m5 := mul_bd (a := radius - high) (b := radius - high) (m := 10000000) (n := 10000000) (by omega) (by omega) (by omega) (by omega)
      refine (r_bs (k_lwhole (-1))).trans ?_
      refine (r_bs kp).trans ?_
      refine (r_bs (k_lwhole 0)).trans ?_
      refine (r_bs ks).trans ?_
      refine (br_f rfl).trans ?_
      refine (br_f rfl).trans ?_
      refine (r_bs (k_Within pl' 0 (-ph))).trans ?_
      refine (br_f (by rw [decide_eq_true (show 0 ≤ pl' ∧ pl' ≤ -ph from ⟨b1, b3⟩)]; rfl)).trans ?_
      refine (r_bs (k_Within lo 0 (-sh))).trans ?_
      refine (br_f (by rw [decide_eq_true (show 0 ≤ lo ∧ lo ≤ -sh from ⟨x1, x3⟩)]; rfl)).trans ?_
      refine (br_f (decide_eq_false (show ¬ 10000000000 < -ph by omega))).trans ?_
      refine (br_f (decide_eq_false (show ¬ 10000000000 < -sh by omega))).trans ?_
      have f1 : IntKind.i64.wrap (IntKind.i64.wrap (1000 * r) * r) = 1000 * r * r := by
        rw [w64' (x := 1000 * r) (by omega) (by omega)]; exact w64' (by have := Int.mul_nonneg (show 0 ≤ 1000 * r by omega) r1; omega) (by omega)
      have f2 : IntKind.i64.wrap (IntKind.i64.wrap (2 * radius) * pl') = 2 * radius * pl' := by rw [w64' (x := 2 * radius) (by omega) (by omega)]; exact w64' (by omega) (by omega)
      have f3 : IntKind.i64.wrap (IntKind.i64.wrap (2 * radius) * -ph) = 2 * radius * -ph := by rw [w64' (x := 2 * radius) (by omega) (by omega)]; exact w64' (by omega) (by omega)
      have f4 : IntKind.i64.wrap (radius * radius) = radius * radius := w64' (by have := Int.mul_nonneg (show 0 ≤ radius by omega) (show 0 ≤ radius by omega); omega) (by omega)
      have f5 : IntKind.i64.wrap (r * r) = r * r := w64' (by omega) (by omega)
      have f6 : IntKind.i64.wrap low = low := w64' (by omega) (by omega)
      have f7 : IntKind.i64.wrap (radius - low) = radius - low := w64' (by omega) (by omega)
      have f8 : IntKind.i64.wrap (radius - high) = radius - high := w64' (by omega) (by omega)
      have f9 : IntKind.i64.wrap ((radius - low) * (radius - low)) = (radius - low) * (radius - low) := w64' (by omega) (by omega)
      have f10 : IntKind.i64.wrap ((radius - high) * (radius - high)) = (radius - high) * (radius - high) := w64' (by omega) (by omega)
      have f11 : IntKind.i64.wrap ((radius - low) * (radius - low) + r * r) = (radius - low) * (radius - low) + r * r := w64' (by omega) (by omega)
      have f12 : IntKind.i64.wrap ((radius - high) * (radius - high) + r * r) = (radius - high) * (radius - high) + r * r := w64' (by omega) (by omega)
      dsimp only
      simp only [f1, f2, f3]
      refine (br_f (decide_eq_false (show ¬ 1000 * r * r < 2 * radius * pl' by omega))).trans ?_
      refine (br_f (decide_eq_false (show ¬ 2 * radius * -ph < 1000 * r * r by omega))).trans ?_
      refine (br_f (decide_eq_false (show ¬ -sh < pl' by omega))).trans ?_
      refine (q_of (show nz 1000 = true from rfl)).trans ?_
      refine (r_bs kc).trans ?_
      dsimp only
      simp only [d1, f4, f5, f6, f7, f8, f9, f10, f11, f12]
      refine (br_t (decide_eq_true near)).trans ?_
      by_cases cf : radius - high ≤ 0
      · exact (br_t (decide_eq_true cf)).trans (r_ret _)
      · refine (br_f (decide_eq_false cf)).trans ?_
        refine (r_ret _).trans ?_
        rw [decide_eq_true (far (by omega))]
    · refine (br_t ?_).trans (r_ret _)
      simp only [c2, decide_false, Bool.not_false]
  · refine (br_t ?_).trans (r_ret _)
    simp only [c1, decide_false, Bool.not_false]
end Go.Ab
