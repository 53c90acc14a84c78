/- OpticsGrow answers true. -/
import Derived.Test.YtpgagefaneaioaaH23
import Derived.Test.YtpgagefaneaioaaH27
import Derived.Test.YtpgagefaneaioaaH2
import Derived.Test.YtpgagefaneaioaaQLOpticsGrow
namespace Go.Ab
open Go
set_option maxRecDepth 1000000
set_option maxHeartbeats 1000000
set_option linter.unusedVariables false
set_option linter.unusedSimpArgs false
attribute [local congr] bindC iterC

theorem rtu_le {n w : Int} (h : 0 ≤ n) (hw : 0 ≤ w) (hn : n ≤ w * w) : rtu n ≤ w := by
  obtain ⟨h1, h2, h3⟩ := rt_spec h
  unfold rtu
  split
  · exact le_of_sq hw (by omega)
  · have := sq_lt h1 (show rt n * rt n < w * w by omega) hw
    omega
theorem rtu_mono {n m : Int} (h : 0 ≤ n) (hm : n ≤ m) : rtu n ≤ rtu m := by
  obtain ⟨h1, h2, _⟩ := rtu_spec (n := m) (by omega)
  exact rtu_le h h1 (by omega)
/-- What makes the quotients grow. -/
theorem quot_grow {R r1 r2 H1 H2 L1 L2 : Int} {k1 k2 : Int × Int} (h1 : 0 < 100 * R + rtu (radH R k1 r1)) (h2 : 0 < 100 * R + rtu (radH R k2 r2)) (h3 : 0 < 100 * R + rt (radL R k1 r1)) (h4 : 0 < 100 * R + rt (radL R k2 r2))
    (a : r1 * r1 * (100 * R + rtu (radH R k2 r2)) ≤ r2 * r2 * (100 * R + rtu (radH R k1 r1))) (b : r1 * r1 * (100 * R + rt (radL R k2 r2)) ≤ r2 * r2 * (100 * R + rt (radL R k1 r1))) :
    sagLo R k1 r1 ≤ sagLo R k2 r2 ∧ sagHi R k1 r1 ≤ sagHi R k2 r2 := by
  unfold sagLo sagHi
  exact ⟨div_mono h1 h2 (by grind), cdiv_mono h3 h4 (by grind)⟩
theorem sag_grow {R a b : Int} {k : Int × Int} (h1 : 1 ≤ R) (h2 : R ≤ 10000000) (k1 : -100 ≤ k.1) (k2 : k.1 ≤ 100) (k3 : 0 < k.2) (k4 : k.2 ≤ 100) (a0 : 0 ≤ a) (ab : a ≤ b) (b1 : b ≤ 1000000) (hb : ¬ bey R k b) :
    ¬ bey R k a ∧ sagLo R k a ≤ sagLo R k b ∧ sagHi R k a ≤ sagHi R k b := by
  have haa := Int.mul_nonneg a0 a0
  have hab := sq_le a0 ab
  have hRR : 1 ≤ R * R := by
    have := Int.mul_le_mul h1 h1 (by decide) (by omega)
    omega
  have hba : ¬ bey R k a := by
    intro hh
    unfold bey at hb hh
    have q : 0 ≤ k.2 * R * R := by rw [Int.mul_assoc]; exact Int.mul_nonneg (by omega) (by omega)
    rcases Int.lt_or_le 0 (k.1 + k.2) with s | s
    · have := Int.mul_le_mul_of_nonneg_left hab (show 0 ≤ k.1 + k.2 by omega)
      grind
    · have := Int.mul_nonneg (show 0 ≤ -(k.1 + k.2) by omega) haa
      grind
  refine ⟨hba, ?_⟩
  have da := rads (R := R) (r := a) (by omega) h2 k1 k2 k3 k4 a0 (by omega) hba
  have db := rads (R := R) (r := b) (by omega) h2 k1 k2 k3 k4 (by omega) b1 hb
  have sa := rt_spec da.1
  have sb := rt_spec db.1
  have ua := rtu_spec (n := radH R k a) (by omega)
  have ub := rtu_spec (n := radH R k b) (by omega)
  rcases Int.lt_or_le a b with hlt | hle
  · refine quot_grow (H1 := 0) (H2 := 0) (L1 := 0) (L2 := 0) (by omega) (by omega) (by omega) (by omega) ?_ ?_
    · rcases Int.lt_or_le (k.1 + k.2) 0 with s | s
      · have p1 := Int.ediv_mul_le (10000 * (k.1 + k.2) * a * a) (show k.2 ≠ 0 by omega)
        have p2 := Int.lt_ediv_add_one_mul_self (10000 * (k.1 + k.2) * b * b) k3
        have x1 : radH R k a = 10000 * R * R - 10000 * (k.1 + k.2) * a * a / k.2 := rfl
        have x2 : radH R k b = 10000 * R * R - 10000 * (k.1 + k.2) * b * b / k.2 := rfl
        have hRa : 1 ≤ radH R k a := by
          have : 10000 * (k.1 + k.2) * a * a / k.2 ≤ 0 := by
            refine Int.ediv_le_of_le_mul k3 ?_
            have := Int.mul_nonneg (show 0 ≤ -(k.1 + k.2) by omega) haa
            grind
          grind
        have hRb : 1 ≤ radH R k b := by
          have : 10000 * (k.1 + k.2) * b * b / k.2 ≤ 0 := by
            refine Int.ediv_le_of_le_mul k3 ?_
            have := Int.mul_nonneg (show 0 ≤ -(k.1 + k.2) by omega) (show 0 ≤ b * b by omega)
            grind
          grind
        generalize 10000 * (k.1 + k.2) * a * a / k.2 = P at *
        generalize 10000 * (k.1 + k.2) * b * b / k.2 = Q at *
        have va : 1 ≤ rtu (radH R k a) := by
          rcases Int.lt_or_le 0 (rtu (radH R k a)) with z | z
          · exact z
          · have : rtu (radH R k a) = 0 := by omega
            rw [this] at ua
            omega
        have vb : 1 ≤ rtu (radH R k b) := by
          rcases Int.lt_or_le 0 (rtu (radH R k b)) with z | z
          · exact z
          · have : rtu (radH R k b) = 0 := by omega
            rw [this] at ub
            omega
        have hqR : 0 ≤ k.2 * (R * R) := Int.mul_nonneg (by omega) (by omega)
        refine core (u := -(k.1 + k.2)) (q := k.2) (Xa := radH R k a) (Xb := radH R k b) (Va := rtu (radH R k a)) (Ub := rtu (radH R k b) - 1) a0 hlt h1 (by omega) (by omega) k4 ?_ ?_ va ua.2.1 ?_ (by omega) (by omega)
        · rw [x1]; grind
        · rw [x1, x2]; grind
        · have r1 := rt_spec (n := radH R k b) (by omega)
          have := sq_le (a := rtu (radH R k b) - 1) (b := rt (radH R k b)) (by omega) (by omega)
          omega
      · have hm : radH R k b ≤ radH R k a := by
          have : 10000 * (k.1 + k.2) * a * a / k.2 ≤ 10000 * (k.1 + k.2) * b * b / k.2 := by
            refine Int.ediv_le_ediv k3 ?_
            have := Int.mul_le_mul_of_nonneg_left hab s
            grind
          unfold radH; omega
        have hW := rtu_mono (n := radH R k b) (by omega) hm
        exact Int.mul_le_mul hab (by omega) (by omega) (by omega)
    · rcases Int.lt_or_le (k.1 + k.2) 0 with s | s
      · have p1 := Int.lt_ediv_add_one_mul_self (-(10000 * (k.1 + k.2) * a * a)) k3
        have p2 := Int.ediv_mul_le (-(10000 * (k.1 + k.2) * b * b)) (show k.2 ≠ 0 by omega)
        have x1 : radL R k a = 10000 * R * R - -(-(10000 * (k.1 + k.2) * a * a) / k.2) := rfl
        have x2 : radL R k b = 10000 * R * R - -(-(10000 * (k.1 + k.2) * b * b) / k.2) := rfl
        generalize -(10000 * (k.1 + k.2) * a * a) / k.2 = P at *
        generalize -(10000 * (k.1 + k.2) * b * b) / k.2 = Q at *
        have hqR : k.2 * 1 ≤ k.2 * (R * R) := Int.mul_le_mul_of_nonneg_left hRR (by omega)
        refine core (u := -(k.1 + k.2)) (q := k.2) (Xa := radL R k a) (Xb := radL R k b) (Va := rt (radL R k a) + 1) (Ub := rt (radL R k b)) a0 hlt h1 (by omega) (by omega) k4 ?_ ?_ (by omega) (by omega) sb.2.1 (by omega) (by omega)
        · rw [x1]; grind
        · rw [x1, x2]; grind
      · have hm : radL R k b ≤ radL R k a := by
          have : -(10000 * (k.1 + k.2) * b * b) / k.2 ≤ -(10000 * (k.1 + k.2) * a * a) / k.2 := by
            refine Int.ediv_le_ediv k3 ?_
            have := Int.mul_le_mul_of_nonneg_left hab s
            grind
          unfold radL; omega
        have hW := rt_mono (n := radL R k b) (by omega) hm
        exact Int.mul_le_mul hab (by omega) (by omega) (by omega)
  · have : a = b := by omega
    subst this
    exact ⟨Int.le_refl _, Int.le_refl _⟩
theorem sag_greater {R r : Int} {k k' : Int × Int} (h1 : 1 ≤ R) (h2 : R ≤ 10000000) (k1 : -100 ≤ k.1) (k2 : k.1 ≤ 100) (k3 : 0 < k.2) (k4 : k.2 ≤ 100) (k1' : -100 ≤ k'.1) (k2' : k'.1 ≤ 100) (k3' : 0 < k'.2) (k4' : k'.2 ≤ 100)
    (hk : (k.1 + 1) * k'.2 = k'.1 * k.2) (r0 : 0 ≤ r) (r1 : r ≤ 1000000) (hb : ¬ bey R k r) (hb' : ¬ bey R k' r) : sagLo R k r ≤ sagLo R k' r ∧ sagHi R k r ≤ sagHi R k' r := by
  have hrr := Int.mul_nonneg r0 r0
  have da := rads (R := R) (r := r) (by omega) h2 k1 k2 k3 k4 r0 r1 hb
  have db := rads (R := R) (r := r) (by omega) h2 k1' k2' k3' k4' r0 r1 hb'
  have sa := rt_spec da.1
  have sb := rt_spec db.1
  have ua := rtu_spec (n := radH R k r) (by omega)
  have ub := rtu_spec (n := radH R k' r) (by omega)
  have hs : (k.1 + k.2) * k'.2 ≤ (k'.1 + k'.2) * k.2 := by grind
  have hn : 10000 * (k.1 + k.2) * r * r * k'.2 ≤ 10000 * (k'.1 + k'.2) * r * r * k.2 := by
    have := Int.mul_le_mul_of_nonneg_right hs hrr
    grind
  have m1 : radH R k' r ≤ radH R k r := by
    have := div_mono k3 k3' hn
    unfold radH; omega
  have m2 : radL R k' r ≤ radL R k r := by
    have := cdiv_mono k3 k3' hn
    unfold radL; omega
  have w1 := rtu_mono (n := radH R k' r) (by omega) m1
  have w2 := rt_mono (n := radL R k' r) (by omega) m2
  exact quot_grow (H1 := 0) (H2 := 0) (L1 := 0) (L2 := 0) (by omega) (by omega) (by omega) (by omega) (Int.mul_le_mul_of_nonneg_left (by omega) hrr) (Int.mul_le_mul_of_nonneg_left (by omega) hrr)
theorem emod_eq' {a b : Int} (hb : 0 < b) : a % b = if a.tmod b < 0 then a.tmod b + b else a.tmod b := by
  have h1 := Int.tmod_add_mul_tdiv a b
  have h2 := Int.tmod_lt_of_pos a hb
  have h3 := Int.lt_tmod_of_pos a hb
  split
  · refine (Int.ediv_emod_unique (r := a.tmod b + b) (q := a.tdiv b - 1) hb).2 ⟨?_, by omega, by omega⟩ |>.2
    rw [Int.mul_sub]; omega
  · refine (Int.ediv_emod_unique (r := a.tmod b) (q := a.tdiv b) hb).2 ⟨h1, by omega, h2⟩ |>.2
theorem k_Mod {n b : Int} (hb : 0 < b) (hb' : b ≤ 9223372036854775807) : base_Mod n b = some ((n % b, ()), ()) := by
  have e := emod_eq' (a := n) hb
  have h2 := Int.tmod_lt_of_pos n hb
  have h3 := Int.lt_tmod_of_pos n hb
  have z : b ≠ 0 := by omega
  simp only [base_Mod, T_base_Mod]
  by_cases c : n.tmod b < 0
  · rw [if_pos c] at e
    simp (maxSteps := 1000000) (disch := first | omega | assumption) only [↓r_ret, ↓r_fail, ↓r_br, ↓r_bind, ↓r_iter, ↓r_req, decide_eq_true_eq, Bool.not_eq_eq_eq_not, decide_eq_false_iff_not, ite_not, inB_t', app_t', bnd_t', str_t', nz_t, Int.reduceEq, Int.reduceLT, Int.reduceLE, w64', Option.bind_some, Option.bind_none, List.length_cons, List.length_nil, List.length_append, Nat.zero_add, if_pos, if_neg, decide_true, decide_false, if_true, if_false, Bool.not_true, Bool.not_false, Bool.false_eq_true, Bool.true_eq_false, not_true_eq_false, not_false_eq_true, ↓reduceIte, List.nil_append, c, z, e]
  · rw [if_neg c] at e
    simp (maxSteps := 1000000) (disch := first | omega | assumption) only [↓r_ret, ↓r_fail, ↓r_br, ↓r_bind, ↓r_iter, ↓r_req, decide_eq_true_eq, Bool.not_eq_eq_eq_not, decide_eq_false_iff_not, ite_not, inB_t', app_t', bnd_t', str_t', nz_t, Int.reduceEq, Int.reduceLT, Int.reduceLE, w64', Option.bind_some, Option.bind_none, List.length_cons, List.length_nil, List.length_append, Nat.zero_add, if_pos, if_neg, decide_true, decide_false, if_true, if_false, Bool.not_true, Bool.not_false, Bool.false_eq_true, Bool.true_eq_false, not_true_eq_false, not_false_eq_true, ↓reduceIte, List.nil_append, c, z, e]
/-- The sag of a concave mirror, and of the convex one. -/
theorem k_SagP {R r : Int} {k : Int × Int} (h : ConOk (R, k)) (hR : 0 < R) (r0 : 0 ≤ r) (r1 : r ≤ 1000000) (hb : ¬ bey R k r) : optics_Sag (R, k) r = some (((sagLo R k r, sagHi R k r), 0, ()), ()) := by
  have ks := k_Sag (r := r) h
  have hpl : pl R k r = 0 := by unfold pl; rw [if_neg (fun hh => hh ⟨r0, r1⟩), if_neg hb]
  have hab : ab R = R := by unfold ab; omega
  have hV : sagV (R, k) r = (sagLo R k r, sagHi R k r) := by
    unfold sagV turnV
    dsimp only
    rw [if_pos hpl, if_neg (by omega), hab]
  rw [hV] at ks
  dsimp only at ks
  rw [hpl] at ks
  exact ks
theorem k_SagN {R r : Int} {k : Int × Int} (h : ConOk (-R, k)) (hR : 0 < R) (r0 : 0 ≤ r) (r1 : r ≤ 1000000) (hb : ¬ bey R k r) : optics_Sag (-R, k) r = some (((-sagHi R k r, -sagLo R k r), 0, ()), ()) := by
  have ks := k_Sag (r := r) h
  have hpl : pl (-R) k r = 0 := by rw [pl_neg]; unfold pl; rw [if_neg (fun hh => hh ⟨r0, r1⟩), if_neg hb]
  have hab : ab (-R) = R := by unfold ab; omega
  have hV : sagV (-R, k) r = (-sagHi R k r, -sagLo R k r) := by
    unfold sagV turnV
    dsimp only
    rw [if_pos hpl, if_pos (by omega), hab]
  rw [hV] at ks
  dsimp only at ks
  rw [hpl] at ks
  exact ks

theorem k_OpticsGrow {c : (Int × (Int × Int))} {r : Int} {more : Int} (b0 : bulkT (.pair (.int .i64) (.pair (.int .i64) (.int .i64))) c ≤ 1048576) (w0 : wfT (.pair (.int .i64) (.pair (.int .i64) (.int .i64))) c) (b1 : bulkT (.int .i64) r ≤ 1048576) (w1 : wfT (.int .i64) r) (b2 : bulkT (.int .i64) more ≤ 1048576) (w2 : wfT (.int .i64) more) : law02xOpticsGrow c r more = some ((true, ()), ()) := by
  have i1 : I64 c.2.1 := w0.2.1
  have i2 : I64 c.2.2 := w0.2.2
  obtain ⟨R, k⟩ := c
  dsimp only at i1 i2
  have kc := k_rCheckConic (c := (R, k)) i1 i2
  simp only [law02xOpticsGrow, T_law02xOpticsGrow]
  rw [r_bind, awake_ok, Option.bind_some]
  refine (br_f rfl).trans ?_
  have m0 : 0 ≤ r % 1000000 := Int.emod_nonneg _ (by decide)
  have m1 : r % 1000000 < 1000000 := Int.emod_lt_of_pos _ (by decide)
  have m2 : 0 ≤ more % 1000 := Int.emod_nonneg _ (by decide)
  have m3 : more % 1000 < 1000 := Int.emod_lt_of_pos _ (by decide)
  have k1 := k_Mod (n := r) (b := 1000000) (by decide) (by decide)
  have k2 := k_Mod (n := more) (b := 1000) (by decide) (by decide)
  generalize r % 1000000 = a at *
  generalize more % 1000 = d at *
  have g1 : IntKind.i64.wrap (a + d) = a + d := w64' (by omega) (by omega)
  refine (r_bs k1).trans ?_
  refine (r_bs k2).trans ?_
  refine (r_bs kc).trans ?_
  by_cases c0 : coE (R, k) = 0
  · refine (br_f (by simp [c0])).trans ?_
    have ho := coE_ok c0
    have n1 := ho.n1; have n2 := ho.n2; have q0 := ho.q0; have q1 := ho.q1; have lo := ho.lo; have hi := ho.hi; have nz0 := ho.nz
    dsimp only at n1 n2 q0 q1 lo hi nz0
    by_cases cR : R < 0
    · exact (br_t (decide_eq_true cR)).trans (r_ret _)
    · refine (br_f (decide_eq_false cR)).trans ?_
      dsimp only
      simp only [g1]
      by_cases cb : 1000000 < a + d
      · exact (br_t (decide_eq_true cb)).trans (r_ret _)
      · refine (br_f (decide_eq_false cb)).trans ?_
        have kb := k_Beyond (r := a + d) ho (by omega) (by omega)
        refine (r_bs kb).trans ?_
        by_cases be : bey R k (a + d)
        · exact (br_t (decide_eq_true be)).trans (r_ret _)
        · refine (br_f (decide_eq_false be)).trans ?_
          obtain ⟨ba, gL, gH⟩ := sag_grow (R := R) (k := k) (a := a) (b := a + d) (by omega) hi n1 n2 q0 q1 m0 (by omega) (by omega) be
          have hp : pl R k a = 0 := by unfold pl; rw [if_neg (fun hh => hh ⟨m0, by omega⟩), if_neg ba]
          have bd := bd_of (R := R) (k := k) (r := a) (by omega) hi n1 n2 q0 q1 hp
          have sb := sag_bd (R := R) (by omega) hi bd
          have s1 := k_SagP (r := a) ho (by omega) m0 (by omega) ba
          have s2 := k_SagP (r := a + d) ho (by omega) (by omega) (by omega) be
          have s3 := k_SagN (r := a) ho.neg (by omega) m0 (by omega) ba
          have g2 : IntKind.i64.wrap (0 - R) = -R := by rw [w64' (by omega) (by omega)]; omega
          have g3 : IntKind.i64.wrap (k.1 + 1) = k.1 + 1 := w64' (by omega) (by omega)
          have kl := k_Lowest (n := k.1 + 1) (d := k.2) (by omega) (by omega) (by omega) (by omega) (by omega)
          have lb := low_bd (n := k.1 + 1) (d := k.2) (by omega)
          have lc := low_cross (n := k.1 + 1) (d := k.2) (by omega)
          have gr := fun (h : coE (R, low (k.1 + 1) k.2) = 0) (hb : ¬ bey R (low (k.1 + 1) k.2) a) => sag_greater (R := R) (r := a) (k := k) (k' := low (k.1 + 1) k.2) (by omega) hi n1 n2 q0 q1 (coE_ok h).n1 (coE_ok h).n2 (coE_ok h).q0 (coE_ok h).q1 lc m0 (by omega) ba hb
          generalize low (k.1 + 1) k.2 = K at *
          have kc2 := k_rCheckConic (c := (R, K)) ⟨show -9223372036854775808 ≤ K.1 by omega, show K.1 ≤ 9223372036854775807 by omega⟩ ⟨show -9223372036854775808 ≤ K.2 by omega, show K.2 ≤ 9223372036854775807 by omega⟩
          generalize hx1 : sagLo R k a = x1 at *
          generalize hx2 : sagHi R k a = x2 at *
          have g4 : IntKind.i64.wrap (0 - x2) = -x2 := by rw [w64' (by omega) (by omega)]; omega
          have g5 : IntKind.i64.wrap (0 - x1) = -x1 := by rw [w64' (by omega) (by omega)]; omega
          refine (r_bs s1).trans ?_
          refine (r_bs s2).trans ?_
          simp only [g2, g3]
          refine (r_bs s3).trans ?_
          refine (br_f rfl).trans ?_
          refine (br_f rfl).trans ?_
          refine (br_f rfl).trans ?_
          refine (br_f (decide_eq_false (show ¬ sagLo R k (a + d) < x1 by omega))).trans ?_
          refine (br_f (decide_eq_false (show ¬ sagHi R k (a + d) < x2 by omega))).trans ?_
          dsimp only
          simp only [g4, g5]
          refine (br_f (by simp)).trans ?_
          refine (br_f (by simp)).trans ?_
          refine (r_bs kl).trans ?_
          refine (r_bs kc2).trans ?_
          by_cases c3 : coE (R, K) = 0
          · refine (br_f (by simp [c3])).trans ?_
            have ho2 := coE_ok c3
            have kb2 := k_Beyond (r := a) ho2 m0 (by omega)
            refine (r_bs kb2).trans ?_
            by_cases be2 : bey R K a
            · exact (br_t (decide_eq_true be2)).trans (r_ret _)
            · refine (br_f (decide_eq_false be2)).trans ?_
              have s4 := k_SagP (r := a) ho2 (by omega) m0 (by omega) be2
              obtain ⟨y1, y2⟩ := gr c3 be2
              refine (r_bs s4).trans ?_
              refine (br_t rfl).trans ?_
              refine (br_t (decide_eq_true y1)).trans ((r_ret _).trans ?_)
              show some ((decide (x2 ≤ sagHi R K a), ()), ()) = _
              rw [decide_eq_true y2]
          · exact (br_t (by simp [c3])).trans (r_ret _)
  · exact (br_t (by simp [c0])).trans (r_ret _)
end Go.Ab
