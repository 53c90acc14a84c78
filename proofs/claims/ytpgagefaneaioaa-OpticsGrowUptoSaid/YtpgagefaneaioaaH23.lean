/- The sag and the slope. -/
import Derived.Test.YtpgagefaneaioaaH9
namespace Go.Ab
open Go
set_option maxRecDepth 1000000
set_option maxHeartbeats 1000000
set_option linter.unusedVariables false
set_option linter.unusedSimpArgs false
attribute [local congr] bindC iterC


def sagLo (R : Int) (k : Int × Int) (r : Int) : Int := 100000 * r * r / (100 * R + rtu (radH R k r))
def sagHi (R : Int) (k : Int × Int) (r : Int) : Int := -(-(100000 * r * r) / (100 * R + rt (radL R k r)))
def slLo (R : Int) (k : Int × Int) (r : Int) : Int := 100000000 * r / rtu (radH R k r)
def slHi (R : Int) (k : Int × Int) (r : Int) : Int := -(-(100000000 * r) / rt (radL R k r))
/-- The range of a shape that was turned is turned. -/
def turnV (n : Int) (v : Int × Int) : Int × Int := if n < 0 then (-v.2, -v.1) else v
def sagV (c : Con) (r : Int) : Int × Int := if pl c.1 c.2 r = 0 then turnV c.1 (sagLo (ab c.1) c.2 r, sagHi (ab c.1) c.2 r) else (0, 0)
def slE (R : Int) (k : Int × Int) (r : Int) : Int := if pl R k r = 0 then (if rt (radL R k r) = 0 then 11 else 0) else pl R k r
def slV (c : Con) (r : Int) : Int × Int := if slE (ab c.1) c.2 r = 0 then turnV c.1 (slLo (ab c.1) c.2 r, slHi (ab c.1) c.2 r) else (0, 0)

theorem pl_zero {R : Int} {k : Int × Int} {r : Int} (h : pl R k r = 0) : (0 ≤ r ∧ r ≤ 1000000) ∧ ¬ bey R k r := by
  unfold pl at h
  split at h; · cases h
  split at h; · cases h
  rename_i h1 h2
  exact ⟨Decidable.of_not_not h1, h2⟩
theorem pl_ab (R : Int) (k : Int × Int) (r : Int) : pl (ab R) k r = pl R k r := by
  unfold pl
  simp only [bey_ab]
structure Bd (R : Int) (k : Int × Int) (r : Int) : Prop where
  l0 : 0 ≤ rt (radL R k r)
  l1 : rt (radL R k r) ≤ rtu (radH R k r)
  h1 : rtu (radH R k r) ≤ 2000000000
  p0 : 0 ≤ 100000 * r * r
  p1 : 100000 * r * r ≤ 100000000000000000
  r0 : 0 ≤ r
  r1 : r ≤ 1000000
theorem bd_of {R r : Int} {k : Int × Int} (h1 : -10000000 ≤ R) (h2 : R ≤ 10000000) (k1 : -100 ≤ k.1) (k2 : k.1 ≤ 100) (k3 : 0 < k.2) (k4 : k.2 ≤ 100) (h : pl R k r = 0) : Bd R k r := by
  obtain ⟨⟨r1, r2⟩, hb⟩ := pl_zero h
  have p := prods h1 h2 k1 k2 k3 k4 r1 r2
  have d := rads h1 h2 k1 k2 k3 k4 r1 r2 hb
  have s1 := rt_spec d.1
  have s2 := rtu_spec (n := radH R k r) (by omega)
  have s3 := rt_mono d.1 d.2.1
  have s4 := rt_bd (n := radH R k r) (m := 1999999999) (by omega) (by decide) (by omega)
  exact ⟨by omega, by omega, by omega, by omega, by omega, r1, r2⟩
theorem ab_bd {c : Con} (h : ConOk c) : 0 < ab c.1 ∧ ab c.1 ≤ 10000000 := by
  have := h.nz; have := h.lo; have := h.hi
  unfold ab; omega

theorem k_turn {R s q : Int} {n : Int} {v : Int × Int} (h1 : -9223372036854775807 ≤ v.1) (h2 : v.1 ≤ 9223372036854775807) (h3 : -9223372036854775807 ≤ v.2) (h4 : v.2 ≤ 9223372036854775807) :
    optics_shape_turn (R, s, q, decide (n < 0)) v = some ((turnV n v, ()), ()) := by
  simp only [optics_shape_turn, T_optics_shape_turn, turnV]
  by_cases c : n < 0
  · simp (maxSteps := 1000000) (disch := first | omega | assumption) only [↓r_ret, ↓r_fail, ↓r_br, ↓r_bind, ↓r_iter, ↓r_req, decide_eq_true_eq, Bool.not_eq_eq_eq_not, decide_eq_false_iff_not, ite_not, inB_t', app_t', bnd_t', str_t', nz_t, Int.reduceEq, Int.reduceLT, Int.reduceLE, w64', Option.bind_some, Option.bind_none, List.length_cons, List.length_nil, List.length_append, Nat.zero_add, if_pos, if_neg, decide_true, decide_false, if_true, if_false, Bool.not_true, Bool.not_false, Bool.false_eq_true, Bool.true_eq_false, not_true_eq_false, not_false_eq_true, ↓reduceIte, List.nil_append, c, Int.zero_sub]
  · simp (maxSteps := 1000000) (disch := first | omega | assumption) only [↓r_ret, ↓r_fail, ↓r_br, ↓r_bind, ↓r_iter, ↓r_req, decide_eq_true_eq, Bool.not_eq_eq_eq_not, decide_eq_false_iff_not, ite_not, inB_t', app_t', bnd_t', str_t', nz_t, Int.reduceEq, Int.reduceLT, Int.reduceLE, w64', Option.bind_some, Option.bind_none, List.length_cons, List.length_nil, List.length_append, Nat.zero_add, if_pos, if_neg, decide_true, decide_false, if_true, if_false, Bool.not_true, Bool.not_false, Bool.false_eq_true, Bool.true_eq_false, not_true_eq_false, not_false_eq_true, ↓reduceIte, List.nil_append, c, eta2]
theorem k_Opposite {v : Int × Int} (h1 : -9223372036854775807 ≤ v.1) (h2 : v.1 ≤ 9223372036854775807) (h3 : -9223372036854775807 ≤ v.2) (h4 : v.2 ≤ 9223372036854775807) : ref02xOpposite v = some (((-v.2, -v.1), ()), ()) := by
  simp only [ref02xOpposite, T_ref02xOpposite]
  simp (maxSteps := 1000000) (disch := first | omega | assumption) only [↓r_ret, ↓r_fail, ↓r_br, ↓r_bind, ↓r_iter, ↓r_req, decide_eq_true_eq, Bool.not_eq_eq_eq_not, decide_eq_false_iff_not, ite_not, inB_t', app_t', bnd_t', str_t', nz_t, Int.reduceEq, Int.reduceLT, Int.reduceLE, w64', Option.bind_some, Option.bind_none, List.length_cons, List.length_nil, List.length_append, Nat.zero_add, if_pos, if_neg, decide_true, decide_false, if_true, if_false, Bool.not_true, Bool.not_false, Bool.false_eq_true, Bool.true_eq_false, not_true_eq_false, not_false_eq_true, ↓reduceIte, List.nil_append, Int.zero_sub]
theorem sag_bd {R r : Int} {k : Int × Int} (hR : 0 < R) (hR2 : R ≤ 10000000) (b : Bd R k r) : (-100000000000000000 ≤ sagLo R k r ∧ sagLo R k r ≤ 100000000000000000) ∧ (-100000000000000000 ≤ sagHi R k r ∧ sagHi R k r ≤ 100000000000000000) := by
  obtain ⟨b1, b2, b3, b4, b5, b6, b7⟩ := b
  have d1 := ediv_bd (n := 100000 * r * r) (b := 100 * R + rtu (radH R k r)) (m := 100000000000000000) (by omega) (by omega) (by omega)
  have d2 := ediv_bd (n := -(100000 * r * r)) (b := 100 * R + rt (radL R k r)) (m := 100000000000000000) (by omega) (by omega) (by omega)
  unfold sagLo sagHi
  omega
theorem k_Sag {c : Con} {r : Int} (h : ConOk c) : optics_Sag c r = some ((sagV c r, pl c.1 c.2 r, ()), ()) := by
  have ka := k_at (r := r) h
  have hab := ab_bd h
  have q0 := h.q0; have q1 := h.q1
  simp only [optics_Sag, T_optics_Sag, sagV]
  by_cases c1 : pl c.1 c.2 r = 0
  · have c1' : pl (ab c.1) c.2 r = 0 := by rw [pl_ab]; exact c1
    have b := bd_of (R := ab c.1) (by omega) hab.2 h.n1 h.n2 q0 q1 c1'
    have kw := k_width (R := ab c.1) (t := decide (c.1 < 0)) (k := c.2) rfl rfl (by omega) hab.2 h.n1 h.n2 q0 q1 b.r0 b.r1 (pl_zero c1').2
    have sb := sag_bd hab.1 hab.2 b
    have kt := k_turn (R := ab c.1) (s := c.2.1 + c.2.2) (q := c.2.2) (n := c.1) (v := (sagLo (ab c.1) c.2 r, sagHi (ab c.1) c.2 r)) (by omega) (by omega) (by omega) (by omega)
    obtain ⟨b1, b2, b3, b4, b5, b6, b7⟩ := b
    have kf := k_floor (n := 100000 * r * r) (b := 100 * ab c.1 + rtu (radH (ab c.1) c.2 r)) (by omega) (by omega) (by omega) (by omega)
    have kc := k_ceil (n := 100000 * r * r) (b := 100 * ab c.1 + rt (radL (ab c.1) c.2 r)) (by omega) (by omega) (by omega) (by omega)
    unfold sagLo sagHi at *
    generalize ab c.1 = R at *
    generalize decide (c.1 < 0) = t at *
    generalize rtu (radH R c.2 r) = H at *
    generalize rt (radL R c.2 r) = L at *
    simp (maxSteps := 1000000) (disch := first | omega | assumption) only [↓r_ret, ↓r_fail, ↓r_br, ↓r_bind, ↓r_iter, ↓r_req, decide_eq_true_eq, Bool.not_eq_eq_eq_not, decide_eq_false_iff_not, ite_not, inB_t', app_t', bnd_t', str_t', nz_t, Int.reduceEq, Int.reduceLT, Int.reduceLE, w64', Option.bind_some, Option.bind_none, List.length_cons, List.length_nil, List.length_append, Nat.zero_add, if_pos, if_neg, decide_true, decide_false, if_true, if_false, Bool.not_true, Bool.not_false, Bool.false_eq_true, Bool.true_eq_false, not_true_eq_false, not_false_eq_true, ↓reduceIte, List.nil_append, ka, c1, kw, kf, kc, kt, eta2]
  · generalize ab c.1 = R at *
    generalize decide (c.1 < 0) = t at *
    simp (maxSteps := 1000000) (disch := first | omega | assumption) only [↓r_ret, ↓r_fail, ↓r_br, ↓r_bind, ↓r_iter, ↓r_req, decide_eq_true_eq, Bool.not_eq_eq_eq_not, decide_eq_false_iff_not, ite_not, inB_t', app_t', bnd_t', str_t', nz_t, Int.reduceEq, Int.reduceLT, Int.reduceLE, w64', Option.bind_some, Option.bind_none, List.length_cons, List.length_nil, List.length_append, Nat.zero_add, if_pos, if_neg, decide_true, decide_false, if_true, if_false, Bool.not_true, Bool.not_false, Bool.false_eq_true, Bool.true_eq_false, not_true_eq_false, not_false_eq_true, ↓reduceIte, List.nil_append, ka, c1, eta2]
theorem k_SagE {c : Con} {r : Int} (i1 : I64 c.2.1) (i2 : I64 c.2.2) (h : ¬ coE c = 0) : optics_Sag c r = some (((0, 0), coE c, ()), ()) := by
  have ka := k_atE (r := r) i1 i2 h
  simp only [optics_Sag, T_optics_Sag]
  simp (maxSteps := 1000000) (disch := first | omega | assumption) only [↓r_ret, ↓r_fail, ↓r_br, ↓r_bind, ↓r_iter, ↓r_req, decide_eq_true_eq, Bool.not_eq_eq_eq_not, decide_eq_false_iff_not, ite_not, inB_t', app_t', bnd_t', str_t', nz_t, Int.reduceEq, Int.reduceLT, Int.reduceLE, w64', Option.bind_some, Option.bind_none, List.length_cons, List.length_nil, List.length_append, Nat.zero_add, if_pos, if_neg, decide_true, decide_false, if_true, if_false, Bool.not_true, Bool.not_false, Bool.false_eq_true, Bool.true_eq_false, not_true_eq_false, not_false_eq_true, ↓reduceIte, List.nil_append, ka, h, eta2]
theorem k_Slope {c : Con} {r : Int} (h : ConOk c) : optics_Slope c r = some ((slV c r, slE (ab c.1) c.2 r, ()), ()) := by
  have ka := k_at (r := r) h
  have hab := ab_bd h
  have q0 := h.q0; have q1 := h.q1
  simp only [optics_Slope, T_optics_Slope]
  have hp := pl_ab c.1 c.2 r
  by_cases c1 : pl c.1 c.2 r = 0
  · have c1' : pl (ab c.1) c.2 r = 0 := by rw [pl_ab]; exact c1
    have b := bd_of (R := ab c.1) (by omega) hab.2 h.n1 h.n2 q0 q1 c1'
    have kw := k_width (R := ab c.1) (t := decide (c.1 < 0)) (k := c.2) rfl rfl (by omega) hab.2 h.n1 h.n2 q0 q1 b.r0 b.r1 (pl_zero c1').2
    obtain ⟨b1, b2, b3, b4, b5, b6, b7⟩ := b
    by_cases c2 : rt (radL (ab c.1) c.2 r) = 0
    · have hE : slE (ab c.1) c.2 r = 11 := by unfold slE; rw [if_pos c1', if_pos c2]
      have hV : slV c r = (0, 0) := by unfold slV; rw [hE]; rfl
      rw [hE, hV]
      generalize ab c.1 = R at *
      generalize decide (c.1 < 0) = t at *
      generalize rtu (radH R c.2 r) = H at *
      generalize rt (radL R c.2 r) = L at *
      subst c2
      simp (maxSteps := 1000000) (disch := first | omega | assumption) only [↓r_ret, ↓r_fail, ↓r_br, ↓r_bind, ↓r_iter, ↓r_req, decide_eq_true_eq, Bool.not_eq_eq_eq_not, decide_eq_false_iff_not, ite_not, inB_t', app_t', bnd_t', str_t', nz_t, Int.reduceEq, Int.reduceLT, Int.reduceLE, w64', Option.bind_some, Option.bind_none, List.length_cons, List.length_nil, List.length_append, Nat.zero_add, if_pos, if_neg, decide_true, decide_false, if_true, if_false, Bool.not_true, Bool.not_false, Bool.false_eq_true, Bool.true_eq_false, not_true_eq_false, not_false_eq_true, ↓reduceIte, List.nil_append, ka, c1, c1', kw, eta2]
    · have kf := k_floor (n := 100000000 * r) (b := rtu (radH (ab c.1) c.2 r)) (by omega) (by omega) (by omega) (by omega)
      have kc := k_ceil (n := 100000000 * r) (b := rt (radL (ab c.1) c.2 r)) (by omega) (by omega) (by omega) (by omega)
      have d1 := ediv_bd (n := 100000000 * r) (b := rtu (radH (ab c.1) c.2 r)) (m := 100000000000000000) (by omega) (by omega) (by omega)
      have d2 := ediv_bd (n := -(100000000 * r)) (b := rt (radL (ab c.1) c.2 r)) (m := 100000000000000000) (by omega) (by omega) (by omega)
      have kt := k_turn (R := ab c.1) (s := c.2.1 + c.2.2) (q := c.2.2) (n := c.1) (v := (slLo (ab c.1) c.2 r, slHi (ab c.1) c.2 r)) (by unfold slLo; omega) (by unfold slLo; omega) (by unfold slHi; omega) (by unfold slHi; omega)
      have hE : slE (ab c.1) c.2 r = 0 := by unfold slE; rw [if_pos c1', if_neg c2]
      have hV : slV c r = turnV c.1 (slLo (ab c.1) c.2 r, slHi (ab c.1) c.2 r) := by unfold slV; rw [if_pos hE]
      rw [hE, hV]
      unfold slLo slHi at *
      clear hE hV
      generalize ab c.1 = R at *
      generalize decide (c.1 < 0) = t at *
      generalize rtu (radH R c.2 r) = H at *
      generalize rt (radL R c.2 r) = L at *
      simp (maxSteps := 1000000) (disch := first | omega | assumption) only [↓r_ret, ↓r_fail, ↓r_br, ↓r_bind, ↓r_iter, ↓r_req, decide_eq_true_eq, Bool.not_eq_eq_eq_not, decide_eq_false_iff_not, ite_not, inB_t', app_t', bnd_t', str_t', nz_t, Int.reduceEq, Int.reduceLT, Int.reduceLE, w64', Option.bind_some, Option.bind_none, List.length_cons, List.length_nil, List.length_append, Nat.zero_add, if_pos, if_neg, decide_true, decide_false, if_true, if_false, Bool.not_true, Bool.not_false, Bool.false_eq_true, Bool.true_eq_false, not_true_eq_false, not_false_eq_true, ↓reduceIte, List.nil_append, ka, c1, c1', kw, c2, kf, kc, kt, eta2]
  · have c1' : ¬ pl (ab c.1) c.2 r = 0 := by rw [pl_ab]; exact c1
    have hE : slE (ab c.1) c.2 r = pl c.1 c.2 r := by unfold slE; rw [if_neg c1', hp]
    have hV : slV c r = (0, 0) := by unfold slV; rw [hE, if_neg c1]
    rw [hE, hV]
    clear hp c1' hE hV
    generalize ab c.1 = R at *
    generalize decide (c.1 < 0) = t at *
    simp (maxSteps := 1000000) (disch := first | omega | assumption) only [↓r_ret, ↓r_fail, ↓r_br, ↓r_bind, ↓r_iter, ↓r_req, decide_eq_true_eq, Bool.not_eq_eq_eq_not, decide_eq_false_iff_not, ite_not, inB_t', app_t', bnd_t', str_t', nz_t, Int.reduceEq, Int.reduceLT, Int.reduceLE, w64', Option.bind_some, Option.bind_none, List.length_cons, List.length_nil, List.length_append, Nat.zero_add, if_pos, if_neg, decide_true, decide_false, if_true, if_false, Bool.not_true, Bool.not_false, Bool.false_eq_true, Bool.true_eq_false, not_true_eq_false, not_false_eq_true, ↓reduceIte, List.nil_append, ka, c1, eta2]
theorem k_SlopeE {c : Con} {r : Int} (i1 : I64 c.2.1) (i2 : I64 c.2.2) (h : ¬ coE c = 0) : optics_Slope c r = some (((0, 0), coE c, ()), ()) := by
  have ka := k_atE (r := r) i1 i2 h
  simp only [optics_Slope, T_optics_Slope]
  simp (maxSteps := 1000000) (disch := first | omega | assumption) only [↓r_ret, ↓r_fail, ↓r_br, ↓r_bind, ↓r_iter, ↓r_req, decide_eq_true_eq, Bool.not_eq_eq_eq_not, decide_eq_false_iff_not, ite_not, inB_t', app_t', bnd_t', str_t', nz_t, Int.reduceEq, Int.reduceLT, Int.reduceLE, w64', Option.bind_some, Option.bind_none, List.length_cons, List.length_nil, List.length_append, Nat.zero_add, if_pos, if_neg, decide_true, decide_false, if_true, if_false, Bool.not_true, Bool.not_false, Bool.false_eq_true, Bool.true_eq_false, not_true_eq_false, not_false_eq_true, ↓reduceIte, List.nil_append, ka, h, eta2]

theorem k_rSagP (f : Con → Int → Option (((Int × Int) × (Int × Unit)) × Unit)) {c : Con} {r : Int} (h : ConOk c) (hp : 0 < c.1) : (T_ref02xSag f c r).run = some ((if pl c.1 c.2 r = 0 then (sagLo c.1 c.2 r, sagHi c.1 c.2 r) else (0, 0), pl c.1 c.2 r, ()), ()) := by
  have kp := k_place (r := r) h
  have hn : ¬ c.1 < 0 := by omega
  have q0 := h.q0; have q1 := h.q1; have hi := h.hi
  simp only [T_ref02xSag]
  by_cases c1 : pl c.1 c.2 r = 0
  · have b := bd_of h.lo h.hi h.n1 h.n2 q0 q1 c1
    have kr := k_roots h b.r0 b.r1 (pl_zero c1).2
    obtain ⟨b1, b2, b3, b4, b5, b6, b7⟩ := b
    have kf := k_Floor (n := 100000 * r * r) (b := 100 * c.1 + rtu (radH c.1 c.2 r)) (by omega) (by omega) (by omega) (by omega)
    have kc := k_Ceil (n := 100000 * r * r) (b := 100 * c.1 + rt (radL c.1 c.2 r)) (by omega) (by omega) (by omega) (by omega)
    unfold sagLo sagHi
    generalize rtu (radH c.1 c.2 r) = H at *
    generalize rt (radL c.1 c.2 r) = L at *
    simp (maxSteps := 1000000) (disch := first | omega | assumption) only [↓r_ret, ↓r_fail, ↓r_br, ↓r_bind, ↓r_iter, ↓r_req, decide_eq_true_eq, Bool.not_eq_eq_eq_not, decide_eq_false_iff_not, ite_not, inB_t', app_t', bnd_t', str_t', nz_t, Int.reduceEq, Int.reduceLT, Int.reduceLE, w64', Option.bind_some, Option.bind_none, List.length_cons, List.length_nil, List.length_append, Nat.zero_add, if_pos, if_neg, decide_true, decide_false, if_true, if_false, Bool.not_true, Bool.not_false, Bool.false_eq_true, Bool.true_eq_false, not_true_eq_false, not_false_eq_true, ↓reduceIte, List.nil_append, kp, c1, hn, kr, kf, kc, eta2]
  · simp (maxSteps := 1000000) (disch := first | omega | assumption) only [↓r_ret, ↓r_fail, ↓r_br, ↓r_bind, ↓r_iter, ↓r_req, decide_eq_true_eq, Bool.not_eq_eq_eq_not, decide_eq_false_iff_not, ite_not, inB_t', app_t', bnd_t', str_t', nz_t, Int.reduceEq, Int.reduceLT, Int.reduceLE, w64', Option.bind_some, Option.bind_none, List.length_cons, List.length_nil, List.length_append, Nat.zero_add, if_pos, if_neg, decide_true, decide_false, if_true, if_false, Bool.not_true, Bool.not_false, Bool.false_eq_true, Bool.true_eq_false, not_true_eq_false, not_false_eq_true, ↓reduceIte, List.nil_append, kp, c1, eta2]
theorem k_rSag {c : Con} {r : Int} (h : ConOk c) : ref02xSag c r = some ((sagV c r, pl c.1 c.2 r, ()), ()) := by
  obtain ⟨n, hn⟩ : ∃ n, FUEL = n + 1 + 1 := ⟨FUEL - 2, by have := fuel_big; omega⟩
  show ref02xSagF FUEL c r = _
  rw [hn]
  show (T_ref02xSag (ref02xSagF (n + 1)) c r).run = _
  rcases Int.lt_or_lt_of_ne h.nz with hp | hp
  · have kn : ref02xSagF (n + 1) (-c.1, c.2) r = _ := k_rSagP (ref02xSagF n) h.neg (show 0 < -c.1 by omega)
    have kp := k_place (r := r) h
    have hab : -c.1 = ab c.1 := by unfold ab; omega
    have hb := ab_bd h
    have q0 := h.q0; have q1 := h.q1; have lo := h.lo
    simp only at kn
    have e1 : IntKind.i64.wrap (0 - c.1) = -c.1 := by rw [w64' (by omega) (by omega)]; omega
    simp only [T_ref02xSag, sagV, turnV]
    by_cases c1 : pl c.1 c.2 r = 0
    · have c1' : pl (-c.1) c.2 r = 0 := by rw [pl_neg]; exact c1
      have b := bd_of (R := -c.1) (by omega) (by omega) h.n1 h.n2 q0 q1 c1'
      have sb := sag_bd (by omega) (by omega) b
      have ko := k_Opposite (v := (sagLo (-c.1) c.2 r, sagHi (-c.1) c.2 r)) (by omega) (by omega) (by omega) (by omega)
      rw [if_pos c1', c1'] at kn
      rw [← hab]
      generalize sagLo (-c.1) c.2 r = x1 at *
      generalize sagHi (-c.1) c.2 r = x2 at *
      simp (maxSteps := 1000000) (disch := first | omega | assumption) only [↓r_ret, ↓r_fail, ↓r_br, ↓r_bind, ↓r_iter, ↓r_req, decide_eq_true_eq, Bool.not_eq_eq_eq_not, decide_eq_false_iff_not, ite_not, inB_t', app_t', bnd_t', str_t', nz_t, Int.reduceEq, Int.reduceLT, Int.reduceLE, w64', Option.bind_some, Option.bind_none, List.length_cons, List.length_nil, List.length_append, Nat.zero_add, if_pos, if_neg, decide_true, decide_false, if_true, if_false, Bool.not_true, Bool.not_false, Bool.false_eq_true, Bool.true_eq_false, not_true_eq_false, not_false_eq_true, ↓reduceIte, List.nil_append, kp, c1, hp, e1, eta2, kn, ko]
    · simp (maxSteps := 1000000) (disch := first | omega | assumption) only [↓r_ret, ↓r_fail, ↓r_br, ↓r_bind, ↓r_iter, ↓r_req, decide_eq_true_eq, Bool.not_eq_eq_eq_not, decide_eq_false_iff_not, ite_not, inB_t', app_t', bnd_t', str_t', nz_t, Int.reduceEq, Int.reduceLT, Int.reduceLE, w64', Option.bind_some, Option.bind_none, List.length_cons, List.length_nil, List.length_append, Nat.zero_add, if_pos, if_neg, decide_true, decide_false, if_true, if_false, Bool.not_true, Bool.not_false, Bool.false_eq_true, Bool.true_eq_false, not_true_eq_false, not_false_eq_true, ↓reduceIte, List.nil_append, kp, c1, eta2]
  · rw [k_rSagP _ h hp]
    have hab : ab c.1 = c.1 := by unfold ab; omega
    unfold sagV turnV
    rw [hab, if_neg (show ¬ c.1 < 0 by omega)]
theorem k_rSlopeP (f : Con → Int → Option (((Int × Int) × (Int × Unit)) × Unit)) {c : Con} {r : Int} (h : ConOk c) (hp : 0 < c.1) : (T_ref02xSlope f c r).run = some ((if slE c.1 c.2 r = 0 then (slLo c.1 c.2 r, slHi c.1 c.2 r) else (0, 0), slE c.1 c.2 r, ()), ()) := by
  have kp := k_place (r := r) h
  have hn : ¬ c.1 < 0 := by omega
  have q0 := h.q0; have q1 := h.q1; have hi := h.hi
  simp only [T_ref02xSlope]
  by_cases c1 : pl c.1 c.2 r = 0
  · have b := bd_of h.lo h.hi h.n1 h.n2 q0 q1 c1
    have kr := k_roots h b.r0 b.r1 (pl_zero c1).2
    obtain ⟨b1, b2, b3, b4, b5, b6, b7⟩ := b
    by_cases c2 : rt (radL c.1 c.2 r) = 0
    · have hE : slE c.1 c.2 r = 11 := by unfold slE; rw [if_pos c1, if_pos c2]
      rw [hE, if_neg (by decide)]
      clear hE
      generalize rtu (radH c.1 c.2 r) = H at *
      generalize rt (radL c.1 c.2 r) = L at *
      subst c2
      simp (maxSteps := 1000000) (disch := first | omega | assumption) only [↓r_ret, ↓r_fail, ↓r_br, ↓r_bind, ↓r_iter, ↓r_req, decide_eq_true_eq, Bool.not_eq_eq_eq_not, decide_eq_false_iff_not, ite_not, inB_t', app_t', bnd_t', str_t', nz_t, Int.reduceEq, Int.reduceLT, Int.reduceLE, w64', Option.bind_some, Option.bind_none, List.length_cons, List.length_nil, List.length_append, Nat.zero_add, if_pos, if_neg, decide_true, decide_false, if_true, if_false, Bool.not_true, Bool.not_false, Bool.false_eq_true, Bool.true_eq_false, not_true_eq_false, not_false_eq_true, ↓reduceIte, List.nil_append, kp, c1, hn, kr, eta2]
    · have kf := k_Floor (n := 100000000 * r) (b := rtu (radH c.1 c.2 r)) (by omega) (by omega) (by omega) (by omega)
      have kc := k_Ceil (n := 100000000 * r) (b := rt (radL c.1 c.2 r)) (by omega) (by omega) (by omega) (by omega)
      have hE : slE c.1 c.2 r = 0 := by unfold slE; rw [if_pos c1, if_neg c2]
      rw [hE, if_pos rfl]
      clear hE
      unfold slLo slHi
      generalize rtu (radH c.1 c.2 r) = H at *
      generalize rt (radL c.1 c.2 r) = L at *
      simp (maxSteps := 1000000) (disch := first | omega | assumption) only [↓r_ret, ↓r_fail, ↓r_br, ↓r_bind, ↓r_iter, ↓r_req, decide_eq_true_eq, Bool.not_eq_eq_eq_not, decide_eq_false_iff_not, ite_not, inB_t', app_t', bnd_t', str_t', nz_t, Int.reduceEq, Int.reduceLT, Int.reduceLE, w64', Option.bind_some, Option.bind_none, List.length_cons, List.length_nil, List.length_append, Nat.zero_add, if_pos, if_neg, decide_true, decide_false, if_true, if_false, Bool.not_true, Bool.not_false, Bool.false_eq_true, Bool.true_eq_false, not_true_eq_false, not_false_eq_true, ↓reduceIte, List.nil_append, kp, c1, hn, kr, c2, kf, kc, eta2]
  · have hE : slE c.1 c.2 r = pl c.1 c.2 r := by unfold slE; rw [if_neg c1]
    rw [hE, if_neg c1]
    clear hE
    simp (maxSteps := 1000000) (disch := first | omega | assumption) only [↓r_ret, ↓r_fail, ↓r_br, ↓r_bind, ↓r_iter, ↓r_req, decide_eq_true_eq, Bool.not_eq_eq_eq_not, decide_eq_false_iff_not, ite_not, inB_t', app_t', bnd_t', str_t', nz_t, Int.reduceEq, Int.reduceLT, Int.reduceLE, w64', Option.bind_some, Option.bind_none, List.length_cons, List.length_nil, List.length_append, Nat.zero_add, if_pos, if_neg, decide_true, decide_false, if_true, if_false, Bool.not_true, Bool.not_false, Bool.false_eq_true, Bool.true_eq_false, not_true_eq_false, not_false_eq_true, ↓reduceIte, List.nil_append, kp, c1, eta2]
theorem k_rSlope {c : Con} {r : Int} (h : ConOk c) : ref02xSlope c r = some ((slV c r, slE (ab c.1) c.2 r, ()), ()) := by
  obtain ⟨n, hn⟩ : ∃ n, FUEL = n + 1 + 1 := ⟨FUEL - 2, by have := fuel_big; omega⟩
  show ref02xSlopeF FUEL c r = _
  rw [hn]
  show (T_ref02xSlope (ref02xSlopeF (n + 1)) c r).run = _
  rcases Int.lt_or_lt_of_ne h.nz with hp | hp
  · have kn : ref02xSlopeF (n + 1) (-c.1, c.2) r = _ := k_rSlopeP (ref02xSlopeF n) h.neg (show 0 < -c.1 by omega)
    have kp := k_place (r := r) h
    have hab : -c.1 = ab c.1 := by unfold ab; omega
    have hb := ab_bd h
    have q0 := h.q0; have q1 := h.q1; have lo := h.lo
    simp only at kn
    have e1 : IntKind.i64.wrap (0 - c.1) = -c.1 := by rw [w64' (by omega) (by omega)]; omega
    simp only [T_ref02xSlope, slV, turnV]
    rw [← hab]
    by_cases c1 : pl c.1 c.2 r = 0
    · have c1' : pl (-c.1) c.2 r = 0 := by rw [pl_neg]; exact c1
      have b := bd_of (R := -c.1) (by omega) (by omega) h.n1 h.n2 q0 q1 c1'
      obtain ⟨b1, b2, b3, b4, b5, b6, b7⟩ := b
      by_cases c2 : slE (-c.1) c.2 r = 0
      · have hL : ¬ rt (radL (-c.1) c.2 r) = 0 := by
          intro h0
          unfold slE at c2
          rw [if_pos c1', if_pos h0] at c2
          cases c2
        have d1 := ediv_bd (n := 100000000 * r) (b := rtu (radH (-c.1) c.2 r)) (m := 100000000000000000) (by omega) (by omega) (by omega)
        have d2 := ediv_bd (n := -(100000000 * r)) (b := rt (radL (-c.1) c.2 r)) (m := 100000000000000000) (by omega) (by omega) (by omega)
        have ko := k_Opposite (v := (slLo (-c.1) c.2 r, slHi (-c.1) c.2 r)) (by unfold slLo; omega) (by unfold slLo; omega) (by unfold slHi; omega) (by unfold slHi; omega)
        rw [if_pos c2, c2] at kn
        generalize slLo (-c.1) c.2 r = x1 at *
        generalize slHi (-c.1) c.2 r = x2 at *
        simp (maxSteps := 1000000) (disch := first | omega | assumption) only [↓r_ret, ↓r_fail, ↓r_br, ↓r_bind, ↓r_iter, ↓r_req, decide_eq_true_eq, Bool.not_eq_eq_eq_not, decide_eq_false_iff_not, ite_not, inB_t', app_t', bnd_t', str_t', nz_t, Int.reduceEq, Int.reduceLT, Int.reduceLE, w64', Option.bind_some, Option.bind_none, List.length_cons, List.length_nil, List.length_append, Nat.zero_add, if_pos, if_neg, decide_true, decide_false, if_true, if_false, Bool.not_true, Bool.not_false, Bool.false_eq_true, Bool.true_eq_false, not_true_eq_false, not_false_eq_true, ↓reduceIte, List.nil_append, kp, c1, hp, e1, eta2, kn, ko, c2]
      · rw [if_neg c2] at kn
        have ko := k_Opposite (v := (0, 0)) (by decide) (by decide) (by decide) (by decide)
        generalize slE (-c.1) c.2 r = x0 at *
        simp (maxSteps := 1000000) (disch := first | omega | assumption) only [↓r_ret, ↓r_fail, ↓r_br, ↓r_bind, ↓r_iter, ↓r_req, decide_eq_true_eq, Bool.not_eq_eq_eq_not, decide_eq_false_iff_not, ite_not, inB_t', app_t', bnd_t', str_t', nz_t, Int.reduceEq, Int.reduceLT, Int.reduceLE, w64', Option.bind_some, Option.bind_none, List.length_cons, List.length_nil, List.length_append, Nat.zero_add, if_pos, if_neg, decide_true, decide_false, if_true, if_false, Bool.not_true, Bool.not_false, Bool.false_eq_true, Bool.true_eq_false, not_true_eq_false, not_false_eq_true, ↓reduceIte, List.nil_append, kp, c1, hp, e1, eta2, kn, ko, c2]
        rfl
    · have c1' : ¬ pl (-c.1) c.2 r = 0 := by rw [pl_neg]; exact c1
      have e2 : slE (-c.1) c.2 r = pl c.1 c.2 r := by unfold slE; rw [if_neg c1', pl_neg]
      rw [e2]
      simp (maxSteps := 1000000) (disch := first | omega | assumption) only [↓r_ret, ↓r_fail, ↓r_br, ↓r_bind, ↓r_iter, ↓r_req, decide_eq_true_eq, Bool.not_eq_eq_eq_not, decide_eq_false_iff_not, ite_not, inB_t', app_t', bnd_t', str_t', nz_t, Int.reduceEq, Int.reduceLT, Int.reduceLE, w64', Option.bind_some, Option.bind_none, List.length_cons, List.length_nil, List.length_append, Nat.zero_add, if_pos, if_neg, decide_true, decide_false, if_true, if_false, Bool.not_true, Bool.not_false, Bool.false_eq_true, Bool.true_eq_false, not_true_eq_false, not_false_eq_true, ↓reduceIte, List.nil_append, kp, c1, eta2]
  · rw [k_rSlopeP _ h hp]
    have hab : ab c.1 = c.1 := by unfold ab; omega
    unfold slV turnV
    rw [hab, if_neg (show ¬ c.1 < 0 by omega)]

end Go.Ab
