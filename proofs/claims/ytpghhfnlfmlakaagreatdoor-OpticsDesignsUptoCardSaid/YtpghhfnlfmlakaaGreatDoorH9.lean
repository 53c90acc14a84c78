/- Conics: whether they are right, the edge, the sag, the slope. -/
import Derived.Test.YtpghhfnlfmlakaaGreatDoorH8
import Derived.Test.YtpghhfnlfmlakaaGreatDoorR1
namespace Go.Ab
open Go
set_option maxRecDepth 1000000
set_option maxHeartbeats 1000000
set_option linter.unusedVariables false
set_option linter.unusedSimpArgs false
attribute [local congr] bindC iterC

abbrev Con := Int × Int × Int
/-- The error of a conic. -/
def coE (c : Con) : Int := if c.1 = 0 then 2 else if ¬ (-10000000 ≤ c.1 ∧ c.1 ≤ 10000000) then 2 else if ¬ IsLow c.2 then 3 else if ¬ (-100 ≤ c.2.1 ∧ c.2.1 ≤ 100) then 2 else if 100 < c.2.2 then 2 else 0
structure ConOk (c : Con) : Prop where
  nz : c.1 ≠ 0
  lo : -10000000 ≤ c.1
  hi : c.1 ≤ 10000000
  low : IsLow c.2
  n1 : -100 ≤ c.2.1
  n2 : c.2.1 ≤ 100
  q0 : 0 < c.2.2
  q1 : c.2.2 ≤ 100
theorem coE_ok {c : Con} (h : coE c = 0) : ConOk c := by
  unfold coE at h
  split at h; · cases h
  split at h; · cases h
  split at h; · cases h
  split at h; · cases h
  split at h; · cases h
  rename_i h1 h2 h3 h4 h5
  have h2 := Decidable.of_not_not h2
  have h3 := Decidable.of_not_not h3
  have h4 := Decidable.of_not_not h4
  exact ⟨h1, h2.1, h2.2, h3, h4.1, h4.2, h3.1, by omega⟩
theorem ConOk.neg {c : Con} (h : ConOk c) : ConOk (-c.1, c.2) :=
  ⟨show -c.1 ≠ 0 by have := h.nz; omega, show -10000000 ≤ -c.1 by have := h.hi; omega, show -c.1 ≤ 10000000 by have := h.lo; omega, h.low, h.n1, h.n2, h.q0, h.q1⟩

theorem k_rCheckConic {c : Con} (h : I64 c.2.1) (h' : I64 c.2.2) : ref02xCheckConic c = some ((coE c, ()), ()) := by
  have kl := k_IsLowest (f := c.2) h h'
  simp only [ref02xCheckConic, T_ref02xCheckConic, coE]
  by_cases c1 : c.1 = 0
  · have d1 : decide (c.1 = 0) = true := decide_eq_true c1
    simp only [c1, d1]
    simp (maxSteps := 1000000) (disch := first | omega | assumption) only [↓r_ret, ↓r_fail, ↓r_br, ↓r_bind, ↓r_iter, ↓r_req, decide_eq_true_eq, Bool.not_eq_eq_eq_not, decide_eq_false_iff_not, ite_not, inB_t', app_t', bnd_t', str_t', nz_t, Int.reduceEq, Int.reduceLT, Int.reduceLE, w64', Option.bind_some, Option.bind_none, List.length_cons, List.length_nil, List.length_append, Nat.zero_add, if_pos, if_neg, decide_true, decide_false, if_true, if_false, Bool.not_true, Bool.not_false, Bool.false_eq_true, Bool.true_eq_false, not_true_eq_false, not_false_eq_true, ↓reduceIte, List.nil_append, ]
  · by_cases c2 : -10000000 ≤ c.1 ∧ c.1 ≤ 10000000
    · by_cases c3 : IsLow c.2
      · by_cases c4 : -100 ≤ c.2.1 ∧ c.2.1 ≤ 100
        · by_cases c5 : 100 < c.2.2
          · simp (maxSteps := 1000000) (disch := first | omega | assumption) only [↓r_ret, ↓r_fail, ↓r_br, ↓r_bind, ↓r_iter, ↓r_req, decide_eq_true_eq, Bool.not_eq_eq_eq_not, decide_eq_false_iff_not, ite_not, inB_t', app_t', bnd_t', str_t', nz_t, Int.reduceEq, Int.reduceLT, Int.reduceLE, w64', Option.bind_some, Option.bind_none, List.length_cons, List.length_nil, List.length_append, Nat.zero_add, if_pos, if_neg, decide_true, decide_false, if_true, if_false, Bool.not_true, Bool.not_false, Bool.false_eq_true, Bool.true_eq_false, not_true_eq_false, not_false_eq_true, ↓reduceIte, List.nil_append, c1, k_Within, c2, c3, c4, c5, kl, and_self, eta2]
          · simp (maxSteps := 1000000) (disch := first | omega | assumption) only [↓r_ret, ↓r_fail, ↓r_br, ↓r_bind, ↓r_iter, ↓r_req, decide_eq_true_eq, Bool.not_eq_eq_eq_not, decide_eq_false_iff_not, ite_not, inB_t', app_t', bnd_t', str_t', nz_t, Int.reduceEq, Int.reduceLT, Int.reduceLE, w64', Option.bind_some, Option.bind_none, List.length_cons, List.length_nil, List.length_append, Nat.zero_add, if_pos, if_neg, decide_true, decide_false, if_true, if_false, Bool.not_true, Bool.not_false, Bool.false_eq_true, Bool.true_eq_false, not_true_eq_false, not_false_eq_true, ↓reduceIte, List.nil_append, c1, k_Within, c2, c3, c4, c5, kl, and_self, eta2]
        · simp (maxSteps := 1000000) (disch := first | omega | assumption) only [↓r_ret, ↓r_fail, ↓r_br, ↓r_bind, ↓r_iter, ↓r_req, decide_eq_true_eq, Bool.not_eq_eq_eq_not, decide_eq_false_iff_not, ite_not, inB_t', app_t', bnd_t', str_t', nz_t, Int.reduceEq, Int.reduceLT, Int.reduceLE, w64', Option.bind_some, Option.bind_none, List.length_cons, List.length_nil, List.length_append, Nat.zero_add, if_pos, if_neg, decide_true, decide_false, if_true, if_false, Bool.not_true, Bool.not_false, Bool.false_eq_true, Bool.true_eq_false, not_true_eq_false, not_false_eq_true, ↓reduceIte, List.nil_append, c1, k_Within, c2, c3, c4, kl, and_self, eta2]
      · simp (maxSteps := 1000000) (disch := first | omega | assumption) only [↓r_ret, ↓r_fail, ↓r_br, ↓r_bind, ↓r_iter, ↓r_req, decide_eq_true_eq, Bool.not_eq_eq_eq_not, decide_eq_false_iff_not, ite_not, inB_t', app_t', bnd_t', str_t', nz_t, Int.reduceEq, Int.reduceLT, Int.reduceLE, w64', Option.bind_some, Option.bind_none, List.length_cons, List.length_nil, List.length_append, Nat.zero_add, if_pos, if_neg, decide_true, decide_false, if_true, if_false, Bool.not_true, Bool.not_false, Bool.false_eq_true, Bool.true_eq_false, not_true_eq_false, not_false_eq_true, ↓reduceIte, List.nil_append, c1, k_Within, c2, c3, kl, and_self, eta2]
    · simp (maxSteps := 1000000) (disch := first | omega | assumption) only [↓r_ret, ↓r_fail, ↓r_br, ↓r_bind, ↓r_iter, ↓r_req, decide_eq_true_eq, Bool.not_eq_eq_eq_not, decide_eq_false_iff_not, ite_not, inB_t', app_t', bnd_t', str_t', nz_t, Int.reduceEq, Int.reduceLT, Int.reduceLE, w64', Option.bind_some, Option.bind_none, List.length_cons, List.length_nil, List.length_append, Nat.zero_add, if_pos, if_neg, decide_true, decide_false, if_true, if_false, Bool.not_true, Bool.not_false, Bool.false_eq_true, Bool.true_eq_false, not_true_eq_false, not_false_eq_true, ↓reduceIte, List.nil_append, c1, k_Within, c2]
theorem k_CheckConic {c : Con} (h : I64 c.2.1) (h' : I64 c.2.2) : optics_CheckConic c = some ((coE c, ()), ()) := by
  simp only [I64] at h h'
  simp only [optics_CheckConic, T_optics_CheckConic, coE]
  by_cases c1 : c.1 = 0
  · have d1 : decide (c.1 = 0) = true := decide_eq_true c1
    simp only [c1, d1]
    simp (maxSteps := 1000000) (disch := first | omega | assumption) only [↓r_ret, ↓r_fail, ↓r_br, ↓r_bind, ↓r_iter, ↓r_req, decide_eq_true_eq, Bool.not_eq_eq_eq_not, decide_eq_false_iff_not, ite_not, inB_t', app_t', bnd_t', str_t', nz_t, Int.reduceEq, Int.reduceLT, Int.reduceLE, w64', Option.bind_some, Option.bind_none, List.length_cons, List.length_nil, List.length_append, Nat.zero_add, if_pos, if_neg, decide_true, decide_false, if_true, if_false, Bool.not_true, Bool.not_false, Bool.false_eq_true, Bool.true_eq_false, not_true_eq_false, not_false_eq_true, ↓reduceIte, List.nil_append, ]
  · by_cases c2 : -10000000 ≤ c.1 ∧ c.1 ≤ 10000000
    · by_cases c0 : c.2.2 ≤ 0
      · have c3 : ¬ IsLow c.2 := fun h => by have := h.1; omega
        simp (maxSteps := 1000000) (disch := first | omega | assumption) only [↓r_ret, ↓r_fail, ↓r_br, ↓r_bind, ↓r_iter, ↓r_req, decide_eq_true_eq, Bool.not_eq_eq_eq_not, decide_eq_false_iff_not, ite_not, inB_t', app_t', bnd_t', str_t', nz_t, Int.reduceEq, Int.reduceLT, Int.reduceLE, w64', Option.bind_some, Option.bind_none, List.length_cons, List.length_nil, List.length_append, Nat.zero_add, if_pos, if_neg, decide_true, decide_false, if_true, if_false, Bool.not_true, Bool.not_false, Bool.false_eq_true, Bool.true_eq_false, not_true_eq_false, not_false_eq_true, ↓reduceIte, List.nil_append, c1, k_small, c2, c0, c3, and_self]
      · have kg := k_ogcd (a := c.2.1) (b := c.2.2) h.1 h.2 (by omega) h'.2 (by omega)
        by_cases c6 : G c.2.1 c.2.2 = 1
        · have c3 : IsLow c.2 := ⟨by omega, c6⟩
          by_cases c4 : -100 ≤ c.2.1 ∧ c.2.1 ≤ 100
          · by_cases c5 : 100 < c.2.2
            · simp (maxSteps := 1000000) (disch := first | omega | assumption) only [↓r_ret, ↓r_fail, ↓r_br, ↓r_bind, ↓r_iter, ↓r_req, decide_eq_true_eq, Bool.not_eq_eq_eq_not, decide_eq_false_iff_not, ite_not, inB_t', app_t', bnd_t', str_t', nz_t, Int.reduceEq, Int.reduceLT, Int.reduceLE, w64', Option.bind_some, Option.bind_none, List.length_cons, List.length_nil, List.length_append, Nat.zero_add, if_pos, if_neg, decide_true, decide_false, if_true, if_false, Bool.not_true, Bool.not_false, Bool.false_eq_true, Bool.true_eq_false, not_true_eq_false, not_false_eq_true, ↓reduceIte, List.nil_append, c1, k_small, c2, c0, kg, c6, c3, c4, c5, and_self]
            · simp (maxSteps := 1000000) (disch := first | omega | assumption) only [↓r_ret, ↓r_fail, ↓r_br, ↓r_bind, ↓r_iter, ↓r_req, decide_eq_true_eq, Bool.not_eq_eq_eq_not, decide_eq_false_iff_not, ite_not, inB_t', app_t', bnd_t', str_t', nz_t, Int.reduceEq, Int.reduceLT, Int.reduceLE, w64', Option.bind_some, Option.bind_none, List.length_cons, List.length_nil, List.length_append, Nat.zero_add, if_pos, if_neg, decide_true, decide_false, if_true, if_false, Bool.not_true, Bool.not_false, Bool.false_eq_true, Bool.true_eq_false, not_true_eq_false, not_false_eq_true, ↓reduceIte, List.nil_append, c1, k_small, c2, c0, kg, c6, c3, c4, c5, and_self]
          · simp (maxSteps := 1000000) (disch := first | omega | assumption) only [↓r_ret, ↓r_fail, ↓r_br, ↓r_bind, ↓r_iter, ↓r_req, decide_eq_true_eq, Bool.not_eq_eq_eq_not, decide_eq_false_iff_not, ite_not, inB_t', app_t', bnd_t', str_t', nz_t, Int.reduceEq, Int.reduceLT, Int.reduceLE, w64', Option.bind_some, Option.bind_none, List.length_cons, List.length_nil, List.length_append, Nat.zero_add, if_pos, if_neg, decide_true, decide_false, if_true, if_false, Bool.not_true, Bool.not_false, Bool.false_eq_true, Bool.true_eq_false, not_true_eq_false, not_false_eq_true, ↓reduceIte, List.nil_append, c1, k_small, c2, c0, kg, c6, c3, c4, and_self]
        · have c3 : ¬ IsLow c.2 := fun h => c6 h.2
          simp (maxSteps := 1000000) (disch := first | omega | assumption) only [↓r_ret, ↓r_fail, ↓r_br, ↓r_bind, ↓r_iter, ↓r_req, decide_eq_true_eq, Bool.not_eq_eq_eq_not, decide_eq_false_iff_not, ite_not, inB_t', app_t', bnd_t', str_t', nz_t, Int.reduceEq, Int.reduceLT, Int.reduceLE, w64', Option.bind_some, Option.bind_none, List.length_cons, List.length_nil, List.length_append, Nat.zero_add, if_pos, if_neg, decide_true, decide_false, if_true, if_false, Bool.not_true, Bool.not_false, Bool.false_eq_true, Bool.true_eq_false, not_true_eq_false, not_false_eq_true, ↓reduceIte, List.nil_append, c1, k_small, c2, c0, kg, c6, c3, and_self]
    · simp (maxSteps := 1000000) (disch := first | omega | assumption) only [↓r_ret, ↓r_fail, ↓r_br, ↓r_bind, ↓r_iter, ↓r_req, decide_eq_true_eq, Bool.not_eq_eq_eq_not, decide_eq_false_iff_not, ite_not, inB_t', app_t', bnd_t', str_t', nz_t, Int.reduceEq, Int.reduceLT, Int.reduceLE, w64', Option.bind_some, Option.bind_none, List.length_cons, List.length_nil, List.length_append, Nat.zero_add, if_pos, if_neg, decide_true, decide_false, if_true, if_false, Bool.not_true, Bool.not_false, Bool.false_eq_true, Bool.true_eq_false, not_true_eq_false, not_false_eq_true, ↓reduceIte, List.nil_append, c1, k_small, c2]

/-- The bounds of what is multiplied. -/
theorem prods {R r : Int} {k : Int × Int} (h1 : -10000000 ≤ R) (h2 : R ≤ 10000000) (k1 : -100 ≤ k.1) (k2 : k.1 ≤ 100) (k3 : 0 < k.2) (k4 : k.2 ≤ 100) (r1 : 0 ≤ r) (r2 : r ≤ 1000000) :
    (-1000000000 ≤ k.2 * R ∧ k.2 * R ≤ 1000000000) ∧ (-10000000000000000 ≤ k.2 * R * R ∧ k.2 * R * R ≤ 10000000000000000) ∧ (-200000000 ≤ (k.1 + k.2) * r ∧ (k.1 + k.2) * r ≤ 200000000) ∧
    (-200000000000000 ≤ (k.1 + k.2) * r * r ∧ (k.1 + k.2) * r * r ≤ 200000000000000) ∧ (-1000000000000000000 ≤ 10000 * R * R ∧ 10000 * R * R ≤ 1000000000000000000) ∧
    (-2000000000000 ≤ 10000 * (k.1 + k.2) * r ∧ 10000 * (k.1 + k.2) * r ≤ 2000000000000) ∧ (-2000000000000000000 ≤ 10000 * (k.1 + k.2) * r * r ∧ 10000 * (k.1 + k.2) * r * r ≤ 2000000000000000000) ∧
    (0 ≤ 100000 * r * r ∧ 100000 * r * r ≤ 100000000000000000) := by
  have m1 := mul_bd (a := k.2) (b := R) (m := 100) (n := 10000000) (by omega) (by omega) (by omega) (by omega)
  have m2 := mul_bd (a := k.2 * R) (b := R) (m := 1000000000) (n := 10000000) (by omega) (by omega) (by omega) (by omega)
  have m3 := mul_bd (a := k.1 + k.2) (b := r) (m := 200) (n := 1000000) (by omega) (by omega) (by omega) (by omega)
  have m4 := mul_bd (a := (k.1 + k.2) * r) (b := r) (m := 200000000) (n := 1000000) (by omega) (by omega) (by omega) (by omega)
  have m5 := mul_bd (a := 10000 * R) (b := R) (m := 100000000000) (n := 10000000) (by omega) (by omega) (by omega) (by omega)
  have m6 := mul_bd (a := 10000 * (k.1 + k.2)) (b := r) (m := 2000000) (n := 1000000) (by omega) (by omega) (by omega) (by omega)
  have m7 := mul_bd (a := 10000 * (k.1 + k.2) * r) (b := r) (m := 2000000000000) (n := 1000000) (by omega) (by omega) (by omega) (by omega)
  have m8 := mul_bd (a := 100000 * r) (b := r) (m := 100000000000) (n := 1000000) (by omega) (by omega) (by omega) (by omega)
  have m9 := Int.mul_nonneg (show 0 ≤ 100000 * r by omega) r1
  omega

/-- Whether a distance is beyond the edge. -/
def bey (R : Int) (k : Int × Int) (r : Int) : Prop := k.2 * R * R < (k.1 + k.2) * r * r
instance (R : Int) (k : Int × Int) (r : Int) : Decidable (bey R k r) := inferInstanceAs (Decidable (_ < _))
theorem bey_neg (R : Int) (k : Int × Int) (r : Int) : bey (-R) k r ↔ bey R k r := by
  unfold bey
  rw [show k.2 * -R * -R = k.2 * R * R by grind]
theorem k_Beyond {c : Con} {r : Int} (h : ConOk c) (r1 : 0 ≤ r) (r2 : r ≤ 1000000) : ref02xBeyond c r = some ((decide (bey c.1 c.2 r), ()), ()) := by
  have p := prods h.lo h.hi h.n1 h.n2 h.q0 h.q1 r1 r2
  have n1 := h.n1; have n2 := h.n2; have q0 := h.q0; have q1 := h.q1
  have ko : ref02xOnePlus c = some ((c.2.1 + c.2.2, c.2.2, ()), ()) := by
    simp only [ref02xOnePlus, T_ref02xOnePlus]
    simp (maxSteps := 1000000) (disch := first | omega | assumption) only [↓r_ret, ↓r_fail, ↓r_br, ↓r_bind, ↓r_iter, ↓r_req, decide_eq_true_eq, Bool.not_eq_eq_eq_not, decide_eq_false_iff_not, ite_not, inB_t', app_t', bnd_t', str_t', nz_t, Int.reduceEq, Int.reduceLT, Int.reduceLE, w64', Option.bind_some, Option.bind_none, List.length_cons, List.length_nil, List.length_append, Nat.zero_add, if_pos, if_neg, decide_true, decide_false, if_true, if_false, Bool.not_true, Bool.not_false, Bool.false_eq_true, Bool.true_eq_false, not_true_eq_false, not_false_eq_true, ↓reduceIte, List.nil_append, ]
  simp only [ref02xBeyond, T_ref02xBeyond, bey]
  simp (maxSteps := 1000000) (disch := first | omega | assumption) only [↓r_ret, ↓r_fail, ↓r_br, ↓r_bind, ↓r_iter, ↓r_req, decide_eq_true_eq, Bool.not_eq_eq_eq_not, decide_eq_false_iff_not, ite_not, inB_t', app_t', bnd_t', str_t', nz_t, Int.reduceEq, Int.reduceLT, Int.reduceLE, w64', Option.bind_some, Option.bind_none, List.length_cons, List.length_nil, List.length_append, Nat.zero_add, if_pos, if_neg, decide_true, decide_false, if_true, if_false, Bool.not_true, Bool.not_false, Bool.false_eq_true, Bool.true_eq_false, not_true_eq_false, not_false_eq_true, ↓reduceIte, List.nil_append, ko, eta2]
  rfl
theorem k_beyond {R s q r : Int} {t : Bool} {k : Int × Int} (hs : s = k.1 + k.2) (hq : q = k.2) (h1 : -10000000 ≤ R) (h2 : R ≤ 10000000) (k1 : -100 ≤ k.1) (k2 : k.1 ≤ 100) (k3 : 0 < k.2) (k4 : k.2 ≤ 100) (r1 : 0 ≤ r) (r2 : r ≤ 1000000) :
    optics_shape_beyond (R, s, q, t) r = some ((decide (bey R k r), ()), ()) := by
  subst hs hq
  have p := prods h1 h2 k1 k2 k3 k4 r1 r2
  simp only [optics_shape_beyond, T_optics_shape_beyond, bey]
  simp (maxSteps := 1000000) (disch := first | omega | assumption) only [↓r_ret, ↓r_fail, ↓r_br, ↓r_bind, ↓r_iter, ↓r_req, decide_eq_true_eq, Bool.not_eq_eq_eq_not, decide_eq_false_iff_not, ite_not, inB_t', app_t', bnd_t', str_t', nz_t, Int.reduceEq, Int.reduceLT, Int.reduceLE, w64', Option.bind_some, Option.bind_none, List.length_cons, List.length_nil, List.length_append, Nat.zero_add, if_pos, if_neg, decide_true, decide_false, if_true, if_false, Bool.not_true, Bool.not_false, Bool.false_eq_true, Bool.true_eq_false, not_true_eq_false, not_false_eq_true, ↓reduceIte, List.nil_append, ]
  rfl
/-- The error of a distance. -/
def pl (R : Int) (k : Int × Int) (r : Int) : Int := if ¬ (0 ≤ r ∧ r ≤ 1000000) then 2 else if bey R k r then 12 else 0
/-- The radius without its sign. -/
def ab (R : Int) : Int := max R (-R)
theorem bey_ab (R : Int) (k : Int × Int) (r : Int) : bey (ab R) k r ↔ bey R k r := by
  unfold ab
  rcases Int.le_total 0 R with h | h
  · rw [show max R (-R) = R by omega]
  · rw [show max R (-R) = -R by omega]; exact bey_neg R k r
end Go.Ab
