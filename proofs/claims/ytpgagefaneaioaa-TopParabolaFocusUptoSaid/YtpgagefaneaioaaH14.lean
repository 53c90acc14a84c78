/- Points on conics, reflections. -/
import Derived.Test.YtpgagefaneaioaaH9
import Derived.Test.YtpgagefaneaioaaH3
import Derived.Test.YtpgagefaneaioaaG2
namespace Go.Ab
open Go
set_option maxRecDepth 1000000
set_option maxHeartbeats 1000000
set_option linter.unusedVariables false
set_option linter.unusedSimpArgs false
attribute [local congr] bindC iterC

theorem c_dotA {l : Bool} {p q : Fr} (_ : Agree l p q) {a1 a2 b1 b2 a1' a2' b1' b2' : Fr} (ha1 : Agree l a1 a1') (ha2 : Agree l a2 a2') (hb1 : Agree l b1 b1') (hb2 : Agree l b2 b2') :
    ∃ v', Agree (l || mull a1 b1 || mull a2 b2 || addl (mulv a1 b1) (mulv a2 b2)) (addv (mulv a1 b1) (mulv a2 b2)) v' ∧
      optics_counter_dot (a1', a2') (b1', b2') (e8 l) = some ((v', ()), (e8 (l || mull a1 b1 || mull a2 b2 || addl (mulv a1 b1) (mulv a2 b2)), ())) := c_dot ha1 ha2 hb1 hb2

/-- The error of a conic for rays, of a point, of a direction. -/
def raE (c : Con) : Int := if coE c ≠ 0 then coE c else if ¬ (-200000 ≤ c.1 ∧ c.1 ≤ 200000) then 2 else if ¬ (-10 ≤ c.2.1 ∧ c.2.1 ≤ 10) then 2 else if 10 < c.2.2 then 2 else 0
theorem k_checkRays {c : Con} (h : I64 c.2.1) (h' : I64 c.2.2) : optics_checkRays c = some ((raE c, ()), ()) := by
  have kc := k_CheckConic h h'
  simp only [optics_checkRays, T_optics_checkRays, raE]
  by_cases c0 : coE c = 0
  · by_cases c1 : -200000 ≤ c.1 ∧ c.1 ≤ 200000
    · by_cases c2 : -10 ≤ c.2.1 ∧ c.2.1 ≤ 10
      · by_cases c3 : 10 < c.2.2
        · simp (maxSteps := 1000000) (disch := first | omega | assumption) only [↓r_ret, ↓r_fail, ↓r_br, ↓r_bind, ↓r_iter, ↓r_req, decide_eq_true_eq, Bool.not_eq_eq_eq_not, decide_eq_false_iff_not, ite_not, inB_t', app_t', bnd_t', str_t', nz_t, Int.reduceEq, Int.reduceLT, Int.reduceLE, w64', Option.bind_some, Option.bind_none, List.length_cons, List.length_nil, List.length_append, Nat.zero_add, if_pos, if_neg, decide_true, decide_false, if_true, if_false, Bool.not_true, Bool.not_false, Bool.false_eq_true, Bool.true_eq_false, not_true_eq_false, not_false_eq_true, ↓reduceIte, List.nil_append, kc, c0, k_small, c1, c2, c3, and_self, eta2, ne_eq]
        · simp (maxSteps := 1000000) (disch := first | omega | assumption) only [↓r_ret, ↓r_fail, ↓r_br, ↓r_bind, ↓r_iter, ↓r_req, decide_eq_true_eq, Bool.not_eq_eq_eq_not, decide_eq_false_iff_not, ite_not, inB_t', app_t', bnd_t', str_t', nz_t, Int.reduceEq, Int.reduceLT, Int.reduceLE, w64', Option.bind_some, Option.bind_none, List.length_cons, List.length_nil, List.length_append, Nat.zero_add, if_pos, if_neg, decide_true, decide_false, if_true, if_false, Bool.not_true, Bool.not_false, Bool.false_eq_true, Bool.true_eq_false, not_true_eq_false, not_false_eq_true, ↓reduceIte, List.nil_append, kc, c0, k_small, c1, c2, c3, and_self, eta2, ne_eq]
      · simp (maxSteps := 1000000) (disch := first | omega | assumption) only [↓r_ret, ↓r_fail, ↓r_br, ↓r_bind, ↓r_iter, ↓r_req, decide_eq_true_eq, Bool.not_eq_eq_eq_not, decide_eq_false_iff_not, ite_not, inB_t', app_t', bnd_t', str_t', nz_t, Int.reduceEq, Int.reduceLT, Int.reduceLE, w64', Option.bind_some, Option.bind_none, List.length_cons, List.length_nil, List.length_append, Nat.zero_add, if_pos, if_neg, decide_true, decide_false, if_true, if_false, Bool.not_true, Bool.not_false, Bool.false_eq_true, Bool.true_eq_false, not_true_eq_false, not_false_eq_true, ↓reduceIte, List.nil_append, kc, c0, k_small, c1, c2, and_self, eta2, ne_eq]
    · simp (maxSteps := 1000000) (disch := first | omega | assumption) only [↓r_ret, ↓r_fail, ↓r_br, ↓r_bind, ↓r_iter, ↓r_req, decide_eq_true_eq, Bool.not_eq_eq_eq_not, decide_eq_false_iff_not, ite_not, inB_t', app_t', bnd_t', str_t', nz_t, Int.reduceEq, Int.reduceLT, Int.reduceLE, w64', Option.bind_some, Option.bind_none, List.length_cons, List.length_nil, List.length_append, Nat.zero_add, if_pos, if_neg, decide_true, decide_false, if_true, if_false, Bool.not_true, Bool.not_false, Bool.false_eq_true, Bool.true_eq_false, not_true_eq_false, not_false_eq_true, ↓reduceIte, List.nil_append, kc, c0, k_small, c1, eta2, ne_eq]
  · simp (maxSteps := 1000000) (disch := first | omega | assumption) only [↓r_ret, ↓r_fail, ↓r_br, ↓r_bind, ↓r_iter, ↓r_req, decide_eq_true_eq, Bool.not_eq_eq_eq_not, decide_eq_false_iff_not, ite_not, inB_t', app_t', bnd_t', str_t', nz_t, Int.reduceEq, Int.reduceLT, Int.reduceLE, w64', Option.bind_some, Option.bind_none, List.length_cons, List.length_nil, List.length_append, Nat.zero_add, if_pos, if_neg, decide_true, decide_false, if_true, if_false, Bool.not_true, Bool.not_false, Bool.false_eq_true, Bool.true_eq_false, not_true_eq_false, not_false_eq_true, ↓reduceIte, List.nil_append, kc, c0, eta2, ne_eq]
theorem k_rCheckRays {c : Con} (h : I64 c.2.1) (h' : I64 c.2.2) : ref02xCheckRays c = some ((raE c, ()), ()) := by
  have kc := k_rCheckConic h h'
  simp only [ref02xCheckRays, T_ref02xCheckRays, raE]
  by_cases c0 : coE c = 0
  · by_cases c1 : -200000 ≤ c.1 ∧ c.1 ≤ 200000
    · by_cases c2 : -10 ≤ c.2.1 ∧ c.2.1 ≤ 10
      · by_cases c3 : 10 < c.2.2
        · simp (maxSteps := 1000000) (disch := first | omega | assumption) only [↓r_ret, ↓r_fail, ↓r_br, ↓r_bind, ↓r_iter, ↓r_req, decide_eq_true_eq, Bool.not_eq_eq_eq_not, decide_eq_false_iff_not, ite_not, inB_t', app_t', bnd_t', str_t', nz_t, Int.reduceEq, Int.reduceLT, Int.reduceLE, w64', Option.bind_some, Option.bind_none, List.length_cons, List.length_nil, List.length_append, Nat.zero_add, if_pos, if_neg, decide_true, decide_false, if_true, if_false, Bool.not_true, Bool.not_false, Bool.false_eq_true, Bool.true_eq_false, not_true_eq_false, not_false_eq_true, ↓reduceIte, List.nil_append, kc, c0, k_Within, c1, c2, c3, and_self, eta2, ne_eq]
        · simp (maxSteps := 1000000) (disch := first | omega | assumption) only [↓r_ret, ↓r_fail, ↓r_br, ↓r_bind, ↓r_iter, ↓r_req, decide_eq_true_eq, Bool.not_eq_eq_eq_not, decide_eq_false_iff_not, ite_not, inB_t', app_t', bnd_t', str_t', nz_t, Int.reduceEq, Int.reduceLT, Int.reduceLE, w64', Option.bind_some, Option.bind_none, List.length_cons, List.length_nil, List.length_append, Nat.zero_add, if_pos, if_neg, decide_true, decide_false, if_true, if_false, Bool.not_true, Bool.not_false, Bool.false_eq_true, Bool.true_eq_false, not_true_eq_false, not_false_eq_true, ↓reduceIte, List.nil_append, kc, c0, k_Within, c1, c2, c3, and_self, eta2, ne_eq]
      · simp (maxSteps := 1000000) (disch := first | omega | assumption) only [↓r_ret, ↓r_fail, ↓r_br, ↓r_bind, ↓r_iter, ↓r_req, decide_eq_true_eq, Bool.not_eq_eq_eq_not, decide_eq_false_iff_not, ite_not, inB_t', app_t', bnd_t', str_t', nz_t, Int.reduceEq, Int.reduceLT, Int.reduceLE, w64', Option.bind_some, Option.bind_none, List.length_cons, List.length_nil, List.length_append, Nat.zero_add, if_pos, if_neg, decide_true, decide_false, if_true, if_false, Bool.not_true, Bool.not_false, Bool.false_eq_true, Bool.true_eq_false, not_true_eq_false, not_false_eq_true, ↓reduceIte, List.nil_append, kc, c0, k_Within, c1, c2, and_self, eta2, ne_eq]
    · simp (maxSteps := 1000000) (disch := first | omega | assumption) only [↓r_ret, ↓r_fail, ↓r_br, ↓r_bind, ↓r_iter, ↓r_req, decide_eq_true_eq, Bool.not_eq_eq_eq_not, decide_eq_false_iff_not, ite_not, inB_t', app_t', bnd_t', str_t', nz_t, Int.reduceEq, Int.reduceLT, Int.reduceLE, w64', Option.bind_some, Option.bind_none, List.length_cons, List.length_nil, List.length_append, Nat.zero_add, if_pos, if_neg, decide_true, decide_false, if_true, if_false, Bool.not_true, Bool.not_false, Bool.false_eq_true, Bool.true_eq_false, not_true_eq_false, not_false_eq_true, ↓reduceIte, List.nil_append, kc, c0, k_Within, c1, eta2, ne_eq]
  · simp (maxSteps := 1000000) (disch := first | omega | assumption) only [↓r_ret, ↓r_fail, ↓r_br, ↓r_bind, ↓r_iter, ↓r_req, decide_eq_true_eq, Bool.not_eq_eq_eq_not, decide_eq_false_iff_not, ite_not, inB_t', app_t', bnd_t', str_t', nz_t, Int.reduceEq, Int.reduceLT, Int.reduceLE, w64', Option.bind_some, Option.bind_none, List.length_cons, List.length_nil, List.length_append, Nat.zero_add, if_pos, if_neg, decide_true, decide_false, if_true, if_false, Bool.not_true, Bool.not_false, Bool.false_eq_true, Bool.true_eq_false, not_true_eq_false, not_false_eq_true, ↓reduceIte, List.nil_append, kc, c0, eta2, ne_eq]
theorem raE_ok {c : Con} (h : raE c = 0) : ConOk c ∧ (-200000 ≤ c.1 ∧ c.1 ≤ 200000) ∧ (-10 ≤ c.2.1 ∧ c.2.1 ≤ 10) ∧ c.2.2 ≤ 10 := by
  unfold raE at h
  split at h; · contradiction
  split at h; · cases h
  split at h; · cases h
  split at h; · cases h
  rename_i h1 h2 h3 h4
  exact ⟨coE_ok (Decidable.of_not_not h1), Decidable.of_not_not h2, Decidable.of_not_not h3, by omega⟩
def spE (p : Sp) : Int := if cfE p.1 ≠ 0 then cfE p.1 else cfE p.2
theorem spE_ok {p : Sp} (h : spE p = 0) : Small p.1 ∧ Small p.2 := by
  unfold spE at h
  split at h
  · contradiction
  · rename_i h1
    exact ⟨cfE_zero.1 (Decidable.of_not_not h1), cfE_zero.1 h⟩
theorem k_CheckSpot {p : Sp} (h1 : IF p.1) (h2 : IF p.2) : ref02xCheckSpot p = some ((spE p, ()), ()) := by
  have k1 := k_rCheckFrac h1.1 h1.2
  have k2 := k_rCheckFrac h2.1 h2.2
  simp only [ref02xCheckSpot, T_ref02xCheckSpot, spE]
  by_cases c : cfE p.1 = 0
  · simp (maxSteps := 1000000) (disch := first | omega | assumption) only [↓r_ret, ↓r_fail, ↓r_br, ↓r_bind, ↓r_iter, ↓r_req, decide_eq_true_eq, Bool.not_eq_eq_eq_not, decide_eq_false_iff_not, ite_not, inB_t', app_t', bnd_t', str_t', nz_t, Int.reduceEq, Int.reduceLT, Int.reduceLE, w64', Option.bind_some, Option.bind_none, List.length_cons, List.length_nil, List.length_append, Nat.zero_add, if_pos, if_neg, decide_true, decide_false, if_true, if_false, Bool.not_true, Bool.not_false, Bool.false_eq_true, Bool.true_eq_false, not_true_eq_false, not_false_eq_true, ↓reduceIte, List.nil_append, k1, k2, c, eta2, ne_eq]
  · simp (maxSteps := 1000000) (disch := first | omega | assumption) only [↓r_ret, ↓r_fail, ↓r_br, ↓r_bind, ↓r_iter, ↓r_req, decide_eq_true_eq, Bool.not_eq_eq_eq_not, decide_eq_false_iff_not, ite_not, inB_t', app_t', bnd_t', str_t', nz_t, Int.reduceEq, Int.reduceLT, Int.reduceLE, w64', Option.bind_some, Option.bind_none, List.length_cons, List.length_nil, List.length_append, Nat.zero_add, if_pos, if_neg, decide_true, decide_false, if_true, if_false, Bool.not_true, Bool.not_false, Bool.false_eq_true, Bool.true_eq_false, not_true_eq_false, not_false_eq_true, ↓reduceIte, List.nil_append, k1, c, eta2, ne_eq]
theorem k_ocheck2 {p : Sp} (h1 : IF p.1) (h2 : IF p.2) : optics_checkFracs [p.1, p.2] = some ((spE p, ()), ()) := by
  rw [k_ocheckFracs (by simp) (by
    intro i hi
    simp only [List.length_cons, List.length_nil] at hi
    match i, hi with
    | 0, _ => exact h1
    | 1, _ => exact h2)]
  rfl
def twE (v : Int × Int) : Int := if ¬ (-1000 ≤ v.1 ∧ v.1 ≤ 1000) then 2 else if ¬ (-1000 ≤ v.2 ∧ v.2 ≤ 1000) then 2 else if v.1 = 0 ∧ v.2 = 0 then 11 else 0
theorem k_CheckToward (v : Int × Int) : ref02xCheckToward v = some ((twE v, ()), ()) := by
  simp only [ref02xCheckToward, T_ref02xCheckToward, twE]
  by_cases c1 : -1000 ≤ v.1 ∧ v.1 ≤ 1000
  · by_cases c2 : -1000 ≤ v.2 ∧ v.2 ≤ 1000
    · rw [if_neg (fun h => h c1), if_neg (fun h => h c2)]
      have w1 := k_Within v.1 (-1000) 1000
      have w2 := k_Within v.2 (-1000) 1000
      refine (r_bs w1).trans ?_
      refine (br_f (by simp [c1])).trans ?_
      refine (r_bs w2).trans ?_
      refine (br_f (by simp [c2])).trans ?_
      by_cases c3 : v.1 = 0
      · refine (br_t (decide_eq_true c3)).trans ?_
        by_cases c4 : v.2 = 0
        · rw [if_pos ⟨c3, c4⟩]
          exact (br_t (decide_eq_true c4)).trans (r_ret _)
        · rw [if_neg (fun h => c4 h.2)]
          exact (br_f (decide_eq_false c4)).trans (r_ret _)
      · rw [if_neg (fun h => c3 h.1)]
        exact (br_f (decide_eq_false c3)).trans (r_ret _)
    · simp (maxSteps := 1000000) (disch := first | omega | assumption) only [↓r_ret, ↓r_fail, ↓r_br, ↓r_bind, ↓r_iter, ↓r_req, decide_eq_true_eq, Bool.not_eq_eq_eq_not, decide_eq_false_iff_not, ite_not, inB_t', app_t', bnd_t', str_t', nz_t, Int.reduceEq, Int.reduceLT, Int.reduceLE, w64', Option.bind_some, Option.bind_none, List.length_cons, List.length_nil, List.length_append, Nat.zero_add, if_pos, if_neg, decide_true, decide_false, if_true, if_false, Bool.not_true, Bool.not_false, Bool.false_eq_true, Bool.true_eq_false, not_true_eq_false, not_false_eq_true, ↓reduceIte, List.nil_append, k_Within, c1, c2, and_self]
  · simp (maxSteps := 1000000) (disch := first | omega | assumption) only [↓r_ret, ↓r_fail, ↓r_br, ↓r_bind, ↓r_iter, ↓r_req, decide_eq_true_eq, Bool.not_eq_eq_eq_not, decide_eq_false_iff_not, ite_not, inB_t', app_t', bnd_t', str_t', nz_t, Int.reduceEq, Int.reduceLT, Int.reduceLE, w64', Option.bind_some, Option.bind_none, List.length_cons, List.length_nil, List.length_append, Nat.zero_add, if_pos, if_neg, decide_true, decide_false, if_true, if_false, Bool.not_true, Bool.not_false, Bool.false_eq_true, Bool.true_eq_false, not_true_eq_false, not_false_eq_true, ↓reduceIte, List.nil_append, k_Within, c1]
theorem twE_ok {v : Int × Int} (h : twE v = 0) : (-1000 ≤ v.1 ∧ v.1 ≤ 1000) ∧ (-1000 ≤ v.2 ∧ v.2 ≤ 1000) ∧ ¬ (v.1 = 0 ∧ v.2 = 0) := by
  unfold twE at h
  split at h; · cases h
  split at h; · cases h
  split at h; · cases h
  rename_i h1 h2 h3
  exact ⟨Decidable.of_not_not h1, Decidable.of_not_not h2, h3⟩

/-- 1 + K. -/
def onek (x : Con) : Fr := (x.2.1 + x.2.2, x.2.2)
theorem onek_small {x : Con} (h : raE x = 0) : Small (onek x) := by
  obtain ⟨xo, _, x2, x3⟩ := raE_ok h
  have l := xo.low
  refine ⟨⟨l.1, ?_⟩, show -1000000000 ≤ x.2.1 + x.2.2 by have := l.1; omega, show x.2.1 + x.2.2 ≤ 1000000000 by omega, show x.2.2 ≤ 1000000000 by omega⟩
  have := l.2
  unfold G onek at *
  rw [show Int.gcd (x.2.1 + x.2.2, x.2.2).1 (x.2.1 + x.2.2, x.2.2).2 = Int.gcd x.2.1 x.2.2 from by simp]
  exact this
theorem k_bend {x : Con} (h : raE x = 0) : optics_bend x = some ((onek x, ()), ()) := by
  obtain ⟨xo, _, x2, x3⟩ := raE_ok h
  have q0 := xo.q0
  simp only [optics_bend, T_optics_bend, onek]
  simp (maxSteps := 1000000) (disch := first | omega | assumption) only [↓r_ret, ↓r_fail, ↓r_br, ↓r_bind, ↓r_iter, ↓r_req, decide_eq_true_eq, Bool.not_eq_eq_eq_not, decide_eq_false_iff_not, ite_not, inB_t', app_t', bnd_t', str_t', nz_t, Int.reduceEq, Int.reduceLT, Int.reduceLE, w64', Option.bind_some, Option.bind_none, List.length_cons, List.length_nil, List.length_append, Nat.zero_add, if_pos, if_neg, decide_true, decide_false, if_true, if_false, Bool.not_true, Bool.not_false, Bool.false_eq_true, Bool.true_eq_false, not_true_eq_false, not_false_eq_true, ↓reduceIte, List.nil_append, ]
theorem k_one {x : Con} (h : raE x = 0) : ref02xone x = some ((onek x, ()), ()) := by
  obtain ⟨xo, _, x2, x3⟩ := raE_ok h
  have q0 := xo.q0
  have ko : ref02xOnePlus x = some ((x.2.1 + x.2.2, x.2.2, ()), ()) := by
    simp only [ref02xOnePlus, T_ref02xOnePlus]
    simp (maxSteps := 1000000) (disch := first | omega | assumption) only [↓r_ret, ↓r_fail, ↓r_br, ↓r_bind, ↓r_iter, ↓r_req, decide_eq_true_eq, Bool.not_eq_eq_eq_not, decide_eq_false_iff_not, ite_not, inB_t', app_t', bnd_t', str_t', nz_t, Int.reduceEq, Int.reduceLT, Int.reduceLE, w64', Option.bind_some, Option.bind_none, List.length_cons, List.length_nil, List.length_append, Nat.zero_add, if_pos, if_neg, decide_true, decide_false, if_true, if_false, Bool.not_true, Bool.not_false, Bool.false_eq_true, Bool.true_eq_false, not_true_eq_false, not_false_eq_true, ↓reduceIte, List.nil_append, ]
  have kl := k_Lowest (n := x.2.1 + x.2.2) (d := x.2.2) (by omega) (by omega) (by omega) (by omega) (by omega)
  have hs := low_self (onek_small h).1
  unfold onek at hs
  simp only [ref02xone, T_ref02xone, onek]
  dsimp only at hs
  rw [hs] at kl
  simp (maxSteps := 1000000) (disch := first | omega | assumption) only [↓r_ret, ↓r_fail, ↓r_br, ↓r_bind, ↓r_iter, ↓r_req, decide_eq_true_eq, Bool.not_eq_eq_eq_not, decide_eq_false_iff_not, ite_not, inB_t', app_t', bnd_t', str_t', nz_t, Int.reduceEq, Int.reduceLT, Int.reduceLE, w64', Option.bind_some, Option.bind_none, List.length_cons, List.length_nil, List.length_append, Nat.zero_add, if_pos, if_neg, decide_true, decide_false, if_true, if_false, Bool.not_true, Bool.not_false, Bool.false_eq_true, Bool.true_eq_false, not_true_eq_false, not_false_eq_true, ↓reduceIte, List.nil_append, ko, kl, eta2]

/-- By how much a point is off a conic; whether a number on the way was large. -/
def offV (x : Con) (p : Sp) : Fr := subv (addv (mulv p.1 p.1) (mulv (onek x) (mulv p.2 p.2))) (mulv (2 * x.1, 1) p.2)
def offL (x : Con) (p : Sp) : Bool := false || mull p.1 p.1 || mull p.2 p.2 || mull (onek x) (mulv p.2 p.2) || addl (mulv p.1 p.1) (mulv (onek x) (mulv p.2 p.2)) || mull (2 * x.1, 1) p.2 || subl (addv (mulv p.1 p.1) (mulv (onek x) (mulv p.2 p.2))) (mulv (2 * x.1, 1) p.2)
def onB (x : Con) (p : Sp) : Bool := if offL x p = true then false else decide ((offV x p).1 = 0)
theorem k_rOnConic {x : Con} {p : Sp} (h : raE x = 0) (h1 : Small p.1) (h2 : Small p.2) : ref02xOnConic x p = some ((onB x p, e8 (offL x p), ()), ()) := by
  obtain ⟨xo, x1, x2, x3⟩ := raE_ok h
  have hk := onek_small h
  have sw : Small (2 * x.1, 1) := small_one (by omega) (by omega)
  have ew : IntKind.i64.wrap (2 * x.1) = 2 * x.1 := w64' (by omega) (by omega)
  have r0 := k_rMul h1 h1 false
  have r2 := k_rMul h2 h2 (false || mull p.1 p.1)
  have r3 := k_rMul hk (small_mulv p.2 p.2) (false || mull p.1 p.1 || mull p.2 p.2)
  have r4 := k_rAdd (small_mulv p.1 p.1) (small_mulv (onek x) (mulv p.2 p.2)) (false || mull p.1 p.1 || mull p.2 p.2 || mull (onek x) (mulv p.2 p.2))
  have r6 := k_rMul sw h2 (false || mull p.1 p.1 || mull p.2 p.2 || mull (onek x) (mulv p.2 p.2) || addl (mulv p.1 p.1) (mulv (onek x) (mulv p.2 p.2)))
  have r7 := k_rSub (small_addv (mulv p.1 p.1) (mulv (onek x) (mulv p.2 p.2))) (small_mulv (2 * x.1, 1) p.2) (false || mull p.1 p.1 || mull p.2 p.2 || mull (onek x) (mulv p.2 p.2) || addl (mulv p.1 p.1) (mulv (onek x) (mulv p.2 p.2)) || mull (2 * x.1, 1) p.2)
  simp only [ref02xOnConic, T_ref02xOnConic]
  refine (r_bs r0).trans ?_
  refine (r_bs (k_one h)).trans ?_
  refine (r_bs r2).trans ?_
  refine (r_bs r3).trans ?_
  refine (r_bs r4).trans ?_
  rw [ew]
  refine (r_bs (k_rWhole (2 * x.1))).trans ?_
  refine (r_bs r6).trans ?_
  refine (r_bs r7).trans ?_
  unfold onB
  cases hL : offL x p with
  | true => exact (br_t hL).trans (r_ret _)
  | false => exact (br_f hL).trans (r_ret _)
theorem k_OnConic {x : Con} {p : Sp} (h : raE x = 0) (h1 : Small p.1) (h2 : Small p.2) (i1 : I64 x.2.1) (i2 : I64 x.2.2) : optics_OnConic x p = some ((onB x p, e8 (offL x p), ()), ()) := by
  obtain ⟨xo, x1, x2, x3⟩ := raE_ok h
  have hk := onek_small h
  have sw : Small (2 * x.1, 1) := small_one (by omega) (by omega)
  have ew : IntKind.i64.wrap (2 * x.1) = 2 * x.1 := w64' (by omega) (by omega)
  have kr := k_checkRays i1 i2
  rw [h] at kr
  have kf := k_ocheck2 h1.i h2.i
  rw [show spE p = 0 by unfold spE; rw [cfE_of h1, cfE_of h2]; rfl] at kf
  obtain ⟨v0, g0, q0⟩ := c_mul (l := false) (.self h1) (.self h1)
  obtain ⟨v2, g2, q2⟩ := c_mulA g0 (.self h2) (.self h2)
  obtain ⟨v3, g3, q3⟩ := c_mulA g2 (.self hk) g2
  obtain ⟨v4, g4, q4⟩ := c_addA g3 g0.o.o g3
  obtain ⟨v6, g6, q6⟩ := c_mulA g4 (.self sw) (.self h2)
  obtain ⟨v7, g7, q7⟩ := c_subA g6 g4.o g6
  rw [show e8 false = 0 from rfl] at q0
  have koff : optics_counter_off x p 0 = some ((v7, ()), (e8 (offL x p), ())) := by
    simp only [optics_counter_off, T_optics_counter_off]
    refine (r_bs q0).trans ?_
    refine (r_bs (k_bend h)).trans ?_
    refine (r_bs q2).trans ?_
    refine (r_bs q3).trans ?_
    refine (r_bs q4).trans ?_
    rw [ew]
    refine (r_bs (k_owhole (2 * x.1))).trans ?_
    refine (r_bs q6).trans ?_
    refine (r_bs q7).trans ?_
    exact r_ret _
  have kt := k_toldB (decide (v7.1 = 0)) (offL x p)
  have s7 : offL x p = false → v7 = offV x p := fun hl => g7.same hl
  simp only [optics_OnConic, T_optics_OnConic]
  refine (r_bs kr).trans ?_
  refine (br_f rfl).trans ?_
  refine (r_bs kf).trans ?_
  refine (br_f rfl).trans ?_
  refine (r_bs koff).trans ?_
  refine (r_bs kt).trans ?_
  refine (r_ret _).trans ?_
  unfold onB
  cases hL : offL x p with
  | true => rfl
  | false => rw [s7 hL]
theorem k_OnConicE {x : Con} {p : Sp} (h : ¬ raE x = 0) (i1 : I64 x.2.1) (i2 : I64 x.2.2) : optics_OnConic x p = some ((false, raE x, ()), ()) := by
  have kr := k_checkRays i1 i2
  simp only [optics_OnConic, T_optics_OnConic]
  simp (maxSteps := 1000000) (disch := first | omega | assumption) only [↓r_ret, ↓r_fail, ↓r_br, ↓r_bind, ↓r_iter, ↓r_req, decide_eq_true_eq, Bool.not_eq_eq_eq_not, decide_eq_false_iff_not, ite_not, inB_t', app_t', bnd_t', str_t', nz_t, Int.reduceEq, Int.reduceLT, Int.reduceLE, w64', Option.bind_some, Option.bind_none, List.length_cons, List.length_nil, List.length_append, Nat.zero_add, if_pos, if_neg, decide_true, decide_false, if_true, if_false, Bool.not_true, Bool.not_false, Bool.false_eq_true, Bool.true_eq_false, not_true_eq_false, not_false_eq_true, ↓reduceIte, List.nil_append, kr, h, eta2]
theorem k_OnConicE2 {x : Con} {p : Sp} (h : raE x = 0) (h1 : IF p.1) (h2 : IF p.2) (hp : ¬ spE p = 0) (i1 : I64 x.2.1) (i2 : I64 x.2.2) : optics_OnConic x p = some ((false, spE p, ()), ()) := by
  have kr := k_checkRays i1 i2
  have kf := k_ocheck2 h1 h2
  simp only [optics_OnConic, T_optics_OnConic]
  simp (maxSteps := 1000000) (disch := first | omega | assumption) only [↓r_ret, ↓r_fail, ↓r_br, ↓r_bind, ↓r_iter, ↓r_req, decide_eq_true_eq, Bool.not_eq_eq_eq_not, decide_eq_false_iff_not, ite_not, inB_t', app_t', bnd_t', str_t', nz_t, Int.reduceEq, Int.reduceLT, Int.reduceLE, w64', Option.bind_some, Option.bind_none, List.length_cons, List.length_nil, List.length_append, Nat.zero_add, if_pos, if_neg, decide_true, decide_false, if_true, if_false, Bool.not_true, Bool.not_false, Bool.false_eq_true, Bool.true_eq_false, not_true_eq_false, not_false_eq_true, ↓reduceIte, List.nil_append, kr, kf, h, hp, eta2]

/-- The part of the normal along the axis. -/
def norV (x : Con) (p : Sp) : Fr := subv (mulv (onek x) p.2) (x.1, 1)
def norL (x : Con) (p : Sp) : Bool := false || mull (onek x) p.2 || subl (mulv (onek x) p.2) (x.1, 1)
/-- What is taken away, over the square of the normal. -/
def dotV (t0 t1 r n : Fr) : Fr := addv (mulv t0 r) (mulv t1 n)
def facV (t0 t1 r n : Fr) : Fr := quov (mulv (2, 1) (dotV t0 t1 r n)) (dotV r n r n)
def outL (l : Bool) (t0 t1 r n : Fr) : Bool := l || mull t0 r || mull t1 n || addl (mulv t0 r) (mulv t1 n) || mull (2, 1) (dotV t0 t1 r n) || mull r r || mull n n || addl (mulv r r) (mulv n n) || quol (mulv (2, 1) (dotV t0 t1 r n)) (dotV r n r n) ||
  mull (facV t0 t1 r n) r || subl t0 (mulv (facV t0 t1 r n) r) || mull (facV t0 t1 r n) n || subl t1 (mulv (facV t0 t1 r n) n)
def outV (t0 t1 r n : Fr) : Sp := (subv t0 (mulv (facV t0 t1 r n) r), subv t1 (mulv (facV t0 t1 r n) n))
def z22 : Sp := ((0, 0), (0, 0))
/-- The direction behind a reflection, and the error. -/
def refR (x : Con) (p : Sp) (tw : Int × Int) : Sp × Int := if offL x p = true then (z22, 8) else if onB x p = false then (z22, 24) else if norL x p = true then (z22, 8) else if p.1.1 = 0 ∧ (norV x p).1 = 0 then (z22, 11)
  else if outL false (tw.1, 1) (tw.2, 1) p.1 (norV x p) = true then (z22, 8) else (outV (tw.1, 1) (tw.2, 1) p.1 (norV x p), 0)

theorem rsq (x : Rat) : 0 ≤ x * x := by
  rcases Rat.le_total (a := 0) (b := x) with h | h
  · exact Rat.mul_nonneg h h
  · have := Rat.mul_nonneg (a := -x) (b := -x) (by grind) (by grind)
    grind
theorem qr_zero {f : Fr} (h : Small f) : qr f = 0 ↔ f.1 = 0 := by
  have h1 := h.1.1
  have h2 := qr_ne (show f.2 ≠ 0 by omega)
  unfold qr
  refine ⟨fun h => ?_, fun h => by rw [h]; grind⟩
  have : (f.1 : Rat) = 0 := by grind
  exact Rat.intCast_inj.1 (by simpa using this)
theorem dot_ne {r n : Fr} (hr : Small r) (hn : Small n) (h : ¬ (r.1 = 0 ∧ n.1 = 0)) (l1 : mull r r = false) (l2 : mull n n = false) (l3 : addl (mulv r r) (mulv n n) = false) : (dotV r n r n).1 ≠ 0 := by
  intro h0
  have hz := (qr_zero (small_addv (mulv r r) (mulv n n))).2 h0
  rw [qr_add (small_mulv _ _) (small_mulv _ _) l3, qr_mul hr hr l1, qr_mul hn hn l2] at hz
  have a1 := rsq (qr r)
  have a2 := rsq (qr n)
  have b1 : qr r * qr r = 0 := by grind
  have b2 : qr n * qr n = 0 := by grind
  refine h ⟨(qr_zero hr).1 ?_, (qr_zero hn).1 ?_⟩
  · rcases Rat.mul_eq_zero.1 b1 with e | e <;> exact e
  · rcases Rat.mul_eq_zero.1 b2 with e | e <;> exact e
theorem k_rReflect {x : Con} {p : Sp} {tw : Int × Int} (h : raE x = 0) (h1 : Small p.1) (h2 : Small p.2) (ht : twE tw = 0) : ref02xReflect x p tw = some (((refR x p tw).1, (refR x p tw).2, ()), ()) := by
  obtain ⟨xo, x1, x2, x3⟩ := raE_ok h
  obtain ⟨t1, t2, t3⟩ := twE_ok ht
  have hk := onek_small h
  have ko := k_rOnConic h h1 h2
  have sR : Small (x.1, 1) := small_one (by omega) (by omega)
  have s0 : Small (tw.1, 1) := small_one (by omega) (by omega)
  have s1 : Small (tw.2, 1) := small_one (by omega) (by omega)
  have s2 : Small (2, 1) := small_one (by decide) (by decide)
  have r2 := k_rMul hk h2 false
  have r4 : ref02xWay_Sub (mulv (onek x) p.2) (x.1, 1) (false || mull (onek x) p.2) = some ((norV x p, ()), (norL x p, ())) := k_rSub (small_mulv (onek x) p.2) sR (false || mull (onek x) p.2)
  have hn : Small (norV x p) := small_subv _ _
  simp only [ref02xReflect, T_ref02xReflect, refR]
  cases hL : offL x p with
  | true =>
    rw [hL] at ko
    refine (r_bs ko).trans ?_
    exact (br_t rfl).trans (r_ret _)
  | false =>
    rw [hL] at ko
    rw [if_neg (by decide)]
    refine (r_bs ko).trans ?_
    refine (br_f rfl).trans ?_
    cases hB : onB x p with
    | false =>
      rw [if_pos rfl]
      exact (br_t rfl).trans (r_ret _)
    | true =>
      rw [if_neg (by decide)]
      refine (br_f rfl).trans ?_
      refine (r_bs (k_one h)).trans ?_
      refine (r_bs r2).trans ?_
      refine (r_bs (k_rWhole x.1)).trans ?_
      refine (r_bs r4).trans ?_
      cases hN : norL x p with
      | true =>
        rw [if_pos rfl]
        exact (br_t rfl).trans (r_ret _)
      | false =>
        rw [if_neg (by decide)]
        refine (br_f rfl).trans ?_
        generalize norV x p = n at *
        have r7 := k_rMul s0 h1 false
        have r8 := k_rMul s1 hn (false || mull (tw.1, 1) p.1)
        have r9 := k_rAdd (small_mulv (tw.1, 1) p.1) (small_mulv (tw.2, 1) n) (false || mull (tw.1, 1) p.1 || mull (tw.2, 1) n)
        generalize hW9 : (false || mull (tw.1, 1) p.1 || mull (tw.2, 1) n || addl (mulv (tw.1, 1) p.1) (mulv (tw.2, 1) n)) = W9 at *
        have r10 := k_rMul h1 h1 W9
        have r11 := k_rMul hn hn (W9 || mull p.1 p.1)
        have r12 := k_rAdd (small_mulv p.1 p.1) (small_mulv n n) (W9 || mull p.1 p.1 || mull n n)
        have r14 := k_rMul s2 (small_addv (mulv (tw.1, 1) p.1) (mulv (tw.2, 1) n)) (W9 || mull p.1 p.1 || mull n n || addl (mulv p.1 p.1) (mulv n n))
        have r15 := k_rQuo (small_mulv (2, 1) (dotV (tw.1, 1) (tw.2, 1) p.1 n)) (small_addv (mulv p.1 p.1) (mulv n n)) (W9 || mull p.1 p.1 || mull n n || addl (mulv p.1 p.1) (mulv n n) || mull (2, 1) (dotV (tw.1, 1) (tw.2, 1) p.1 n))
        generalize hW15 : (W9 || mull p.1 p.1 || mull n n || addl (mulv p.1 p.1) (mulv n n) || mull (2, 1) (dotV (tw.1, 1) (tw.2, 1) p.1 n) || quol (mulv (2, 1) (dotV (tw.1, 1) (tw.2, 1) p.1 n)) (addv (mulv p.1 p.1) (mulv n n))) = W15 at *
        have r16 := k_rMul (small_quov (mulv (2, 1) (dotV (tw.1, 1) (tw.2, 1) p.1 n)) (dotV p.1 n p.1 n)) h1 W15
        have r17 := k_rSub s0 (small_mulv (facV (tw.1, 1) (tw.2, 1) p.1 n) p.1) (W15 || mull (facV (tw.1, 1) (tw.2, 1) p.1 n) p.1)
        have r18 := k_rMul (small_quov (mulv (2, 1) (dotV (tw.1, 1) (tw.2, 1) p.1 n)) (dotV p.1 n p.1 n)) hn (W15 || mull (facV (tw.1, 1) (tw.2, 1) p.1 n) p.1 || subl (tw.1, 1) (mulv (facV (tw.1, 1) (tw.2, 1) p.1 n) p.1))
        have r19 := k_rSub s1 (small_mulv (facV (tw.1, 1) (tw.2, 1) p.1 n) n) (W15 || mull (facV (tw.1, 1) (tw.2, 1) p.1 n) p.1 || subl (tw.1, 1) (mulv (facV (tw.1, 1) (tw.2, 1) p.1 n) p.1) || mull (facV (tw.1, 1) (tw.2, 1) p.1 n) n)
        have hF : (W15 || mull (facV (tw.1, 1) (tw.2, 1) p.1 n) p.1 || subl (tw.1, 1) (mulv (facV (tw.1, 1) (tw.2, 1) p.1 n) p.1) || mull (facV (tw.1, 1) (tw.2, 1) p.1 n) n || subl (tw.2, 1) (mulv (facV (tw.1, 1) (tw.2, 1) p.1 n) n)) = outL false (tw.1, 1) (tw.2, 1) p.1 n := by
          rw [← hW15, ← hW9]
          unfold outL dotV
          ac_rfl
        rw [hF] at r19
        by_cases cr : p.1.1 = 0
        · refine (br_t (decide_eq_true cr)).trans ?_
          by_cases cn : n.1 = 0
          · rw [if_pos ⟨cr, cn⟩]
            exact (br_t (decide_eq_true cn)).trans (r_ret _)
          · rw [if_neg (fun h => cn h.2)]
            refine (br_f (decide_eq_false cn)).trans ?_
            refine (r_bs (k_rWhole tw.1)).trans ?_
            refine (r_bs (k_rWhole tw.2)).trans ?_
            refine (r_bs r7).trans ?_
            refine (r_bs r8).trans ?_
            refine (r_bs r9).trans ?_
            refine (r_bs r10).trans ?_
            refine (r_bs r11).trans ?_
            refine (r_bs r12).trans ?_
            refine (r_bs (k_rWhole 2)).trans ?_
            refine (r_bs r14).trans ?_
            refine (r_bs r15).trans ?_
            refine (r_bs r16).trans ?_
            refine (r_bs r17).trans ?_
            refine (r_bs r18).trans ?_
            refine (r_bs r19).trans ?_
            cases hO : outL false (tw.1, 1) (tw.2, 1) p.1 n with
            | true => exact (br_t rfl).trans (r_ret _)
            | false => exact (br_f rfl).trans (r_ret _)
        · rw [if_neg (fun h => cr h.1)]
          refine (br_f (decide_eq_false cr)).trans ?_
          refine (r_bs (k_rWhole tw.1)).trans ?_
          refine (r_bs (k_rWhole tw.2)).trans ?_
          refine (r_bs r7).trans ?_
          refine (r_bs r8).trans ?_
          refine (r_bs r9).trans ?_
          refine (r_bs r10).trans ?_
          refine (r_bs r11).trans ?_
          refine (r_bs r12).trans ?_
          refine (r_bs (k_rWhole 2)).trans ?_
          refine (r_bs r14).trans ?_
          refine (r_bs r15).trans ?_
          refine (r_bs r16).trans ?_
          refine (r_bs r17).trans ?_
          refine (r_bs r18).trans ?_
          refine (r_bs r19).trans ?_
          cases hO : outL false (tw.1, 1) (tw.2, 1) p.1 n with
          | true => exact (br_t rfl).trans (r_ret _)
          | false => exact (br_f rfl).trans (r_ret _)

theorem k_Reflect {x : Con} {p : Sp} {tw : Int × Int} (h : raE x = 0) (h1 : Small p.1) (h2 : Small p.2) (ht : twE tw = 0) (i1 : I64 x.2.1) (i2 : I64 x.2.2) : optics_Reflect x p tw = some (((refR x p tw).1, (refR x p tw).2, ()), ()) := by
  obtain ⟨xo, x1, x2, x3⟩ := raE_ok h
  obtain ⟨t1, t2, t3⟩ := twE_ok ht
  have hk := onek_small h
  have ko := k_OnConic h h1 h2 i1 i2
  have kr := k_checkRays i1 i2
  rw [h] at kr
  have kf := k_ocheck2 h1.i h2.i
  rw [show spE p = 0 by unfold spE; rw [cfE_of h1, cfE_of h2]; rfl] at kf
  have ks1 := k_small (n := tw.1) (m := 1000) (by decide) (by decide)
  have ks2 := k_small (n := tw.2) (m := 1000) (by decide) (by decide)
  rw [show decide (-1000 ≤ tw.1 ∧ tw.1 ≤ 1000) = true from decide_eq_true t1] at ks1
  rw [show decide (-1000 ≤ tw.2 ∧ tw.2 ≤ 1000) = true from decide_eq_true t2] at ks2
  have bz : (decide (tw.1 = 0) && decide (tw.2 = 0)) = false := by
    rw [← Bool.not_eq_true, Bool.and_eq_true, decide_eq_true_eq, decide_eq_true_eq]; exact t3
  have sR : Small (x.1, 1) := small_one (by omega) (by omega)
  have s0 : Small (tw.1, 1) := small_one (by omega) (by omega)
  have s1 : Small (tw.2, 1) := small_one (by omega) (by omega)
  have s2 : Small (2, 1) := small_one (by decide) (by decide)
  obtain ⟨v6, g6, q6⟩ := c_mul (l := false) (.self hk) (.self h2)
  obtain ⟨v8, g8, q8⟩ := c_subA g6 g6 (.self sR)
  rw [show e8 false = 0 from rfl] at q6
  have hn : Small (norV x p) := small_subv _ _
  have g8 : Agree (norL x p) (norV x p) v8 := g8
  have q8 : optics_counter_sub v6 (x.1, 1) (e8 (false || mull (onek x) p.2)) = some ((v8, ()), (e8 (norL x p), ())) := q8
  simp only [optics_Reflect, T_optics_Reflect, refR]
  refine (r_bs kr).trans ?_
  refine (br_f rfl).trans ?_
  refine (r_bs kf).trans ?_
  refine (br_f rfl).trans ?_
  refine (r_bs ks1).trans ?_
  refine (br_f rfl).trans ?_
  refine (r_bs ks2).trans ?_
  refine (br_f rfl).trans ?_
  refine (br_f bz).trans ?_
  refine (r_bs ko).trans ?_
  cases hL : offL x p with
  | true =>
    rw [if_pos rfl]
    exact (br_t rfl).trans (r_ret _)
  | false =>
    rw [if_neg (by decide)]
    refine (br_f rfl).trans ?_
    cases hB : onB x p with
    | false =>
      rw [if_pos rfl]
      exact (br_t rfl).trans (r_ret _)
    | true =>
      rw [if_neg (by decide)]
      refine (br_f rfl).trans ?_
      refine (r_bs (k_bend h)).trans ?_
      refine (r_bs q6).trans ?_
      refine (r_bs (k_owhole x.1)).trans ?_
      refine (r_bs q8).trans ?_
      generalize norV x p = n at *
      generalize norL x p = N at *
      by_cases cz : N = false ∧ (p.1.1 = 0 ∧ n.1 = 0)
      · obtain ⟨rfl, c1, c2⟩ := cz
        have e := g8.same rfl
        subst e
        rw [if_neg (by decide), if_pos ⟨c1, c2⟩]
        exact (br_t rfl).trans ((br_t (decide_eq_true c1)).trans ((br_t (decide_eq_true c2)).trans (r_ret _)))
      · obtain ⟨v12, g12, q12⟩ := c_dotA g8 (.self s0) (.self s1) (.self h1) g8
        obtain ⟨v13, g13, q13⟩ := c_mulA g12 (.self s2) g12
        obtain ⟨v14, g14, q14⟩ := c_dotA g13 (.self h1) g8.o.o.o.o (.self h1) g8.o.o.o.o
        obtain ⟨v15, g15, q15⟩ := c_quoA g14 g13.o.o.o g14 (fun hl => by
          simp only [Bool.or_eq_false_iff] at hl
          obtain ⟨⟨⟨⟨⟨⟨⟨a0, a1⟩, a2⟩, a3⟩, a4⟩, a5⟩, a6⟩, a7⟩ := hl
          exact dot_ne h1 hn (fun hh => cz ⟨a0, hh⟩) a5 a6 a7)
        obtain ⟨v16, g16, q16⟩ := c_mulA g15 g15 (.self h1)
        obtain ⟨v17, g17, q17⟩ := c_subA g16 (.self s0) g16
        obtain ⟨v18, g18, q18⟩ := c_mulA g17 g15.o.o g8.o.o.o.o.o.o.o.o.o.o
        obtain ⟨v19, g19, q19⟩ := c_subA g18 (.self s1) g18
        have e17 : outL N (tw.1, 1) (tw.2, 1) p.1 n = false → v17 = (outV (tw.1, 1) (tw.2, 1) p.1 n).1 := fun hl => g17.o.o.same hl
        have e19 : outL N (tw.1, 1) (tw.2, 1) p.1 n = false → v19 = (outV (tw.1, 1) (tw.2, 1) p.1 n).2 := fun hl => g19.same hl
        have q19 : optics_counter_sub (tw.2, 1) v18 (e8 _) = some ((v19, ()), (e8 (outL N (tw.1, 1) (tw.2, 1) p.1 n), ())) := q19
        have kt := k_told2 (v17, v19) (outL N (tw.1, 1) (tw.2, 1) p.1 n)
        have fin : some (((if outL N (tw.1, 1) (tw.2, 1) p.1 n = true then (((0, 0), (0, 0)) : Sp) else (v17, v19)), e8 (outL N (tw.1, 1) (tw.2, 1) p.1 n), ()), ()) =
            some (((if N = true then ((z22, 8) : Sp × Int) else if p.1.1 = 0 ∧ n.1 = 0 then (z22, 11) else if outL false (tw.1, 1) (tw.2, 1) p.1 n = true then (z22, 8) else (outV (tw.1, 1) (tw.2, 1) p.1 n, 0)).1,
              (if N = true then ((z22, 8) : Sp × Int) else if p.1.1 = 0 ∧ n.1 = 0 then (z22, 11) else if outL false (tw.1, 1) (tw.2, 1) p.1 n = true then (z22, 8) else (outV (tw.1, 1) (tw.2, 1) p.1 n, (0 : Int))).2, ()), ()) := by
          cases N with
          | true =>
            have : outL true (tw.1, 1) (tw.2, 1) p.1 n = true := by unfold outL; simp
            rw [this]; rfl
          | false =>
            have hz : ¬ (p.1.1 = 0 ∧ n.1 = 0) := fun hh => cz ⟨rfl, hh⟩
            simp only [hz, Bool.false_eq_true, if_false]
            cases hO : outL false (tw.1, 1) (tw.2, 1) p.1 n with
            | true => rfl
            | false =>
              rw [e17 hO, e19 hO]
              rfl
        by_cases cN : N = false
        · have e := g8.same cN
          have dN : decide (e8 N = 0) = true := by rw [cN]; rfl
          refine (br_t dN).trans ?_
          by_cases cr : p.1.1 = 0
          · refine (br_t (decide_eq_true cr)).trans ?_
            have cn : ¬ v8.1 = 0 := fun hh => cz ⟨cN, cr, by rw [← e]; exact hh⟩
            refine (br_f (decide_eq_false cn)).trans ?_
            refine (r_bs (k_owhole tw.1)).trans ?_
            refine (r_bs (k_owhole tw.2)).trans ?_
            refine (r_bs (k_owhole 2)).trans ?_
            refine (r_bs q12).trans ?_
            refine (r_bs q13).trans ?_
            refine (r_bs q14).trans ?_
            refine (r_bs q15).trans ?_
            refine (r_bs q16).trans ?_
            refine (r_bs q17).trans ?_
            refine (r_bs q18).trans ?_
            refine (r_bs q19).trans ?_
            refine (r_bs kt).trans ?_
            refine (r_ret _).trans ?_
            exact fin
          · refine (br_f (decide_eq_false cr)).trans ?_
            refine (r_bs (k_owhole tw.1)).trans ?_
            refine (r_bs (k_owhole tw.2)).trans ?_
            refine (r_bs (k_owhole 2)).trans ?_
            refine (r_bs q12).trans ?_
            refine (r_bs q13).trans ?_
            refine (r_bs q14).trans ?_
            refine (r_bs q15).trans ?_
            refine (r_bs q16).trans ?_
            refine (r_bs q17).trans ?_
            refine (r_bs q18).trans ?_
            refine (r_bs q19).trans ?_
            refine (r_bs kt).trans ?_
            refine (r_ret _).trans ?_
            exact fin
        · have dN : decide (e8 N = 0) = false := by
            rw [show N = true by simpa using cN]; rfl
          refine (br_f dN).trans ?_
          refine (r_bs (k_owhole tw.1)).trans ?_
          refine (r_bs (k_owhole tw.2)).trans ?_
          refine (r_bs (k_owhole 2)).trans ?_
          refine (r_bs q12).trans ?_
          refine (r_bs q13).trans ?_
          refine (r_bs q14).trans ?_
          refine (r_bs q15).trans ?_
          refine (r_bs q16).trans ?_
          refine (r_bs q17).trans ?_
          refine (r_bs q18).trans ?_
          refine (r_bs q19).trans ?_
          refine (r_bs kt).trans ?_
          refine (r_ret _).trans ?_
          exact fin
theorem k_ReflectE {x : Con} {p : Sp} {tw : Int × Int} (h1 : IF p.1) (h2 : IF p.2) (i1 : I64 x.2.1) (i2 : I64 x.2.2) (he : ¬ (raE x = 0 ∧ spE p = 0 ∧ twE tw = 0)) :
    optics_Reflect x p tw = some ((z22, if raE x ≠ 0 then raE x else if spE p ≠ 0 then spE p else twE tw, ()), ()) := by
  have kr := k_checkRays i1 i2
  have kf := k_ocheck2 h1 h2
  have ks1 := k_small (n := tw.1) (m := 1000) (by decide) (by decide)
  have ks2 := k_small (n := tw.2) (m := 1000) (by decide) (by decide)
  simp only [optics_Reflect, T_optics_Reflect]
  refine (r_bs kr).trans ?_
  by_cases c0 : raE x = 0
  · refine (br_f (by simp [c0])).trans ?_
    refine (r_bs kf).trans ?_
    rw [if_neg (by rw [c0]; decide)]
    by_cases c1 : spE p = 0
    · refine (br_f (by simp [c1])).trans ?_
      refine (r_bs ks1).trans ?_
      rw [if_neg (by rw [c1]; decide)]
      have c2 : ¬ twE tw = 0 := fun h => he ⟨c0, c1, h⟩
      unfold twE at *
      by_cases d1 : -1000 ≤ tw.1 ∧ tw.1 ≤ 1000
      · refine (br_f (by simp [d1])).trans ?_
        refine (r_bs ks2).trans ?_
        rw [if_neg (fun h => h d1)] at c2 ⊢
        by_cases d2 : -1000 ≤ tw.2 ∧ tw.2 ≤ 1000
        · refine (br_f (by simp [d2])).trans ?_
          rw [if_neg (fun h => h d2)] at c2 ⊢
          by_cases d3 : tw.1 = 0 ∧ tw.2 = 0
          · rw [if_pos d3]
            exact (br_t (by simp [d3])).trans (r_ret _)
          · rw [if_neg d3] at c2
            exact absurd rfl c2
        · rw [if_pos d2]
          exact (br_t (by simp; omega)).trans (r_ret _)
      · rw [if_pos d1]
        exact (br_t (by simp; omega)).trans (r_ret _)
    · rw [if_pos c1]
      exact (br_t (by simp [c1])).trans (r_ret _)
  · rw [if_pos c0]
    exact (br_t (by simp [c0])).trans (r_ret _)
end Go.Ab
