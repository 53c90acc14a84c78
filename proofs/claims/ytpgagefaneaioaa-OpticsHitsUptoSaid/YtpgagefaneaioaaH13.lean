/- Where rays meet conics; OpticsHits answers true. -/
import Derived.Test.YtpgagefaneaioaaH9
namespace Go.Ab
open Go
set_option maxRecDepth 1000000
set_option maxHeartbeats 1000000
set_option linter.unusedVariables false
set_option linter.unusedSimpArgs false
attribute [local congr] bindC iterC

theorem awake_ok : law02xawake = some ((true, ()), ()) := by kernel_rfl
theorem k_roundedN {n b : Int} (hb : b < 0) (hb' : -9223372036854775807 ≤ b) (h1 : -9223372036854775807 ≤ n) (h2 : n ≤ 9223372036854775807) : optics_rounded n b = some ((((-n) / (-b), -(n / (-b))), ()), ()) := by
  have key : ∀ n : Int, -9223372036854775807 ≤ n → n ≤ 9223372036854775807 → optics_floor n b = some (((-n) / (-b), ()), ()) := by
    intro n h1 h2
    have t := tdiv_bd (a := -n) (b := -b) (m := 9223372036854775807) (by omega) (by omega) (by omega)
    have d := ediv_bd (n := -n) (b := -b) (m := 9223372036854775807) (by omega) (by omega) (by omega)
    have e := fdiv_eq' (a := -n) (b := -b) (by omega)
    have z : -b ≠ 0 := by omega
    simp only [optics_floor, T_optics_floor]
    by_cases hm : (-n).tmod (-b) < 0
    · rw [if_pos hm] at e
      simp (maxSteps := 1000000) (disch := first | omega | assumption) only [↓r_ret, ↓r_fail, ↓r_br, ↓r_bind, ↓r_iter, ↓r_req, decide_eq_true_eq, Bool.not_eq_eq_eq_not, decide_eq_false_iff_not, ite_not, inB_t', app_t', bnd_t', str_t', nz_t, Int.reduceEq, Int.reduceLT, Int.reduceLE, w64', Option.bind_some, Option.bind_none, List.length_cons, List.length_nil, List.length_append, Nat.zero_add, if_pos, if_neg, decide_true, decide_false, if_true, if_false, Bool.not_true, Bool.not_false, Bool.false_eq_true, Bool.true_eq_false, not_true_eq_false, not_false_eq_true, ↓reduceIte, List.nil_append, hb, z, hm, e, Int.zero_sub]
    · rw [if_neg hm] at e
      simp (maxSteps := 1000000) (disch := first | omega | assumption) only [↓r_ret, ↓r_fail, ↓r_br, ↓r_bind, ↓r_iter, ↓r_req, decide_eq_true_eq, Bool.not_eq_eq_eq_not, decide_eq_false_iff_not, ite_not, inB_t', app_t', bnd_t', str_t', nz_t, Int.reduceEq, Int.reduceLT, Int.reduceLE, w64', Option.bind_some, Option.bind_none, List.length_cons, List.length_nil, List.length_append, Nat.zero_add, if_pos, if_neg, decide_true, decide_false, if_true, if_false, Bool.not_true, Bool.not_false, Bool.false_eq_true, Bool.true_eq_false, not_true_eq_false, not_false_eq_true, ↓reduceIte, List.nil_append, hb, z, hm, e, Int.zero_sub]
  have k1 := key n h1 h2
  have k2 := key (-n) (by omega) (by omega)
  rw [Int.neg_neg] at k2
  have d := ediv_bd (n := n) (b := -b) (m := 9223372036854775807) (by omega) (by omega) (by omega)
  have kc : optics_ceil n b = some ((-(n / (-b)), ()), ()) := by
    simp only [optics_ceil, T_optics_ceil]
    simp (maxSteps := 1000000) (disch := first | omega | assumption) only [↓r_ret, ↓r_fail, ↓r_br, ↓r_bind, ↓r_iter, ↓r_req, decide_eq_true_eq, Bool.not_eq_eq_eq_not, decide_eq_false_iff_not, ite_not, inB_t', app_t', bnd_t', str_t', nz_t, Int.reduceEq, Int.reduceLT, Int.reduceLE, w64', Option.bind_some, Option.bind_none, List.length_cons, List.length_nil, List.length_append, Nat.zero_add, if_pos, if_neg, decide_true, decide_false, if_true, if_false, Bool.not_true, Bool.not_false, Bool.false_eq_true, Bool.true_eq_false, not_true_eq_false, not_false_eq_true, ↓reduceIte, List.nil_append, k2, Int.zero_sub]
  simp only [optics_rounded, T_optics_rounded]
  simp (maxSteps := 1000000) (disch := first | omega | assumption) only [↓r_ret, ↓r_fail, ↓r_br, ↓r_bind, ↓r_iter, ↓r_req, decide_eq_true_eq, Bool.not_eq_eq_eq_not, decide_eq_false_iff_not, ite_not, inB_t', app_t', bnd_t', str_t', nz_t, Int.reduceEq, Int.reduceLT, Int.reduceLE, w64', Option.bind_some, Option.bind_none, List.length_cons, List.length_nil, List.length_append, Nat.zero_add, if_pos, if_neg, decide_true, decide_false, if_true, if_false, Bool.not_true, Bool.not_false, Bool.false_eq_true, Bool.true_eq_false, not_true_eq_false, not_false_eq_true, ↓reduceIte, List.nil_append, k1, kc]

abbrev Ry := Int × Int × Int × Int
/-- The error of a conic for rays, of a ray. -/
def raE (c : Con) : Int := if coE c ≠ 0 then coE c else if ¬ (-200000 ≤ c.1 ∧ c.1 ≤ 200000) then 2 else if ¬ (-10 ≤ c.2.1 ∧ c.2.1 ≤ 10) then 2 else if 10 < c.2.2 then 2 else 0
def ryE (y : Ry) : Int := if ¬ (-100000 ≤ y.1 ∧ y.1 ≤ 100000) then 2 else if ¬ (-100000 ≤ y.2.1 ∧ y.2.1 ≤ 100000) then 2 else if ¬ (-100 ≤ y.2.2.1 ∧ y.2.2.1 ≤ 100) then 2 else if ¬ (-100 ≤ y.2.2.2 ∧ y.2.2.2 ≤ 100) then 2 else if y.2.2.1 = 0 ∧ y.2.2.2 = 0 then 11 else 0
theorem k_checkRays {c : Con} (h : I64 c.2.1) (h' : I64 c.2.2) : optics_checkRays c = some ((raE c, ()), ()) := by
  have kc := k_CheckConic h h'
  simp only [optics_checkRays, T_optics_checkRays, raE]
  by_cases c0 : coE c = 0
  · by_cases c1 : -200000 ≤ c.1 ∧ c.1 ≤ 200000
    · by_cases c2 : -10 ≤ c.2.1 ∧ c.2.1 ≤ 10
      · by_cases c3 : 10 < c.2.2
        · simp (maxSteps := 1000000) (disch := first | omega | assumption) only [↓r_ret, ↓r_fail, ↓r_br, ↓r_bind, ↓r_iter, ↓r_req, decide_eq_true_eq, Bool.not_eq_eq_eq_not, decide_eq_false_iff_not, ite_not, inB_t', app_t', bnd_t', str_t', nz_t, Int.reduceEq, Int.reduceLT, Int.reduceLE, w64', Option.bind_some, Option.bind_none, List.length_cons, List.length_nil, List.length_append, Nat.zero_add, if_pos, if_neg, decide_true, decide_false, if_true, if_false, Bool.not_true, Bool.not_false, Bool.false_eq_true, Bool.true_eq_false, not_true_eq_false, not_false_eq_true, ↓reduceIte, List.nil_append, kc, c0, k_small, c1, c2, c3, and_self, eta2, ne_eq]
        · simp (maxSteps := 1000000) (disch := first | omega | assumption) only [↓r_ret, ↓r_fail, ↓r_br, ↓r_bind, ↓r_iter, ↓r_req, decide_eq_true_eq, Bool.not_eq_eq_eq_not, decide_eq_false_iff_not, ite_not, inB_t', app_t', bnd_t', str_t', nz_t, Int.reduceEq, Int.reduceLT, Int.reduceLE, w64', Option.bind_some, Option.bind_none, List.length_cons, List.length_nil, List.length_append, Nat.zero_add, if_pos, if_neg, decide_true, decide_false, if_true, if_false, Bool.not_true, Bool.not_false, Bool.false_eq_true, Bool.true_eq_false, not_true_eq_false, not_false_eq_true, ↓reduceIte, List.nil_append, kc, c0, k_small, c1, c2, c3, and_self, eta2, ne_eq]
      · simp (maxSteps := 1000000) (disch := first | omega | assumption) only [↓r_ret, ↓r_fail, ↓r_br, ↓r_bind, ↓r_iter, ↓r_req, decide_eq_true_eq, Bool.not_eq_eq_eq_not, decide_eq_false_iff_not, ite_not, inB_t', app_t', bnd_t', str_t', nz_t, Int.reduceEq, Int.reduceLT, Int.reduceLE, w64', Option.bind_some, Option.bind_none, List.length_cons, List.length_nil, List.length_append, Nat.zero_add, if_pos, if_neg, decide_true, decide_false, if_true, if_false, Bool.not_true, Bool.not_false, Bool.false_eq_true, Bool.true_eq_false, not_true_eq_false, not_false_eq_true, ↓reduceIte, List.nil_append, kc, c0, k_small, c1, c2, and_self, eta2, ne_eq]
    · simp (maxSteps := 1000000) (disch := first | omega | assumption) only [↓r_ret, ↓r_fail, ↓r_br, ↓r_bind, ↓r_iter, ↓r_req, decide_eq_true_eq, Bool.not_eq_eq_eq_not, decide_eq_false_iff_not, ite_not, inB_t', app_t', bnd_t', str_t', nz_t, Int.reduceEq, Int.reduceLT, Int.reduceLE, w64', Option.bind_some, Option.bind_none, List.length_cons, List.length_nil, List.length_append, Nat.zero_add, if_pos, if_neg, decide_true, decide_false, if_true, if_false, Bool.not_true, Bool.not_false, Bool.false_eq_true, Bool.true_eq_false, not_true_eq_false, not_false_eq_true, ↓reduceIte, List.nil_append, kc, c0, k_small, c1, eta2, ne_eq]
  · simp (maxSteps := 1000000) (disch := first | omega | assumption) only [↓r_ret, ↓r_fail, ↓r_br, ↓r_bind, ↓r_iter, ↓r_req, decide_eq_true_eq, Bool.not_eq_eq_eq_not, decide_eq_false_iff_not, ite_not, inB_t', app_t', bnd_t', str_t', nz_t, Int.reduceEq, Int.reduceLT, Int.reduceLE, w64', Option.bind_some, Option.bind_none, List.length_cons, List.length_nil, List.length_append, Nat.zero_add, if_pos, if_neg, decide_true, decide_false, if_true, if_false, Bool.not_true, Bool.not_false, Bool.false_eq_true, Bool.true_eq_false, not_true_eq_false, not_false_eq_true, ↓reduceIte, List.nil_append, kc, c0, eta2, ne_eq]
theorem k_rCheckRays {c : Con} (h : I64 c.2.1) (h' : I64 c.2.2) : ref02xCheckRays c = some ((raE c, ()), ()) := by
  have kc := k_rCheckConic h h'
  simp only [ref02xCheckRays, T_ref02xCheckRays, raE]
  by_cases c0 : coE c = 0
  · by_cases c1 : -200000 ≤ c.1 ∧ c.1 ≤ 200000
    · by_cases c2 : -10 ≤ c.2.1 ∧ c.2.1 ≤ 10
      · by_cases c3 : 10 < c.2.2
        · simp (maxSteps := 1000000) (disch := first | omega | assumption) only [↓r_ret, ↓r_fail, ↓r_br, ↓r_bind, ↓r_iter, ↓r_req, decide_eq_true_eq, Bool.not_eq_eq_eq_not, decide_eq_false_iff_not, ite_not, inB_t', app_t', bnd_t', str_t', nz_t, Int.reduceEq, Int.reduceLT, Int.reduceLE, w64', Option.bind_some, Option.bind_none, List.length_cons, List.length_nil, List.length_append, Nat.zero_add, if_pos, if_neg, decide_true, decide_false, if_true, if_false, Bool.not_true, Bool.not_false, Bool.false_eq_true, Bool.true_eq_false, not_true_eq_false, not_false_eq_true, ↓reduceIte, List.nil_append, kc, c0, k_Within, c1, c2, c3, and_self, eta2, ne_eq]
        · simp (maxSteps := 1000000) (disch := first | omega | assumption) only [↓r_ret, ↓r_fail, ↓r_br, ↓r_bind, ↓r_iter, ↓r_req, decide_eq_true_eq, Bool.not_eq_eq_eq_not, decide_eq_false_iff_not, ite_not, inB_t', app_t', bnd_t', str_t', nz_t, Int.reduceEq, Int.reduceLT, Int.reduceLE, w64', Option.bind_some, Option.bind_none, List.length_cons, List.length_nil, List.length_append, Nat.zero_add, if_pos, if_neg, decide_true, decide_false, if_true, if_false, Bool.not_true, Bool.not_false, Bool.false_eq_true, Bool.true_eq_false, not_true_eq_false, not_false_eq_true, ↓reduceIte, List.nil_append, kc, c0, k_Within, c1, c2, c3, and_self, eta2, ne_eq]
      · simp (maxSteps := 1000000) (disch := first | omega | assumption) only [↓r_ret, ↓r_fail, ↓r_br, ↓r_bind, ↓r_iter, ↓r_req, decide_eq_true_eq, Bool.not_eq_eq_eq_not, decide_eq_false_iff_not, ite_not, inB_t', app_t', bnd_t', str_t', nz_t, Int.reduceEq, Int.reduceLT, Int.reduceLE, w64', Option.bind_some, Option.bind_none, List.length_cons, List.length_nil, List.length_append, Nat.zero_add, if_pos, if_neg, decide_true, decide_false, if_true, if_false, Bool.not_true, Bool.not_false, Bool.false_eq_true, Bool.true_eq_false, not_true_eq_false, not_false_eq_true, ↓reduceIte, List.nil_append, kc, c0, k_Within, c1, c2, and_self, eta2, ne_eq]
    · simp (maxSteps := 1000000) (disch := first | omega | assumption) only [↓r_ret, ↓r_fail, ↓r_br, ↓r_bind, ↓r_iter, ↓r_req, decide_eq_true_eq, Bool.not_eq_eq_eq_not, decide_eq_false_iff_not, ite_not, inB_t', app_t', bnd_t', str_t', nz_t, Int.reduceEq, Int.reduceLT, Int.reduceLE, w64', Option.bind_some, Option.bind_none, List.length_cons, List.length_nil, List.length_append, Nat.zero_add, if_pos, if_neg, decide_true, decide_false, if_true, if_false, Bool.not_true, Bool.not_false, Bool.false_eq_true, Bool.true_eq_false, not_true_eq_false, not_false_eq_true, ↓reduceIte, List.nil_append, kc, c0, k_Within, c1, eta2, ne_eq]
  · simp (maxSteps := 1000000) (disch := first | omega | assumption) only [↓r_ret, ↓r_fail, ↓r_br, ↓r_bind, ↓r_iter, ↓r_req, decide_eq_true_eq, Bool.not_eq_eq_eq_not, decide_eq_false_iff_not, ite_not, inB_t', app_t', bnd_t', str_t', nz_t, Int.reduceEq, Int.reduceLT, Int.reduceLE, w64', Option.bind_some, Option.bind_none, List.length_cons, List.length_nil, List.length_append, Nat.zero_add, if_pos, if_neg, decide_true, decide_false, if_true, if_false, Bool.not_true, Bool.not_false, Bool.false_eq_true, Bool.true_eq_false, not_true_eq_false, not_false_eq_true, ↓reduceIte, List.nil_append, kc, c0, eta2, ne_eq]
theorem raE_ok {c : Con} (h : raE c = 0) : ConOk c ∧ (-200000 ≤ c.1 ∧ c.1 ≤ 200000) ∧ (-10 ≤ c.2.1 ∧ c.2.1 ≤ 10) ∧ c.2.2 ≤ 10 := by
  unfold raE at h
  split at h; · contradiction
  split at h; · cases h
  split at h; · cases h
  split at h; · cases h
  rename_i h1 h2 h3 h4
  exact ⟨coE_ok (Decidable.of_not_not h1), Decidable.of_not_not h2, Decidable.of_not_not h3, by omega⟩
theorem k_CheckRay {y : Ry} : ref02xCheckRay y = some ((ryE y, ()), ()) := by
  simp only [ref02xCheckRay, T_ref02xCheckRay, ryE]
  by_cases c1 : -100000 ≤ y.1 ∧ y.1 ≤ 100000
  · by_cases c2 : -100000 ≤ y.2.1 ∧ y.2.1 ≤ 100000
    · by_cases c3 : -100 ≤ y.2.2.1 ∧ y.2.2.1 ≤ 100
      · by_cases c4 : -100 ≤ y.2.2.2 ∧ y.2.2.2 ≤ 100
        · by_cases c5 : y.2.2.1 = 0
          · have d5 : decide (y.2.2.1 = 0) = true := decide_eq_true c5
            by_cases c6 : y.2.2.2 = 0
            · have d6 : decide (y.2.2.2 = 0) = true := decide_eq_true c6
              have d7 : y.2.2.1 = 0 ∧ y.2.2.2 = 0 := ⟨c5, c6⟩
              simp only [d5, d6, d7]
              clear c5 c6 d5 d6 d7
              simp (maxSteps := 1000000) (disch := first | omega | assumption) only [↓r_ret, ↓r_fail, ↓r_br, ↓r_bind, ↓r_iter, ↓r_req, decide_eq_true_eq, Bool.not_eq_eq_eq_not, decide_eq_false_iff_not, ite_not, inB_t', app_t', bnd_t', str_t', nz_t, Int.reduceEq, Int.reduceLT, Int.reduceLE, w64', Option.bind_some, Option.bind_none, List.length_cons, List.length_nil, List.length_append, Nat.zero_add, if_pos, if_neg, decide_true, decide_false, if_true, if_false, Bool.not_true, Bool.not_false, Bool.false_eq_true, Bool.true_eq_false, not_true_eq_false, not_false_eq_true, ↓reduceIte, List.nil_append, k_Within, c1, c2, c3, c4, and_self]
              all_goals simp_all
            · have d7 : ¬ (y.2.2.1 = 0 ∧ y.2.2.2 = 0) := fun h => c6 h.2
              simp only [d5]
              simp (maxSteps := 1000000) (disch := first | omega | assumption) only [↓r_ret, ↓r_fail, ↓r_br, ↓r_bind, ↓r_iter, ↓r_req, decide_eq_true_eq, Bool.not_eq_eq_eq_not, decide_eq_false_iff_not, ite_not, inB_t', app_t', bnd_t', str_t', nz_t, Int.reduceEq, Int.reduceLT, Int.reduceLE, w64', Option.bind_some, Option.bind_none, List.length_cons, List.length_nil, List.length_append, Nat.zero_add, if_pos, if_neg, decide_true, decide_false, if_true, if_false, Bool.not_true, Bool.not_false, Bool.false_eq_true, Bool.true_eq_false, not_true_eq_false, not_false_eq_true, ↓reduceIte, List.nil_append, k_Within, c1, c2, c3, c4, c6, d7, and_self, and_false]
          · have d7 : ¬ (y.2.2.1 = 0 ∧ y.2.2.2 = 0) := fun h => c5 h.1
            simp (maxSteps := 1000000) (disch := first | omega | assumption) only [↓r_ret, ↓r_fail, ↓r_br, ↓r_bind, ↓r_iter, ↓r_req, decide_eq_true_eq, Bool.not_eq_eq_eq_not, decide_eq_false_iff_not, ite_not, inB_t', app_t', bnd_t', str_t', nz_t, Int.reduceEq, Int.reduceLT, Int.reduceLE, w64', Option.bind_some, Option.bind_none, List.length_cons, List.length_nil, List.length_append, Nat.zero_add, if_pos, if_neg, decide_true, decide_false, if_true, if_false, Bool.not_true, Bool.not_false, Bool.false_eq_true, Bool.true_eq_false, not_true_eq_false, not_false_eq_true, ↓reduceIte, List.nil_append, k_Within, c1, c2, c3, c4, c5, d7, and_self, false_and]
        · simp (maxSteps := 1000000) (disch := first | omega | assumption) only [↓r_ret, ↓r_fail, ↓r_br, ↓r_bind, ↓r_iter, ↓r_req, decide_eq_true_eq, Bool.not_eq_eq_eq_not, decide_eq_false_iff_not, ite_not, inB_t', app_t', bnd_t', str_t', nz_t, Int.reduceEq, Int.reduceLT, Int.reduceLE, w64', Option.bind_some, Option.bind_none, List.length_cons, List.length_nil, List.length_append, Nat.zero_add, if_pos, if_neg, decide_true, decide_false, if_true, if_false, Bool.not_true, Bool.not_false, Bool.false_eq_true, Bool.true_eq_false, not_true_eq_false, not_false_eq_true, ↓reduceIte, List.nil_append, k_Within, c1, c2, c3, c4, and_self]
      · simp (maxSteps := 1000000) (disch := first | omega | assumption) only [↓r_ret, ↓r_fail, ↓r_br, ↓r_bind, ↓r_iter, ↓r_req, decide_eq_true_eq, Bool.not_eq_eq_eq_not, decide_eq_false_iff_not, ite_not, inB_t', app_t', bnd_t', str_t', nz_t, Int.reduceEq, Int.reduceLT, Int.reduceLE, w64', Option.bind_some, Option.bind_none, List.length_cons, List.length_nil, List.length_append, Nat.zero_add, if_pos, if_neg, decide_true, decide_false, if_true, if_false, Bool.not_true, Bool.not_false, Bool.false_eq_true, Bool.true_eq_false, not_true_eq_false, not_false_eq_true, ↓reduceIte, List.nil_append, k_Within, c1, c2, c3, and_self]
    · simp (maxSteps := 1000000) (disch := first | omega | assumption) only [↓r_ret, ↓r_fail, ↓r_br, ↓r_bind, ↓r_iter, ↓r_req, decide_eq_true_eq, Bool.not_eq_eq_eq_not, decide_eq_false_iff_not, ite_not, inB_t', app_t', bnd_t', str_t', nz_t, Int.reduceEq, Int.reduceLT, Int.reduceLE, w64', Option.bind_some, Option.bind_none, List.length_cons, List.length_nil, List.length_append, Nat.zero_add, if_pos, if_neg, decide_true, decide_false, if_true, if_false, Bool.not_true, Bool.not_false, Bool.false_eq_true, Bool.true_eq_false, not_true_eq_false, not_false_eq_true, ↓reduceIte, List.nil_append, k_Within, c1, c2, and_self]
  · simp (maxSteps := 1000000) (disch := first | omega | assumption) only [↓r_ret, ↓r_fail, ↓r_br, ↓r_bind, ↓r_iter, ↓r_req, decide_eq_true_eq, Bool.not_eq_eq_eq_not, decide_eq_false_iff_not, ite_not, inB_t', app_t', bnd_t', str_t', nz_t, Int.reduceEq, Int.reduceLT, Int.reduceLE, w64', Option.bind_some, Option.bind_none, List.length_cons, List.length_nil, List.length_append, Nat.zero_add, if_pos, if_neg, decide_true, decide_false, if_true, if_false, Bool.not_true, Bool.not_false, Bool.false_eq_true, Bool.true_eq_false, not_true_eq_false, not_false_eq_true, ↓reduceIte, List.nil_append, k_Within, c1]
theorem ryE_ok {y : Ry} (h : ryE y = 0) : (-100000 ≤ y.1 ∧ y.1 ≤ 100000) ∧ (-100000 ≤ y.2.1 ∧ y.2.1 ≤ 100000) ∧ (-100 ≤ y.2.2.1 ∧ y.2.2.1 ≤ 100) ∧ (-100 ≤ y.2.2.2 ∧ y.2.2.2 ≤ 100) ∧ ¬ (y.2.2.1 = 0 ∧ y.2.2.2 = 0) := by
  unfold ryE at h
  split at h; · cases h
  split at h; · cases h
  split at h; · cases h
  split at h; · cases h
  split at h; · cases h
  rename_i h1 h2 h3 h4 h5
  exact ⟨Decidable.of_not_not h1, Decidable.of_not_not h2, Decidable.of_not_not h3, Decidable.of_not_not h4, h5⟩

/-- Both numbers at which a ray meets a conic, from the coefficients. -/
def hitP (a b c : Int) : ((Int × Int) × (Int × Int)) × Int := if b * b - a * c < 0 then (((0, 0), (0, 0)), 12) else
  (((1000000 * (-b - rtu (b * b - a * c)) / a, -(-(1000000 * (-b - rt (b * b - a * c))) / a)), (1000000 * (-b + rt (b * b - a * c)) / a, -(-(1000000 * (-b + rtu (b * b - a * c))) / a))), 0)
def hitR (a b c : Int) : ((Int × Int) × (Int × Int)) × Int := if a = 0 then (if b = 0 then (((0, 0), (0, 0)), 12) else if 2 * b < 0 then
    (((1000000 * c / -(2 * b), -(-(1000000 * c) / -(2 * b))), (1000000 * c / -(2 * b), -(-(1000000 * c) / -(2 * b)))), 0)
  else (((1000000 * -c / (2 * b), -(-(1000000 * -c) / (2 * b))), (1000000 * -c / (2 * b), -(-(1000000 * -c) / (2 * b)))), 0))
  else if a < 0 then hitP (-a) (-b) (-c) else hitP a b c
theorem trio {q s p z u v R : Int} (hq : 0 < q) (hq2 : q ≤ 10) (hs : -10 ≤ s) (hs2 : s ≤ 20) (hp : -100000 ≤ p) (hp2 : p ≤ 100000) (hz : -100000 ≤ z) (hz2 : z ≤ 100000) (hu : -100 ≤ u) (hu2 : u ≤ 100) (hv : -100 ≤ v) (hv2 : v ≤ 100) (hR : -200000 ≤ R) (hR2 : R ≤ 200000) :
    ∃ a b c : Int, IntKind.i64.wrap (IntKind.i64.wrap (IntKind.i64.wrap (q * u) * u) + IntKind.i64.wrap (IntKind.i64.wrap (s * v) * v)) = a ∧ IntKind.i64.wrap (IntKind.i64.wrap (q * IntKind.i64.wrap (IntKind.i64.wrap (p * u) - IntKind.i64.wrap (R * v))) + IntKind.i64.wrap (IntKind.i64.wrap (s * z) * v)) = b ∧ IntKind.i64.wrap (IntKind.i64.wrap (IntKind.i64.wrap (IntKind.i64.wrap (q * p) * p) - IntKind.i64.wrap (IntKind.i64.wrap (IntKind.i64.wrap (2 * q) * R) * z)) + IntKind.i64.wrap (IntKind.i64.wrap (s * z) * z)) = c ∧ (-300000 ≤ a ∧ a ≤ 300000) ∧ (-500000000 ≤ b ∧ b ≤ 500000000) ∧ (-700000000000 ≤ c ∧ c ≤ 700000000000) := by
  have m1 := mul_bd (a := q) (b := u) (m := 10) (n := 100) (by omega) (by omega) (by omega) (by omega)
  have m2 := mul_bd (a := q * u) (b := u) (m := 1000) (n := 100) (by omega) (by omega) (by omega) (by omega)
  have m3 := mul_bd (a := s) (b := v) (m := 20) (n := 100) (by omega) (by omega) (by omega) (by omega)
  have m4 := mul_bd (a := s * v) (b := v) (m := 2000) (n := 100) (by omega) (by omega) (by omega) (by omega)
  have m5 := mul_bd (a := p) (b := u) (m := 100000) (n := 100) (by omega) (by omega) (by omega) (by omega)
  have m6 := mul_bd (a := R) (b := v) (m := 200000) (n := 100) (by omega) (by omega) (by omega) (by omega)
  have m7 := mul_bd (a := q) (b := p * u - R * v) (m := 10) (n := 30000000) (by omega) (by omega) (by omega) (by omega)
  have m8 := mul_bd (a := s) (b := z) (m := 20) (n := 100000) (by omega) (by omega) (by omega) (by omega)
  have m9 := mul_bd (a := s * z) (b := v) (m := 2000000) (n := 100) (by omega) (by omega) (by omega) (by omega)
  have m10 := mul_bd (a := q) (b := p) (m := 10) (n := 100000) (by omega) (by omega) (by omega) (by omega)
  have m11 := mul_bd (a := q * p) (b := p) (m := 1000000) (n := 100000) (by omega) (by omega) (by omega) (by omega)
  have m12 := mul_bd (a := 2 * q) (b := R) (m := 20) (n := 200000) (by omega) (by omega) (by omega) (by omega)
  have m13 := mul_bd (a := 2 * q * R) (b := z) (m := 4000000) (n := 100000) (by omega) (by omega) (by omega) (by omega)
  have m14 := mul_bd (a := s * z) (b := z) (m := 2000000) (n := 100000) (by omega) (by omega) (by omega) (by omega)
  refine ⟨q * u * u + s * v * v, q * (p * u - R * v) + s * z * v, q * p * p - 2 * q * R * z + s * z * z, ?_, ?_, ?_, ?_, ?_, ?_⟩
  · simp (disch := omega) only [w64']
  · simp (disch := omega) only [w64']
  · simp (disch := omega) only [w64']
  · omega
  · omega
  · omega

theorem k_Hits {x : Con} {y : Ry} (hx : raE x = 0) (hy : ryE y = 0) (i1 : I64 x.2.1) (i2 : I64 x.2.2) : ∃ r : ((Int × Int) × (Int × Int)) × Int, optics_Hit x y = some ((r.1, r.2, ()), ()) ∧ ref02xHit x y = some ((r.1, r.2, ()), ()) := by
  have kr := k_checkRays i1 i2
  rw [hx] at kr
  obtain ⟨xo, x1, x2, x3⟩ := raE_ok hx
  obtain ⟨y1, y2, y3, y4, y5⟩ := ryE_ok hy
  have q0 := xo.q0
  have s1 := k_small (n := y.1) (m := 100000) (by omega) (by omega)
  have s2 := k_small (n := y.2.1) (m := 100000) (by omega) (by omega)
  have s3 := k_small (n := y.2.2.1) (m := 100) (by omega) (by omega)
  have s4 := k_small (n := y.2.2.2) (m := 100) (by omega) (by omega)
  rw [show decide (-100000 ≤ y.1 ∧ y.1 ≤ 100000) = true from decide_eq_true y1] at s1
  rw [show decide (-100000 ≤ y.2.1 ∧ y.2.1 ≤ 100000) = true from decide_eq_true y2] at s2
  rw [show decide (-100 ≤ y.2.2.1 ∧ y.2.2.1 ≤ 100) = true from decide_eq_true y3] at s3
  rw [show decide (-100 ≤ y.2.2.2 ∧ y.2.2.2 ≤ 100) = true from decide_eq_true y4] at s4
  have kb : optics_bend x = some (((x.2.1 + x.2.2, x.2.2), ()), ()) := by
    simp only [optics_bend, T_optics_bend]
    simp (maxSteps := 1000000) (disch := first | omega | assumption) only [↓r_ret, ↓r_fail, ↓r_br, ↓r_bind, ↓r_iter, ↓r_req, decide_eq_true_eq, Bool.not_eq_eq_eq_not, decide_eq_false_iff_not, ite_not, inB_t', app_t', bnd_t', str_t', nz_t, Int.reduceEq, Int.reduceLT, Int.reduceLE, w64', Option.bind_some, Option.bind_none, List.length_cons, List.length_nil, List.length_append, Nat.zero_add, if_pos, if_neg, decide_true, decide_false, if_true, if_false, Bool.not_true, Bool.not_false, Bool.false_eq_true, Bool.true_eq_false, not_true_eq_false, not_false_eq_true, ↓reduceIte, List.nil_append, ]
  have ko : ref02xOnePlus x = some ((x.2.1 + x.2.2, x.2.2, ()), ()) := by
    simp only [ref02xOnePlus, T_ref02xOnePlus]
    simp (maxSteps := 1000000) (disch := first | omega | assumption) only [↓r_ret, ↓r_fail, ↓r_br, ↓r_bind, ↓r_iter, ↓r_req, decide_eq_true_eq, Bool.not_eq_eq_eq_not, decide_eq_false_iff_not, ite_not, inB_t', app_t', bnd_t', str_t', nz_t, Int.reduceEq, Int.reduceLT, Int.reduceLE, w64', Option.bind_some, Option.bind_none, List.length_cons, List.length_nil, List.length_append, Nat.zero_add, if_pos, if_neg, decide_true, decide_false, if_true, if_false, Bool.not_true, Bool.not_false, Bool.false_eq_true, Bool.true_eq_false, not_true_eq_false, not_false_eq_true, ↓reduceIte, List.nil_append, ]
  obtain ⟨a, b, c, ea, eb, ec, ba, bb, bc⟩ := trio (q := x.2.2) (s := x.2.1 + x.2.2) (p := y.1) (z := y.2.1) (u := y.2.2.1) (v := y.2.2.2) (R := x.1) q0 x3 (by omega) (by omega) y1.1 y1.2 y2.1 y2.2 y3.1 y3.2 y4.1 y4.2 x1.1 x1.2
  refine ⟨hitR a b c, ?_, ?_⟩
  · simp only [optics_Hit, T_optics_Hit]
    refine (r_bs kr).trans ?_
    refine (br_f rfl).trans ?_
    refine (r_bs s1).trans ?_
    refine (br_f rfl).trans ?_
    refine (r_bs s2).trans ?_
    refine (br_f rfl).trans ?_
    refine (r_bs s3).trans ?_
    refine (br_f rfl).trans ?_
    refine (r_bs s4).trans ?_
    refine (br_f rfl).trans ?_
    by_cases cu : y.2.2.1 = 0
    · have cv : ¬ y.2.2.2 = 0 := fun h => y5 ⟨cu, h⟩
      refine (br_t (decide_eq_true cu)).trans ?_
      refine (br_f (decide_eq_false cv)).trans ?_
      refine (r_bs kb).trans ?_
      dsimp only
      simp only [ea, eb, ec]
      clear ea eb ec kb ko s1 s2 s3 s4 kr cu cv y1 y2 y3 y4 y5 x1 x2 x3 q0
      by_cases za : a = 0
      · have za' : decide (a = 0) = true := decide_eq_true za
        unfold hitR
        rw [if_pos za]
        refine (br_t za').trans ?_
        by_cases zb : b = 0
        · rw [if_pos zb]
          refine (br_t (decide_eq_true zb)).trans ((r_ret _).trans ?_)
          rfl
        · rw [if_neg zb]
          refine (br_f (decide_eq_false zb)).trans ?_
          clear za' za
          by_cases hb : 2 * b < 0
          · rw [if_pos hb]
            have f1 := k_roundedN (n := -1000000 * c) (b := 2 * b) (by omega) (by omega) (by omega) (by omega)
            rw [show -(-1000000 * c) = 1000000 * c by omega, show -1000000 * c = -(1000000 * c) by omega] at f1
            have e1 : IntKind.i64.wrap (-1000000 * c) = -(1000000 * c) := by rw [w64' (by omega) (by omega)]; omega
            simp (maxSteps := 1000000) (disch := first | omega | assumption) only [↓r_ret, ↓r_fail, ↓r_br, ↓r_bind, ↓r_iter, ↓r_req, decide_eq_true_eq, Bool.not_eq_eq_eq_not, decide_eq_false_iff_not, ite_not, inB_t', app_t', bnd_t', str_t', nz_t, Int.reduceEq, Int.reduceLT, Int.reduceLE, w64', Option.bind_some, Option.bind_none, List.length_cons, List.length_nil, List.length_append, Nat.zero_add, if_pos, if_neg, decide_true, decide_false, if_true, if_false, Bool.not_true, Bool.not_false, Bool.false_eq_true, Bool.true_eq_false, not_true_eq_false, not_false_eq_true, ↓reduceIte, List.nil_append, e1, f1]
          · rw [if_neg hb]
            have f1 := k_rounded (n := -1000000 * c) (b := 2 * b) (by omega) (by omega) (by omega) (by omega)
            rw [show -1000000 * c = 1000000 * -c by omega] at f1
            have e1 : IntKind.i64.wrap (-1000000 * c) = 1000000 * -c := by rw [w64' (by omega) (by omega)]; omega
            simp (maxSteps := 1000000) (disch := first | omega | assumption) only [↓r_ret, ↓r_fail, ↓r_br, ↓r_bind, ↓r_iter, ↓r_req, decide_eq_true_eq, Bool.not_eq_eq_eq_not, decide_eq_false_iff_not, ite_not, inB_t', app_t', bnd_t', str_t', nz_t, Int.reduceEq, Int.reduceLT, Int.reduceLE, w64', Option.bind_some, Option.bind_none, List.length_cons, List.length_nil, List.length_append, Nat.zero_add, if_pos, if_neg, decide_true, decide_false, if_true, if_false, Bool.not_true, Bool.not_false, Bool.false_eq_true, Bool.true_eq_false, not_true_eq_false, not_false_eq_true, ↓reduceIte, List.nil_append, e1, f1]
      · unfold hitR
        rw [if_neg za]
        refine (br_f (decide_eq_false za)).trans ?_
        by_cases na : a < 0
        · rw [if_pos na]
          refine (br_t (decide_eq_true na)).trans ?_
          have n1 : IntKind.i64.wrap (0 - a) = -a := by rw [w64' (by omega) (by omega)]; omega
          have n2 : IntKind.i64.wrap (0 - b) = -b := by rw [w64' (by omega) (by omega)]; omega
          have n3 : IntKind.i64.wrap (0 - c) = -c := by rw [w64' (by omega) (by omega)]; omega
          simp only [n1, n2, n3]
          clear n1 n2 n3
          generalize ha' : -a = a' at *
          generalize hb' : -b = b' at *
          generalize hc' : -c = c' at *
          have m1 := mul_bd (a := b') (b := b') (m := 500000000) (n := 500000000) (by omega) (by omega) (by omega) (by omega)
          have m2 := mul_bd (a := a') (b := c') (m := 300000) (n := 700000000000) (by omega) (by omega) (by omega) (by omega)
          unfold hitP
          by_cases d : b' * b' - a' * c' < 0
          · simp (maxSteps := 1000000) (disch := first | omega | assumption) only [↓r_ret, ↓r_fail, ↓r_br, ↓r_bind, ↓r_iter, ↓r_req, decide_eq_true_eq, Bool.not_eq_eq_eq_not, decide_eq_false_iff_not, ite_not, inB_t', app_t', bnd_t', str_t', nz_t, Int.reduceEq, Int.reduceLT, Int.reduceLE, w64', Option.bind_some, Option.bind_none, List.length_cons, List.length_nil, List.length_append, Nat.zero_add, if_pos, if_neg, decide_true, decide_false, if_true, if_false, Bool.not_true, Bool.not_false, Bool.false_eq_true, Bool.true_eq_false, not_true_eq_false, not_false_eq_true, ↓reduceIte, List.nil_append, d, Int.zero_sub]
          · have s1 := rt_spec (n := b' * b' - a' * c') (by omega)
            have s2 := rt_bd (n := b' * b' - a' * c') (m := 700000000) (by omega) (by decide) (by omega)
            have s3 := rtu_spec (n := b' * b' - a' * c') (by omega)
            have kr := k_root (n := b' * b' - a' * c') (by omega) (by omega)
            have ku := k_rootUp (n := b' * b' - a' * c') (by omega) (by omega)
            have e1 : IntKind.i64.wrap (b' * b') = b' * b' := w64' (by omega) (by omega)
            have e2 : IntKind.i64.wrap (a' * c') = a' * c' := w64' (by omega) (by omega)
            have e3 : IntKind.i64.wrap (b' * b' - a' * c') = b' * b' - a' * c' := w64' (by omega) (by omega)
            have e4 : IntKind.i64.wrap (0 - b') = -b' := by rw [w64' (by omega) (by omega)]; omega
            simp only [e1, e2, e3, e4]
            rw [if_neg d]
            generalize b' * b' - a' * c' = D at *
            generalize rt D = L at *
            generalize rtu D = H at *
            have f1 := k_floor (n := 1000000 * (-b' - H)) (b := a') (by omega) (by omega) (by omega) (by omega)
            have f2 := k_ceil (n := 1000000 * (-b' - L)) (b := a') (by omega) (by omega) (by omega) (by omega)
            have f3 := k_floor (n := 1000000 * (-b' + L)) (b := a') (by omega) (by omega) (by omega) (by omega)
            have f4 := k_ceil (n := 1000000 * (-b' + H)) (b := a') (by omega) (by omega) (by omega) (by omega)
            simp (maxSteps := 1000000) (disch := first | omega | assumption) only [↓r_ret, ↓r_fail, ↓r_br, ↓r_bind, ↓r_iter, ↓r_req, decide_eq_true_eq, Bool.not_eq_eq_eq_not, decide_eq_false_iff_not, ite_not, inB_t', app_t', bnd_t', str_t', nz_t, Int.reduceEq, Int.reduceLT, Int.reduceLE, w64', Option.bind_some, Option.bind_none, List.length_cons, List.length_nil, List.length_append, Nat.zero_add, if_pos, if_neg, decide_true, decide_false, if_true, if_false, Bool.not_true, Bool.not_false, Bool.false_eq_true, Bool.true_eq_false, not_true_eq_false, not_false_eq_true, ↓reduceIte, List.nil_append, d, kr, ku, f1, f2, f3, f4, eta2]
        · rw [if_neg na]
          refine (br_f (decide_eq_false na)).trans ?_
          have m1 := mul_bd (a := b) (b := b) (m := 500000000) (n := 500000000) (by omega) (by omega) (by omega) (by omega)
          have m2 := mul_bd (a := a) (b := c) (m := 300000) (n := 700000000000) (by omega) (by omega) (by omega) (by omega)
          unfold hitP
          by_cases d : b * b - a * c < 0
          · simp (maxSteps := 1000000) (disch := first | omega | assumption) only [↓r_ret, ↓r_fail, ↓r_br, ↓r_bind, ↓r_iter, ↓r_req, decide_eq_true_eq, Bool.not_eq_eq_eq_not, decide_eq_false_iff_not, ite_not, inB_t', app_t', bnd_t', str_t', nz_t, Int.reduceEq, Int.reduceLT, Int.reduceLE, w64', Option.bind_some, Option.bind_none, List.length_cons, List.length_nil, List.length_append, Nat.zero_add, if_pos, if_neg, decide_true, decide_false, if_true, if_false, Bool.not_true, Bool.not_false, Bool.false_eq_true, Bool.true_eq_false, not_true_eq_false, not_false_eq_true, ↓reduceIte, List.nil_append, d, Int.zero_sub]
          · have s1 := rt_spec (n := b * b - a * c) (by omega)
            have s2 := rt_bd (n := b * b - a * c) (m := 700000000) (by omega) (by decide) (by omega)
            have s3 := rtu_spec (n := b * b - a * c) (by omega)
            have kr := k_root (n := b * b - a * c) (by omega) (by omega)
            have ku := k_rootUp (n := b * b - a * c) (by omega) (by omega)
            have e1 : IntKind.i64.wrap (b * b) = b * b := w64' (by omega) (by omega)
            have e2 : IntKind.i64.wrap (a * c) = a * c := w64' (by omega) (by omega)
            have e3 : IntKind.i64.wrap (b * b - a * c) = b * b - a * c := w64' (by omega) (by omega)
            have e4 : IntKind.i64.wrap (0 - b) = -b := by rw [w64' (by omega) (by omega)]; omega
            simp only [e1, e2, e3, e4]
            rw [if_neg d]
            generalize b * b - a * c = D at *
            generalize rt D = L at *
            generalize rtu D = H at *
            have f1 := k_floor (n := 1000000 * (-b - H)) (b := a) (by omega) (by omega) (by omega) (by omega)
            have f2 := k_ceil (n := 1000000 * (-b - L)) (b := a) (by omega) (by omega) (by omega) (by omega)
            have f3 := k_floor (n := 1000000 * (-b + L)) (b := a) (by omega) (by omega) (by omega) (by omega)
            have f4 := k_ceil (n := 1000000 * (-b + H)) (b := a) (by omega) (by omega) (by omega) (by omega)
            simp (maxSteps := 1000000) (disch := first | omega | assumption) only [↓r_ret, ↓r_fail, ↓r_br, ↓r_bind, ↓r_iter, ↓r_req, decide_eq_true_eq, Bool.not_eq_eq_eq_not, decide_eq_false_iff_not, ite_not, inB_t', app_t', bnd_t', str_t', nz_t, Int.reduceEq, Int.reduceLT, Int.reduceLE, w64', Option.bind_some, Option.bind_none, List.length_cons, List.length_nil, List.length_append, Nat.zero_add, if_pos, if_neg, decide_true, decide_false, if_true, if_false, Bool.not_true, Bool.not_false, Bool.false_eq_true, Bool.true_eq_false, not_true_eq_false, not_false_eq_true, ↓reduceIte, List.nil_append, d, kr, ku, f1, f2, f3, f4, eta2]
    · refine (br_f (decide_eq_false cu)).trans ?_
      refine (r_bs kb).trans ?_
      dsimp only
      simp only [ea, eb, ec]
      clear ea eb ec kb ko s1 s2 s3 s4 kr cu y1 y2 y3 y4 y5 x1 x2 x3 q0
      by_cases za : a = 0
      · have za' : decide (a = 0) = true := decide_eq_true za
        unfold hitR
        rw [if_pos za]
        refine (br_t za').trans ?_
        by_cases zb : b = 0
        · rw [if_pos zb]
          refine (br_t (decide_eq_true zb)).trans ((r_ret _).trans ?_)
          rfl
        · rw [if_neg zb]
          refine (br_f (decide_eq_false zb)).trans ?_
          clear za' za
          by_cases hb : 2 * b < 0
          · rw [if_pos hb]
            have f1 := k_roundedN (n := -1000000 * c) (b := 2 * b) (by omega) (by omega) (by omega) (by omega)
            rw [show -(-1000000 * c) = 1000000 * c by omega, show -1000000 * c = -(1000000 * c) by omega] at f1
            have e1 : IntKind.i64.wrap (-1000000 * c) = -(1000000 * c) := by rw [w64' (by omega) (by omega)]; omega
            simp (maxSteps := 1000000) (disch := first | omega | assumption) only [↓r_ret, ↓r_fail, ↓r_br, ↓r_bind, ↓r_iter, ↓r_req, decide_eq_true_eq, Bool.not_eq_eq_eq_not, decide_eq_false_iff_not, ite_not, inB_t', app_t', bnd_t', str_t', nz_t, Int.reduceEq, Int.reduceLT, Int.reduceLE, w64', Option.bind_some, Option.bind_none, List.length_cons, List.length_nil, List.length_append, Nat.zero_add, if_pos, if_neg, decide_true, decide_false, if_true, if_false, Bool.not_true, Bool.not_false, Bool.false_eq_true, Bool.true_eq_false, not_true_eq_false, not_false_eq_true, ↓reduceIte, List.nil_append, e1, f1]
          · rw [if_neg hb]
            have f1 := k_rounded (n := -1000000 * c) (b := 2 * b) (by omega) (by omega) (by omega) (by omega)
            rw [show -1000000 * c = 1000000 * -c by omega] at f1
            have e1 : IntKind.i64.wrap (-1000000 * c) = 1000000 * -c := by rw [w64' (by omega) (by omega)]; omega
            simp (maxSteps := 1000000) (disch := first | omega | assumption) only [↓r_ret, ↓r_fail, ↓r_br, ↓r_bind, ↓r_iter, ↓r_req, decide_eq_true_eq, Bool.not_eq_eq_eq_not, decide_eq_false_iff_not, ite_not, inB_t', app_t', bnd_t', str_t', nz_t, Int.reduceEq, Int.reduceLT, Int.reduceLE, w64', Option.bind_some, Option.bind_none, List.length_cons, List.length_nil, List.length_append, Nat.zero_add, if_pos, if_neg, decide_true, decide_false, if_true, if_false, Bool.not_true, Bool.not_false, Bool.false_eq_true, Bool.true_eq_false, not_true_eq_false, not_false_eq_true, ↓reduceIte, List.nil_append, e1, f1]
      · unfold hitR
        rw [if_neg za]
        refine (br_f (decide_eq_false za)).trans ?_
        by_cases na : a < 0
        · rw [if_pos na]
          refine (br_t (decide_eq_true na)).trans ?_
          have n1 : IntKind.i64.wrap (0 - a) = -a := by rw [w64' (by omega) (by omega)]; omega
          have n2 : IntKind.i64.wrap (0 - b) = -b := by rw [w64' (by omega) (by omega)]; omega
          have n3 : IntKind.i64.wrap (0 - c) = -c := by rw [w64' (by omega) (by omega)]; omega
          simp only [n1, n2, n3]
          clear n1 n2 n3
          generalize ha' : -a = a' at *
          generalize hb' : -b = b' at *
          generalize hc' : -c = c' at *
          have m1 := mul_bd (a := b') (b := b') (m := 500000000) (n := 500000000) (by omega) (by omega) (by omega) (by omega)
          have m2 := mul_bd (a := a') (b := c') (m := 300000) (n := 700000000000) (by omega) (by omega) (by omega) (by omega)
          unfold hitP
          by_cases d : b' * b' - a' * c' < 0
          · simp (maxSteps := 1000000) (disch := first | omega | assumption) only [↓r_ret, ↓r_fail, ↓r_br, ↓r_bind, ↓r_iter, ↓r_req, decide_eq_true_eq, Bool.not_eq_eq_eq_not, decide_eq_false_iff_not, ite_not, inB_t', app_t', bnd_t', str_t', nz_t, Int.reduceEq, Int.reduceLT, Int.reduceLE, w64', Option.bind_some, Option.bind_none, List.length_cons, List.length_nil, List.length_append, Nat.zero_add, if_pos, if_neg, decide_true, decide_false, if_true, if_false, Bool.not_true, Bool.not_false, Bool.false_eq_true, Bool.true_eq_false, not_true_eq_false, not_false_eq_true, ↓reduceIte, List.nil_append, d, Int.zero_sub]
          · have s1 := rt_spec (n := b' * b' - a' * c') (by omega)
            have s2 := rt_bd (n := b' * b' - a' * c') (m := 700000000) (by omega) (by decide) (by omega)
            have s3 := rtu_spec (n := b' * b' - a' * c') (by omega)
            have kr := k_root (n := b' * b' - a' * c') (by omega) (by omega)
            have ku := k_rootUp (n := b' * b' - a' * c') (by omega) (by omega)
            have e1 : IntKind.i64.wrap (b' * b') = b' * b' := w64' (by omega) (by omega)
            have e2 : IntKind.i64.wrap (a' * c') = a' * c' := w64' (by omega) (by omega)
            have e3 : IntKind.i64.wrap (b' * b' - a' * c') = b' * b' - a' * c' := w64' (by omega) (by omega)
            have e4 : IntKind.i64.wrap (0 - b') = -b' := by rw [w64' (by omega) (by omega)]; omega
            simp only [e1, e2, e3, e4]
            rw [if_neg d]
            generalize b' * b' - a' * c' = D at *
            generalize rt D = L at *
            generalize rtu D = H at *
            have f1 := k_floor (n := 1000000 * (-b' - H)) (b := a') (by omega) (by omega) (by omega) (by omega)
            have f2 := k_ceil (n := 1000000 * (-b' - L)) (b := a') (by omega) (by omega) (by omega) (by omega)
            have f3 := k_floor (n := 1000000 * (-b' + L)) (b := a') (by omega) (by omega) (by omega) (by omega)
            have f4 := k_ceil (n := 1000000 * (-b' + H)) (b := a') (by omega) (by omega) (by omega) (by omega)
            simp (maxSteps := 1000000) (disch := first | omega | assumption) only [↓r_ret, ↓r_fail, ↓r_br, ↓r_bind, ↓r_iter, ↓r_req, decide_eq_true_eq, Bool.not_eq_eq_eq_not, decide_eq_false_iff_not, ite_not, inB_t', app_t', bnd_t', str_t', nz_t, Int.reduceEq, Int.reduceLT, Int.reduceLE, w64', Option.bind_some, Option.bind_none, List.length_cons, List.length_nil, List.length_append, Nat.zero_add, if_pos, if_neg, decide_true, decide_false, if_true, if_false, Bool.not_true, Bool.not_false, Bool.false_eq_true, Bool.true_eq_false, not_true_eq_false, not_false_eq_true, ↓reduceIte, List.nil_append, d, kr, ku, f1, f2, f3, f4, eta2]
        · rw [if_neg na]
          refine (br_f (decide_eq_false na)).trans ?_
          have m1 := mul_bd (a := b) (b := b) (m := 500000000) (n := 500000000) (by omega) (by omega) (by omega) (by omega)
          have m2 := mul_bd (a := a) (b := c) (m := 300000) (n := 700000000000) (by omega) (by omega) (by omega) (by omega)
          unfold hitP
          by_cases d : b * b - a * c < 0
          · simp (maxSteps := 1000000) (disch := first | omega | assumption) only [↓r_ret, ↓r_fail, ↓r_br, ↓r_bind, ↓r_iter, ↓r_req, decide_eq_true_eq, Bool.not_eq_eq_eq_not, decide_eq_false_iff_not, ite_not, inB_t', app_t', bnd_t', str_t', nz_t, Int.reduceEq, Int.reduceLT, Int.reduceLE, w64', Option.bind_some, Option.bind_none, List.length_cons, List.length_nil, List.length_append, Nat.zero_add, if_pos, if_neg, decide_true, decide_false, if_true, if_false, Bool.not_true, Bool.not_false, Bool.false_eq_true, Bool.true_eq_false, not_true_eq_false, not_false_eq_true, ↓reduceIte, List.nil_append, d, Int.zero_sub]
          · have s1 := rt_spec (n := b * b - a * c) (by omega)
            have s2 := rt_bd (n := b * b - a * c) (m := 700000000) (by omega) (by decide) (by omega)
            have s3 := rtu_spec (n := b * b - a * c) (by omega)
            have kr := k_root (n := b * b - a * c) (by omega) (by omega)
            have ku := k_rootUp (n := b * b - a * c) (by omega) (by omega)
            have e1 : IntKind.i64.wrap (b * b) = b * b := w64' (by omega) (by omega)
            have e2 : IntKind.i64.wrap (a * c) = a * c := w64' (by omega) (by omega)
            have e3 : IntKind.i64.wrap (b * b - a * c) = b * b - a * c := w64' (by omega) (by omega)
            have e4 : IntKind.i64.wrap (0 - b) = -b := by rw [w64' (by omega) (by omega)]; omega
            simp only [e1, e2, e3, e4]
            rw [if_neg d]
            generalize b * b - a * c = D at *
            generalize rt D = L at *
            generalize rtu D = H at *
            have f1 := k_floor (n := 1000000 * (-b - H)) (b := a) (by omega) (by omega) (by omega) (by omega)
            have f2 := k_ceil (n := 1000000 * (-b - L)) (b := a) (by omega) (by omega) (by omega) (by omega)
            have f3 := k_floor (n := 1000000 * (-b + L)) (b := a) (by omega) (by omega) (by omega) (by omega)
            have f4 := k_ceil (n := 1000000 * (-b + H)) (b := a) (by omega) (by omega) (by omega) (by omega)
            simp (maxSteps := 1000000) (disch := first | omega | assumption) only [↓r_ret, ↓r_fail, ↓r_br, ↓r_bind, ↓r_iter, ↓r_req, decide_eq_true_eq, Bool.not_eq_eq_eq_not, decide_eq_false_iff_not, ite_not, inB_t', app_t', bnd_t', str_t', nz_t, Int.reduceEq, Int.reduceLT, Int.reduceLE, w64', Option.bind_some, Option.bind_none, List.length_cons, List.length_nil, List.length_append, Nat.zero_add, if_pos, if_neg, decide_true, decide_false, if_true, if_false, Bool.not_true, Bool.not_false, Bool.false_eq_true, Bool.true_eq_false, not_true_eq_false, not_false_eq_true, ↓reduceIte, List.nil_append, d, kr, ku, f1, f2, f3, f4, eta2]
  · simp only [ref02xHit, T_ref02xHit]
    refine (r_bs ko).trans ?_
    dsimp only
    simp only [ea, eb, ec]
    clear ea eb ec kb ko s1 s2 s3 s4 kr y1 y2 y3 y4 y5 x1 x2 x3 q0
    by_cases za : a = 0
    · have za' : decide (a = 0) = true := decide_eq_true za
      unfold hitR
      rw [if_pos za]
      refine (br_t za').trans ?_
      by_cases zb : b = 0
      · rw [if_pos zb]
        refine (br_t (decide_eq_true zb)).trans ((r_ret _).trans ?_)
        rfl
      · rw [if_neg zb]
        refine (br_f (decide_eq_false zb)).trans ?_
        clear za' za
        by_cases hb : 2 * b < 0
        · rw [if_pos hb]
          have f1 := k_Floor (n := 1000000 * c) (b := -(2 * b)) (by omega) (by omega) (by omega) (by omega)
          have f2 := k_Ceil (n := 1000000 * c) (b := -(2 * b)) (by omega) (by omega) (by omega) (by omega)
          have e1 : IntKind.i64.wrap (0 - IntKind.i64.wrap (0 - c)) = c := by
            have e : IntKind.i64.wrap (0 - c) = -c := by rw [w64' (by omega) (by omega)]; omega
            rw [e, w64' (by omega) (by omega)]; omega
          simp (maxSteps := 1000000) (disch := first | omega | assumption) only [↓r_ret, ↓r_fail, ↓r_br, ↓r_bind, ↓r_iter, ↓r_req, decide_eq_true_eq, Bool.not_eq_eq_eq_not, decide_eq_false_iff_not, ite_not, inB_t', app_t', bnd_t', str_t', nz_t, Int.reduceEq, Int.reduceLT, Int.reduceLE, w64', Option.bind_some, Option.bind_none, List.length_cons, List.length_nil, List.length_append, Nat.zero_add, if_pos, if_neg, decide_true, decide_false, if_true, if_false, Bool.not_true, Bool.not_false, Bool.false_eq_true, Bool.true_eq_false, not_true_eq_false, not_false_eq_true, ↓reduceIte, List.nil_append, e1, hb, f1, f2, Int.zero_sub, Int.neg_neg]
        · rw [if_neg hb]
          have f1 := k_Floor (n := 1000000 * -c) (b := 2 * b) (by omega) (by omega) (by omega) (by omega)
          have f2 := k_Ceil (n := 1000000 * -c) (b := 2 * b) (by omega) (by omega) (by omega) (by omega)
          simp (maxSteps := 1000000) (disch := first | omega | assumption) only [↓r_ret, ↓r_fail, ↓r_br, ↓r_bind, ↓r_iter, ↓r_req, decide_eq_true_eq, Bool.not_eq_eq_eq_not, decide_eq_false_iff_not, ite_not, inB_t', app_t', bnd_t', str_t', nz_t, Int.reduceEq, Int.reduceLT, Int.reduceLE, w64', Option.bind_some, Option.bind_none, List.length_cons, List.length_nil, List.length_append, Nat.zero_add, if_pos, if_neg, decide_true, decide_false, if_true, if_false, Bool.not_true, Bool.not_false, Bool.false_eq_true, Bool.true_eq_false, not_true_eq_false, not_false_eq_true, ↓reduceIte, List.nil_append, hb, f1, f2, Int.zero_sub]
    · unfold hitR
      rw [if_neg za]
      refine (br_f (decide_eq_false za)).trans ?_
      by_cases na : a < 0
      · rw [if_pos na]
        refine (br_t (decide_eq_true na)).trans ?_
        have n1 : IntKind.i64.wrap (0 - a) = -a := by rw [w64' (by omega) (by omega)]; omega
        have n2 : IntKind.i64.wrap (0 - b) = -b := by rw [w64' (by omega) (by omega)]; omega
        have n3 : IntKind.i64.wrap (0 - c) = -c := by rw [w64' (by omega) (by omega)]; omega
        simp only [n1, n2, n3]
        clear n1 n2 n3
        generalize ha' : -a = a' at *
        generalize hb' : -b = b' at *
        generalize hc' : -c = c' at *
        have m1 := mul_bd (a := b') (b := b') (m := 500000000) (n := 500000000) (by omega) (by omega) (by omega) (by omega)
        have m2 := mul_bd (a := a') (b := c') (m := 300000) (n := 700000000000) (by omega) (by omega) (by omega) (by omega)
        unfold hitP
        by_cases d : b' * b' - a' * c' < 0
        · simp (maxSteps := 1000000) (disch := first | omega | assumption) only [↓r_ret, ↓r_fail, ↓r_br, ↓r_bind, ↓r_iter, ↓r_req, decide_eq_true_eq, Bool.not_eq_eq_eq_not, decide_eq_false_iff_not, ite_not, inB_t', app_t', bnd_t', str_t', nz_t, Int.reduceEq, Int.reduceLT, Int.reduceLE, w64', Option.bind_some, Option.bind_none, List.length_cons, List.length_nil, List.length_append, Nat.zero_add, if_pos, if_neg, decide_true, decide_false, if_true, if_false, Bool.not_true, Bool.not_false, Bool.false_eq_true, Bool.true_eq_false, not_true_eq_false, not_false_eq_true, ↓reduceIte, List.nil_append, d, Int.zero_sub]
        · have s1 := rt_spec (n := b' * b' - a' * c') (by omega)
          have s2 := rt_bd (n := b' * b' - a' * c') (m := 700000000) (by omega) (by decide) (by omega)
          have s3 := rtu_spec (n := b' * b' - a' * c') (by omega)
          have kr := k_Root (n := b' * b' - a' * c') (by omega) (by omega)
          have e1 : IntKind.i64.wrap (b' * b') = b' * b' := w64' (by omega) (by omega)
          have e2 : IntKind.i64.wrap (a' * c') = a' * c' := w64' (by omega) (by omega)
          have e3 : IntKind.i64.wrap (b' * b' - a' * c') = b' * b' - a' * c' := w64' (by omega) (by omega)
          have e4 : IntKind.i64.wrap (0 - b') = -b' := by rw [w64' (by omega) (by omega)]; omega
          simp only [e1, e2, e3, e4]
          rw [if_neg d]
          generalize b' * b' - a' * c' = D at *
          generalize rt D = L at *
          generalize rtu D = H at *
          have f1 := k_Floor (n := 1000000 * (-b' - H)) (b := a') (by omega) (by omega) (by omega) (by omega)
          have f2 := k_Ceil (n := 1000000 * (-b' - L)) (b := a') (by omega) (by omega) (by omega) (by omega)
          have f3 := k_Floor (n := 1000000 * (-b' + L)) (b := a') (by omega) (by omega) (by omega) (by omega)
          have f4 := k_Ceil (n := 1000000 * (-b' + H)) (b := a') (by omega) (by omega) (by omega) (by omega)
          simp (maxSteps := 1000000) (disch := first | omega | assumption) only [↓r_ret, ↓r_fail, ↓r_br, ↓r_bind, ↓r_iter, ↓r_req, decide_eq_true_eq, Bool.not_eq_eq_eq_not, decide_eq_false_iff_not, ite_not, inB_t', app_t', bnd_t', str_t', nz_t, Int.reduceEq, Int.reduceLT, Int.reduceLE, w64', Option.bind_some, Option.bind_none, List.length_cons, List.length_nil, List.length_append, Nat.zero_add, if_pos, if_neg, decide_true, decide_false, if_true, if_false, Bool.not_true, Bool.not_false, Bool.false_eq_true, Bool.true_eq_false, not_true_eq_false, not_false_eq_true, ↓reduceIte, List.nil_append, d, kr,  f1, f2, f3, f4, eta2]
      · rw [if_neg na]
        refine (br_f (decide_eq_false na)).trans ?_
        have m1 := mul_bd (a := b) (b := b) (m := 500000000) (n := 500000000) (by omega) (by omega) (by omega) (by omega)
        have m2 := mul_bd (a := a) (b := c) (m := 300000) (n := 700000000000) (by omega) (by omega) (by omega) (by omega)
        unfold hitP
        by_cases d : b * b - a * c < 0
        · simp (maxSteps := 1000000) (disch := first | omega | assumption) only [↓r_ret, ↓r_fail, ↓r_br, ↓r_bind, ↓r_iter, ↓r_req, decide_eq_true_eq, Bool.not_eq_eq_eq_not, decide_eq_false_iff_not, ite_not, inB_t', app_t', bnd_t', str_t', nz_t, Int.reduceEq, Int.reduceLT, Int.reduceLE, w64', Option.bind_some, Option.bind_none, List.length_cons, List.length_nil, List.length_append, Nat.zero_add, if_pos, if_neg, decide_true, decide_false, if_true, if_false, Bool.not_true, Bool.not_false, Bool.false_eq_true, Bool.true_eq_false, not_true_eq_false, not_false_eq_true, ↓reduceIte, List.nil_append, d, Int.zero_sub]
        · have s1 := rt_spec (n := b * b - a * c) (by omega)
          have s2 := rt_bd (n := b * b - a * c) (m := 700000000) (by omega) (by decide) (by omega)
          have s3 := rtu_spec (n := b * b - a * c) (by omega)
          have kr := k_Root (n := b * b - a * c) (by omega) (by omega)
          have e1 : IntKind.i64.wrap (b * b) = b * b := w64' (by omega) (by omega)
          have e2 : IntKind.i64.wrap (a * c) = a * c := w64' (by omega) (by omega)
          have e3 : IntKind.i64.wrap (b * b - a * c) = b * b - a * c := w64' (by omega) (by omega)
          have e4 : IntKind.i64.wrap (0 - b) = -b := by rw [w64' (by omega) (by omega)]; omega
          simp only [e1, e2, e3, e4]
          rw [if_neg d]
          generalize b * b - a * c = D at *
          generalize rt D = L at *
          generalize rtu D = H at *
          have f1 := k_Floor (n := 1000000 * (-b - H)) (b := a) (by omega) (by omega) (by omega) (by omega)
          have f2 := k_Ceil (n := 1000000 * (-b - L)) (b := a) (by omega) (by omega) (by omega) (by omega)
          have f3 := k_Floor (n := 1000000 * (-b + L)) (b := a) (by omega) (by omega) (by omega) (by omega)
          have f4 := k_Ceil (n := 1000000 * (-b + H)) (b := a) (by omega) (by omega) (by omega) (by omega)
          simp (maxSteps := 1000000) (disch := first | omega | assumption) only [↓r_ret, ↓r_fail, ↓r_br, ↓r_bind, ↓r_iter, ↓r_req, decide_eq_true_eq, Bool.not_eq_eq_eq_not, decide_eq_false_iff_not, ite_not, inB_t', app_t', bnd_t', str_t', nz_t, Int.reduceEq, Int.reduceLT, Int.reduceLE, w64', Option.bind_some, Option.bind_none, List.length_cons, List.length_nil, List.length_append, Nat.zero_add, if_pos, if_neg, decide_true, decide_false, if_true, if_false, Bool.not_true, Bool.not_false, Bool.false_eq_true, Bool.true_eq_false, not_true_eq_false, not_false_eq_true, ↓reduceIte, List.nil_append, d, kr,  f1, f2, f3, f4, eta2]

theorem k_HitE {x : Con} {y : Ry} (hx : ¬ raE x = 0) (i1 : I64 x.2.1) (i2 : I64 x.2.2) : optics_Hit x y = some ((((0, 0), (0, 0)), raE x, ()), ()) := by
  have kr := k_checkRays i1 i2
  simp only [optics_Hit, T_optics_Hit]
  refine (r_bs kr).trans ?_
  refine (br_t ?_).trans (r_ret _)
  simp [hx]
theorem k_HitE2 {x : Con} {y : Ry} (hx : raE x = 0) (hy : ¬ ryE y = 0) (i1 : I64 x.2.1) (i2 : I64 x.2.2) : optics_Hit x y = some ((((0, 0), (0, 0)), ryE y, ()), ()) := by
  have kr := k_checkRays i1 i2
  rw [hx] at kr
  have s1 := k_small (n := y.1) (m := 100000) (by omega) (by omega)
  have s2 := k_small (n := y.2.1) (m := 100000) (by omega) (by omega)
  have s3 := k_small (n := y.2.2.1) (m := 100) (by omega) (by omega)
  have s4 := k_small (n := y.2.2.2) (m := 100) (by omega) (by omega)
  simp only [optics_Hit, T_optics_Hit]
  unfold ryE at *
  refine (r_bs kr).trans ?_
  refine (br_f rfl).trans ?_
  by_cases c1 : -100000 ≤ y.1 ∧ y.1 ≤ 100000
  · refine (r_bs s1).trans ?_
    refine (br_f (by simp [c1])).trans ?_
    rw [if_neg (fun h => h c1)] at hy ⊢
    by_cases c2 : -100000 ≤ y.2.1 ∧ y.2.1 ≤ 100000
    · refine (r_bs s2).trans ?_
      refine (br_f (by simp [c2])).trans ?_
      rw [if_neg (fun h => h c2)] at hy ⊢
      by_cases c3 : -100 ≤ y.2.2.1 ∧ y.2.2.1 ≤ 100
      · refine (r_bs s3).trans ?_
        refine (br_f (by simp [c3])).trans ?_
        rw [if_neg (fun h => h c3)] at hy ⊢
        by_cases c4 : -100 ≤ y.2.2.2 ∧ y.2.2.2 ≤ 100
        · refine (r_bs s4).trans ?_
          refine (br_f (by simp [c4])).trans ?_
          rw [if_neg (fun h => h c4)] at hy ⊢
          by_cases c5 : y.2.2.1 = 0 ∧ y.2.2.2 = 0
          · rw [if_pos c5]
            exact (br_t (decide_eq_true c5.1)).trans ((br_t (decide_eq_true c5.2)).trans (r_ret _))
          · rw [if_neg c5] at hy
            exact absurd rfl hy
        · rw [if_pos c4]
          refine (r_bs s4).trans ?_
          refine (br_t (by simp; omega)).trans (r_ret _)
      · rw [if_pos c3]
        refine (r_bs s3).trans ?_
        refine (br_t (by simp; omega)).trans (r_ret _)
    · rw [if_pos c2]
      refine (r_bs s2).trans ?_
      refine (br_t (by simp; omega)).trans (r_ret _)
  · rw [if_pos c1]
    refine (r_bs s1).trans ?_
    refine (br_t (by simp; omega)).trans (r_ret _)

theorem k_OpticsHits {c : (Int × (Int × Int))} {y : (Int × (Int × (Int × Int)))} (b0 : bulkT (.pair (.int .i64) (.pair (.int .i64) (.int .i64))) c ≤ 1048576) (w0 : wfT (.pair (.int .i64) (.pair (.int .i64) (.int .i64))) c) (b1 : bulkT (.pair (.int .i64) (.pair (.int .i64) (.pair (.int .i64) (.int .i64)))) y ≤ 1048576) (w1 : wfT (.pair (.int .i64) (.pair (.int .i64) (.pair (.int .i64) (.int .i64)))) y) : law02xOpticsHits c y = some ((true, ()), ()) := by
  have i1 : I64 c.2.1 := w0.2.1
  have i2 : I64 c.2.2 := w0.2.2
  have kr := k_rCheckRays i1 i2
  have ky := k_CheckRay (y := y)
  simp only [law02xOpticsHits, T_law02xOpticsHits]
  by_cases hx : raE c = 0
  · by_cases hy : ryE y = 0
    · obtain ⟨r, k1, k2⟩ := k_Hits hx hy i1 i2
      simp (maxSteps := 1000000) (disch := first | omega | assumption) only [↓r_ret, ↓r_fail, ↓r_br, ↓r_bind, ↓r_iter, ↓r_req, decide_eq_true_eq, Bool.not_eq_eq_eq_not, decide_eq_false_iff_not, ite_not, inB_t', app_t', bnd_t', str_t', nz_t, Int.reduceEq, Int.reduceLT, Int.reduceLE, w64', Option.bind_some, Option.bind_none, List.length_cons, List.length_nil, List.length_append, Nat.zero_add, if_pos, if_neg, decide_true, decide_false, if_true, if_false, Bool.not_true, Bool.not_false, Bool.false_eq_true, Bool.true_eq_false, not_true_eq_false, not_false_eq_true, ↓reduceIte, List.nil_append, awake_ok, eta2, kr, ky, hx, hy, k1, k2, Bool.and_self]
    · have k1 := k_HitE2 hx hy i1 i2
      simp (maxSteps := 1000000) (disch := first | omega | assumption) only [↓r_ret, ↓r_fail, ↓r_br, ↓r_bind, ↓r_iter, ↓r_req, decide_eq_true_eq, Bool.not_eq_eq_eq_not, decide_eq_false_iff_not, ite_not, inB_t', app_t', bnd_t', str_t', nz_t, Int.reduceEq, Int.reduceLT, Int.reduceLE, w64', Option.bind_some, Option.bind_none, List.length_cons, List.length_nil, List.length_append, Nat.zero_add, if_pos, if_neg, decide_true, decide_false, if_true, if_false, Bool.not_true, Bool.not_false, Bool.false_eq_true, Bool.true_eq_false, not_true_eq_false, not_false_eq_true, ↓reduceIte, List.nil_append, awake_ok, eta2, kr, ky, hx, hy, k1, Bool.and_self]
  · have k1 := k_HitE (y := y) hx i1 i2
    simp (maxSteps := 1000000) (disch := first | omega | assumption) only [↓r_ret, ↓r_fail, ↓r_br, ↓r_bind, ↓r_iter, ↓r_req, decide_eq_true_eq, Bool.not_eq_eq_eq_not, decide_eq_false_iff_not, ite_not, inB_t', app_t', bnd_t', str_t', nz_t, Int.reduceEq, Int.reduceLT, Int.reduceLE, w64', Option.bind_some, Option.bind_none, List.length_cons, List.length_nil, List.length_append, Nat.zero_add, if_pos, if_neg, decide_true, decide_false, if_true, if_false, Bool.not_true, Bool.not_false, Bool.false_eq_true, Bool.true_eq_false, not_true_eq_false, not_false_eq_true, ↓reduceIte, List.nil_append, awake_ok, eta2, kr, hx, k1, Bool.and_self]
end Go.Ab
