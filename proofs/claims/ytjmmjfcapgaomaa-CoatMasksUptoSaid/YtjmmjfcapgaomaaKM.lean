/- Masks; CoatMasks answers true. -/
import Derived.Test.YtjmmjfcapgaomaaKA

section
namespace Go.Ab
open Go
set_option maxRecDepth 1000000
set_option maxHeartbeats 1000000
set_option linter.unusedVariables false
set_option linter.unusedSimpArgs false
attribute [local congr] bindC iterC

def mkP (m : List Int) (j : Nat) : Bool := !decide (0 ≤ gi m (j : Int) ∧ gi m (j : Int) ≤ 1000)
def mkE (m : List Int) : Int := if 1 ≤ (m.length : Int) ∧ (m.length : Int) ≤ 40 then (if 0 ≤ idxTo (mkP m) m.length then 2 else 0) else 10
theorem mkP_t {m : List Int} {j : Nat} (h : mkP m j = true) : ¬ (0 ≤ gi m (j : Int) ∧ gi m (j : Int) ≤ 1000) := fun c => by rw [mkP, decide_eq_true c] at h; cases h
theorem mkP_f {m : List Int} {j : Nat} (h : mkP m j = false) : 0 ≤ gi m (j : Int) ∧ gi m (j : Int) ≤ 1000 := by
  by_cases c : 0 ≤ gi m (j : Int) ∧ gi m (j : Int) ≤ 1000
  · exact c
  · rw [mkP, decide_eq_false c] at h; cases h
theorem mkE_0 {m : List Int} (h : mkE m = 0) : (1 ≤ m.length ∧ m.length ≤ 40) ∧ ∀ j : Nat, j < m.length → 0 ≤ gi m (j : Int) ∧ gi m (j : Int) ≤ 1000 := by
  unfold mkE at h
  split at h
  · split at h
    · cases h
    · rename_i h1 h2
      refine ⟨by omega, fun j hj => ?_⟩
      rcases idxTo_cases (mkP m) m.length with ⟨_, q⟩ | ⟨i, q1, q2, _⟩
      · exact mkP_f (q j hj)
      · omega
  · cases h

theorem k_maskIx {m : List Int} (hl : m.length ≤ 1048576) : slices_IndexFunc_int_CheckMaskc1 m = some ((idxTo (mkP m) m.length, ()), ()) := by
  simp only [slices_IndexFunc_int_CheckMaskc1, T_slices_IndexFunc_int_CheckMaskc1]
  rw [r_iter]
  refine iter_idx (mkP m) m.length (by omega) (fun i => ((i, ()), ())) ?_ ?_ ?_
  all_goals simp only [T_slices_IndexFunc_int_CheckMaskc1xl0, coat_CheckMask_c1, T_coat_CheckMask_c1]
  · intro i hi hp
    have hp := mkP_t hp
    simp (maxSteps := 1000000) (disch := first | omega | assumption) only [↓r_ret, ↓r_fail, ↓r_br, ↓r_bind, ↓r_iter, ↓r_req, decide_eq_true_eq, Bool.not_eq_eq_eq_not, decide_eq_false_iff_not, ite_not, inB_t', app_t', bnd_t', str_t', nz_t, Int.reduceEq, Int.reduceLT, Int.reduceLE, w64', Option.bind_some, Option.bind_none, List.length_cons, List.length_nil, List.length_append, Nat.zero_add, if_pos, if_neg, decide_true, decide_false, if_true, if_false, Bool.not_true, Bool.not_false, Bool.false_eq_true, Bool.true_eq_false, not_true_eq_false, not_false_eq_true, ↓reduceIte, List.nil_append, k_within, hp]
  · intro i hi hp
    have hp := mkP_f hp
    simp (maxSteps := 1000000) (disch := first | omega | assumption) only [↓r_ret, ↓r_fail, ↓r_br, ↓r_bind, ↓r_iter, ↓r_req, decide_eq_true_eq, Bool.not_eq_eq_eq_not, decide_eq_false_iff_not, ite_not, inB_t', app_t', bnd_t', str_t', nz_t, Int.reduceEq, Int.reduceLT, Int.reduceLE, w64', Option.bind_some, Option.bind_none, List.length_cons, List.length_nil, List.length_append, Nat.zero_add, if_pos, if_neg, decide_true, decide_false, if_true, if_false, Bool.not_true, Bool.not_false, Bool.false_eq_true, Bool.true_eq_false, not_true_eq_false, not_false_eq_true, ↓reduceIte, List.nil_append, k_within, hp, and_self]
    all_goals rfl
  · simp (maxSteps := 1000000) (disch := first | omega | assumption) only [↓r_ret, ↓r_fail, ↓r_br, ↓r_bind, ↓r_iter, ↓r_req, decide_eq_true_eq, Bool.not_eq_eq_eq_not, decide_eq_false_iff_not, ite_not, inB_t', app_t', bnd_t', str_t', nz_t, Int.reduceEq, Int.reduceLT, Int.reduceLE, w64', Option.bind_some, Option.bind_none, List.length_cons, List.length_nil, List.length_append, Nat.zero_add, if_pos, if_neg, decide_true, decide_false, if_true, if_false, Bool.not_true, Bool.not_false, Bool.false_eq_true, Bool.true_eq_false, not_true_eq_false, not_false_eq_true, ↓reduceIte, List.nil_append, ]
theorem k_CheckMask {m : List Int} (hl : m.length ≤ 1048576) : coat_CheckMask m = some ((mkE m, ()), ()) := by
  simp only [coat_CheckMask, T_coat_CheckMask, slices_ContainsFunc_int_CheckMaskc1, T_slices_ContainsFunc_int_CheckMaskc1, mkE]
  by_cases c : 1 ≤ (m.length : Int) ∧ (m.length : Int) ≤ 40
  · by_cases d : 0 ≤ idxTo (mkP m) m.length
    · simp (maxSteps := 1000000) (disch := first | omega | assumption) only [↓r_ret, ↓r_fail, ↓r_br, ↓r_bind, ↓r_iter, ↓r_req, decide_eq_true_eq, Bool.not_eq_eq_eq_not, decide_eq_false_iff_not, ite_not, inB_t', app_t', bnd_t', str_t', nz_t, Int.reduceEq, Int.reduceLT, Int.reduceLE, w64', Option.bind_some, Option.bind_none, List.length_cons, List.length_nil, List.length_append, Nat.zero_add, if_pos, if_neg, decide_true, decide_false, if_true, if_false, Bool.not_true, Bool.not_false, Bool.false_eq_true, Bool.true_eq_false, not_true_eq_false, not_false_eq_true, ↓reduceIte, List.nil_append, k_within, c, and_self, k_maskIx, d]
    · simp (maxSteps := 1000000) (disch := first | omega | assumption) only [↓r_ret, ↓r_fail, ↓r_br, ↓r_bind, ↓r_iter, ↓r_req, decide_eq_true_eq, Bool.not_eq_eq_eq_not, decide_eq_false_iff_not, ite_not, inB_t', app_t', bnd_t', str_t', nz_t, Int.reduceEq, Int.reduceLT, Int.reduceLE, w64', Option.bind_some, Option.bind_none, List.length_cons, List.length_nil, List.length_append, Nat.zero_add, if_pos, if_neg, decide_true, decide_false, if_true, if_false, Bool.not_true, Bool.not_false, Bool.false_eq_true, Bool.true_eq_false, not_true_eq_false, not_false_eq_true, ↓reduceIte, List.nil_append, k_within, c, and_self, k_maskIx, d]
  · simp (maxSteps := 1000000) (disch := first | omega | assumption) only [↓r_ret, ↓r_fail, ↓r_br, ↓r_bind, ↓r_iter, ↓r_req, decide_eq_true_eq, Bool.not_eq_eq_eq_not, decide_eq_false_iff_not, ite_not, inB_t', app_t', bnd_t', str_t', nz_t, Int.reduceEq, Int.reduceLT, Int.reduceLE, w64', Option.bind_some, Option.bind_none, List.length_cons, List.length_nil, List.length_append, Nat.zero_add, if_pos, if_neg, decide_true, decide_false, if_true, if_false, Bool.not_true, Bool.not_false, Bool.false_eq_true, Bool.true_eq_false, not_true_eq_false, not_false_eq_true, ↓reduceIte, List.nil_append, k_within, c]
theorem k_rCheckMask {m : List Int} (hl : m.length ≤ 1048576) : ref08xCheckMask m = some ((mkE m, ()), ()) := by
  simp only [ref08xCheckMask, T_ref08xCheckMask, mkE]
  by_cases c : 1 ≤ (m.length : Int) ∧ (m.length : Int) ≤ 40
  · simp (maxSteps := 1000000) (disch := first | omega | assumption) only [↓r_ret, ↓r_fail, ↓r_br, ↓r_bind, ↓r_iter, ↓r_req, decide_eq_true_eq, Bool.not_eq_eq_eq_not, decide_eq_false_iff_not, ite_not, inB_t', app_t', bnd_t', str_t', nz_t, Int.reduceEq, Int.reduceLT, Int.reduceLE, w64', Option.bind_some, Option.bind_none, List.length_cons, List.length_nil, List.length_append, Nat.zero_add, if_pos, if_neg, decide_true, decide_false, if_true, if_false, Bool.not_true, Bool.not_false, Bool.false_eq_true, Bool.true_eq_false, not_true_eq_false, not_false_eq_true, ↓reduceIte, List.nil_append, k_Within, c, and_self]
    refine iter_idx (mkP m) m.length (by omega) (fun i => (((if 0 ≤ i then (2 : Int) else 0), ()), ())) ?_ ?_ ?_
    all_goals simp only [T_ref08xCheckMask_l1]
    · intro i hi hp
      have hp := mkP_t hp
      simp (maxSteps := 1000000) (disch := first | omega | assumption) only [↓r_ret, ↓r_fail, ↓r_br, ↓r_bind, ↓r_iter, ↓r_req, decide_eq_true_eq, Bool.not_eq_eq_eq_not, decide_eq_false_iff_not, ite_not, inB_t', app_t', bnd_t', str_t', nz_t, Int.reduceEq, Int.reduceLT, Int.reduceLE, w64', Option.bind_some, Option.bind_none, List.length_cons, List.length_nil, List.length_append, Nat.zero_add, if_pos, if_neg, decide_true, decide_false, if_true, if_false, Bool.not_true, Bool.not_false, Bool.false_eq_true, Bool.true_eq_false, not_true_eq_false, not_false_eq_true, ↓reduceIte, List.nil_append, k_Within, hp]
    · intro i hi hp
      have hp := mkP_f hp
      simp (maxSteps := 1000000) (disch := first | omega | assumption) only [↓r_ret, ↓r_fail, ↓r_br, ↓r_bind, ↓r_iter, ↓r_req, decide_eq_true_eq, Bool.not_eq_eq_eq_not, decide_eq_false_iff_not, ite_not, inB_t', app_t', bnd_t', str_t', nz_t, Int.reduceEq, Int.reduceLT, Int.reduceLE, w64', Option.bind_some, Option.bind_none, List.length_cons, List.length_nil, List.length_append, Nat.zero_add, if_pos, if_neg, decide_true, decide_false, if_true, if_false, Bool.not_true, Bool.not_false, Bool.false_eq_true, Bool.true_eq_false, not_true_eq_false, not_false_eq_true, ↓reduceIte, List.nil_append, k_Within, hp, and_self]
      all_goals rfl
    · simp (maxSteps := 1000000) (disch := first | omega | assumption) only [↓r_ret, ↓r_fail, ↓r_br, ↓r_bind, ↓r_iter, ↓r_req, decide_eq_true_eq, Bool.not_eq_eq_eq_not, decide_eq_false_iff_not, ite_not, inB_t', app_t', bnd_t', str_t', nz_t, Int.reduceEq, Int.reduceLT, Int.reduceLE, w64', Option.bind_some, Option.bind_none, List.length_cons, List.length_nil, List.length_append, Nat.zero_add, if_pos, if_neg, decide_true, decide_false, if_true, if_false, Bool.not_true, Bool.not_false, Bool.false_eq_true, Bool.true_eq_false, not_true_eq_false, not_false_eq_true, ↓reduceIte, List.nil_append, ]
  · simp (maxSteps := 1000000) (disch := first | omega | assumption) only [↓r_ret, ↓r_fail, ↓r_br, ↓r_bind, ↓r_iter, ↓r_req, decide_eq_true_eq, Bool.not_eq_eq_eq_not, decide_eq_false_iff_not, ite_not, inB_t', app_t', bnd_t', str_t', nz_t, Int.reduceEq, Int.reduceLT, Int.reduceLE, w64', Option.bind_some, Option.bind_none, List.length_cons, List.length_nil, List.length_append, Nat.zero_add, if_pos, if_neg, decide_true, decide_false, if_true, if_false, Bool.not_true, Bool.not_false, Bool.false_eq_true, Bool.true_eq_false, not_true_eq_false, not_false_eq_true, ↓reduceIte, List.nil_append, k_Within, c]

/-! ### Through -/

def thAt (t : Int × Int) (m : List Int) (i : Nat) : Int × Int := (t.1 * gi m (i : Int) / 1000, cdiv (t.2 * gi m (i : Int)) 1000)
def thL (t : Int × Int) (m : List Int) : Nat → List (Int × Int)
  | 0 => []
  | i + 1 => thL t m i ++ [thAt t m i]
theorem thL_len (t : Int × Int) (m : List Int) : ∀ n, (thL t m n).length = n
  | 0 => rfl
  | n + 1 => by rw [thL, List.length_append, thL_len t m n, List.length_singleton]
theorem thL_gi {t : Int × Int} {m : List Int} : ∀ {n i : Nat}, i < n → gi (thL t m n) (i : Int) = thAt t m i
  | 0, i, h => by omega
  | n + 1, i, h => by
    by_cases e : i = n
    · subst e
      have : gi (thL t m i ++ [thAt t m i]) (((thL t m i).length : Nat) : Int) = thAt t m i := by simp [gi, List.getD]
      rw [thL_len] at this
      rw [thL]; exact this
    · have hl : i < (thL t m n).length := by rw [thL_len]; omega
      have : gi (thL t m n ++ [thAt t m n]) (i : Int) = gi (thL t m n) (i : Int) := by simp [gi, List.getD, List.getElem?_append_left hl]
      rw [thL, this]; exact thL_gi (by omega)
theorem mul_mask {x y : Int} (h : 0 ≤ x) (h2 : x ≤ 1000000000000000) (h3 : 0 ≤ y) (h4 : y ≤ 1000) : 0 ≤ x * y ∧ x * y ≤ 1000000000000000000 := by
  have := Int.mul_le_mul h2 h4 h3 (by omega)
  have := Int.mul_nonneg h h3
  omega

def thrE (t : Int × Int) (m : List Int) : Int := if thkR t = 0 then mkE m else thkR t
def thrV (t : Int × Int) (m : List Int) : List (Int × Int) := if thrE t m = 0 then thL t m m.length else []
theorem k_Through {t : Int × Int} {m : List Int} (hl : m.length ≤ 1048576) : coat_Through t m = some ((thrV t m, (thrE t m, ())), ()) := by
  simp only [coat_Through, T_coat_Through, decide_true]
  by_cases ht : thkR t = 0
  · have e1 : thrE t m = mkE m := if_pos ht
    by_cases hm : mkE m = 0
    · have e2 : thrV t m = thL t m m.length := if_pos (by rw [e1, hm])
      rw [e1, e2, hm]
      simp (maxSteps := 1000000) (disch := first | omega | assumption) only [↓r_ret, ↓r_fail, ↓r_br, ↓r_bind, ↓r_iter, ↓r_req, decide_eq_true_eq, Bool.not_eq_eq_eq_not, decide_eq_false_iff_not, ite_not, inB_t', app_t', bnd_t', str_t', nz_t, Int.reduceEq, Int.reduceLT, Int.reduceLE, w64', Option.bind_some, Option.bind_none, List.length_cons, List.length_nil, List.length_append, Nat.zero_add, if_pos, if_neg, decide_true, decide_false, if_true, if_false, Bool.not_true, Bool.not_false, Bool.false_eq_true, Bool.true_eq_false, not_true_eq_false, not_false_eq_true, ↓reduceIte, List.nil_append, k_checkThick, ht, k_CheckMask, hm]
      obtain ⟨hr, t1, t2, t3⟩ := thkR_0 ht
      obtain ⟨-, hp⟩ := mkE_0 hm
      refine iter_eq (fun i x => x = (thL t m i, (i : Int), ())) _ m.length (by omega) ?_ rfl
      rintro i x hi rfl
      have hb := thL_len t m i
      simp only [T_coat_Through_l2]
      by_cases hlt : i < m.length
      · left
        have hq := hp i hlt
        have m1 := mul_mask t1 (by omega) hq.1 hq.2
        have m2 := mul_mask (by omega) t3 hq.1 hq.2
        refine ⟨(thL t m (i + 1), (i : Int) + 1, ()), ?_, hlt, rfl⟩
        rw [thL, thAt]
        simp (maxSteps := 1000000) (disch := first | omega | assumption) only [↓r_ret, ↓r_fail, ↓r_br, ↓r_bind, ↓r_iter, ↓r_req, decide_eq_true_eq, Bool.not_eq_eq_eq_not, decide_eq_false_iff_not, ite_not, inB_t', app_t', bnd_t', str_t', nz_t, Int.reduceEq, Int.reduceLT, Int.reduceLE, w64', Option.bind_some, Option.bind_none, List.length_cons, List.length_nil, List.length_append, Nat.zero_add, if_pos, if_neg, decide_true, decide_false, if_true, if_false, Bool.not_true, Bool.not_false, Bool.false_eq_true, Bool.true_eq_false, not_true_eq_false, not_false_eq_true, ↓reduceIte, List.nil_append, k_floor, k_ceil]
        all_goals rfl
      · right
        have : i = m.length := by omega
        subst this
        simp (maxSteps := 1000000) (disch := first | omega | assumption) only [↓r_ret, ↓r_fail, ↓r_br, ↓r_bind, ↓r_iter, ↓r_req, decide_eq_true_eq, Bool.not_eq_eq_eq_not, decide_eq_false_iff_not, ite_not, inB_t', app_t', bnd_t', str_t', nz_t, Int.reduceEq, Int.reduceLT, Int.reduceLE, w64', Option.bind_some, Option.bind_none, List.length_cons, List.length_nil, List.length_append, Nat.zero_add, if_pos, if_neg, decide_true, decide_false, if_true, if_false, Bool.not_true, Bool.not_false, Bool.false_eq_true, Bool.true_eq_false, not_true_eq_false, not_false_eq_true, ↓reduceIte, List.nil_append, ]
    · have e2 : thrV t m = [] := if_neg (by rw [e1]; exact hm)
      rw [e1, e2]
      simp (maxSteps := 1000000) (disch := first | omega | assumption) only [↓r_ret, ↓r_fail, ↓r_br, ↓r_bind, ↓r_iter, ↓r_req, decide_eq_true_eq, Bool.not_eq_eq_eq_not, decide_eq_false_iff_not, ite_not, inB_t', app_t', bnd_t', str_t', nz_t, Int.reduceEq, Int.reduceLT, Int.reduceLE, w64', Option.bind_some, Option.bind_none, List.length_cons, List.length_nil, List.length_append, Nat.zero_add, if_pos, if_neg, decide_true, decide_false, if_true, if_false, Bool.not_true, Bool.not_false, Bool.false_eq_true, Bool.true_eq_false, not_true_eq_false, not_false_eq_true, ↓reduceIte, List.nil_append, k_checkThick, ht, k_CheckMask, hm]
  · have e1 : thrE t m = thkR t := if_neg ht
    have e2 : thrV t m = [] := if_neg (by rw [e1]; exact ht)
    rw [e1, e2]
    simp (maxSteps := 1000000) (disch := first | omega | assumption) only [↓r_ret, ↓r_fail, ↓r_br, ↓r_bind, ↓r_iter, ↓r_req, decide_eq_true_eq, Bool.not_eq_eq_eq_not, decide_eq_false_iff_not, ite_not, inB_t', app_t', bnd_t', str_t', nz_t, Int.reduceEq, Int.reduceLT, Int.reduceLE, w64', Option.bind_some, Option.bind_none, List.length_cons, List.length_nil, List.length_append, Nat.zero_add, if_pos, if_neg, decide_true, decide_false, if_true, if_false, Bool.not_true, Bool.not_false, Bool.false_eq_true, Bool.true_eq_false, not_true_eq_false, not_false_eq_true, ↓reduceIte, List.nil_append, k_checkThick, ht]
theorem k_rCheckThrough {t : Int × Int} {m : List Int} (hl : m.length ≤ 1048576) : ref08xCheckThrough t m = some ((thrE t m, ()), ()) := by
  simp only [ref08xCheckThrough, T_ref08xCheckThrough, thrE, thkR]
  by_cases c : rngE t = 0
  · by_cases d : t.1 < 0
    · simp (maxSteps := 1000000) (disch := first | omega | assumption) only [↓r_ret, ↓r_fail, ↓r_br, ↓r_bind, ↓r_iter, ↓r_req, decide_eq_true_eq, Bool.not_eq_eq_eq_not, decide_eq_false_iff_not, ite_not, inB_t', app_t', bnd_t', str_t', nz_t, Int.reduceEq, Int.reduceLT, Int.reduceLE, w64', Option.bind_some, Option.bind_none, List.length_cons, List.length_nil, List.length_append, Nat.zero_add, if_pos, if_neg, decide_true, decide_false, if_true, if_false, Bool.not_true, Bool.not_false, Bool.false_eq_true, Bool.true_eq_false, not_true_eq_false, not_false_eq_true, ↓reduceIte, List.nil_append, k_rCheckRange, c, d]
    · simp (maxSteps := 1000000) (disch := first | omega | assumption) only [↓r_ret, ↓r_fail, ↓r_br, ↓r_bind, ↓r_iter, ↓r_req, decide_eq_true_eq, Bool.not_eq_eq_eq_not, decide_eq_false_iff_not, ite_not, inB_t', app_t', bnd_t', str_t', nz_t, Int.reduceEq, Int.reduceLT, Int.reduceLE, w64', Option.bind_some, Option.bind_none, List.length_cons, List.length_nil, List.length_append, Nat.zero_add, if_pos, if_neg, decide_true, decide_false, if_true, if_false, Bool.not_true, Bool.not_false, Bool.false_eq_true, Bool.true_eq_false, not_true_eq_false, not_false_eq_true, ↓reduceIte, List.nil_append, k_rCheckRange, c, d, k_rCheckMask]
  · simp (maxSteps := 1000000) (disch := first | omega | assumption) only [↓r_ret, ↓r_fail, ↓r_br, ↓r_bind, ↓r_iter, ↓r_req, decide_eq_true_eq, Bool.not_eq_eq_eq_not, decide_eq_false_iff_not, ite_not, inB_t', app_t', bnd_t', str_t', nz_t, Int.reduceEq, Int.reduceLT, Int.reduceLE, w64', Option.bind_some, Option.bind_none, List.length_cons, List.length_nil, List.length_append, Nat.zero_add, if_pos, if_neg, decide_true, decide_false, if_true, if_false, Bool.not_true, Bool.not_false, Bool.false_eq_true, Bool.true_eq_false, not_true_eq_false, not_false_eq_true, ↓reduceIte, List.nil_append, k_rCheckRange, c]
theorem k_rThrough {t : Int × Int} {m : List Int} (ht : thkR t = 0) (hm : mkE m = 0) : ref08xThrough t m = some ((thL t m m.length, ()), ()) := by
  obtain ⟨hr, t1, t2, t3⟩ := thkR_0 ht
  obtain ⟨h40, hp⟩ := mkE_0 hm
  simp only [ref08xThrough, T_ref08xThrough, decide_true, q_true]
  rw [r_iter]
  refine iter_eq (fun i x => x = (thL t m i, (i : Int), ())) _ m.length (by omega) ?_ rfl
  rintro i x hi rfl
  have hb := thL_len t m i
  simp only [T_ref08xThrough_l0]
  by_cases hlt : i < m.length
  · left
    have hq := hp i hlt
    have m1 := mul_mask t1 (by omega) hq.1 hq.2
    have m2 := mul_mask (by omega) t3 hq.1 hq.2
    refine ⟨(thL t m (i + 1), (i : Int) + 1, ()), ?_, hlt, rfl⟩
    rw [thL, thAt]
    simp (maxSteps := 1000000) (disch := first | omega | assumption) only [↓r_ret, ↓r_fail, ↓r_br, ↓r_bind, ↓r_iter, ↓r_req, decide_eq_true_eq, Bool.not_eq_eq_eq_not, decide_eq_false_iff_not, ite_not, inB_t', app_t', bnd_t', str_t', nz_t, Int.reduceEq, Int.reduceLT, Int.reduceLE, w64', Option.bind_some, Option.bind_none, List.length_cons, List.length_nil, List.length_append, Nat.zero_add, if_pos, if_neg, decide_true, decide_false, if_true, if_false, Bool.not_true, Bool.not_false, Bool.false_eq_true, Bool.true_eq_false, not_true_eq_false, not_false_eq_true, ↓reduceIte, List.nil_append, k_Floor, k_Ceil]
    all_goals rfl
  · right
    have : i = m.length := by omega
    subst this
    simp (maxSteps := 1000000) (disch := first | omega | assumption) only [↓r_ret, ↓r_fail, ↓r_br, ↓r_bind, ↓r_iter, ↓r_req, decide_eq_true_eq, Bool.not_eq_eq_eq_not, decide_eq_false_iff_not, ite_not, inB_t', app_t', bnd_t', str_t', nz_t, Int.reduceEq, Int.reduceLT, Int.reduceLE, w64', Option.bind_some, Option.bind_none, List.length_cons, List.length_nil, List.length_append, Nat.zero_add, if_pos, if_neg, decide_true, decide_false, if_true, if_false, Bool.not_true, Bool.not_false, Bool.false_eq_true, Bool.true_eq_false, not_true_eq_false, not_false_eq_true, ↓reduceIte, List.nil_append, ]
theorem k_Ranges_self {a : List (Int × Int)} (hl : a.length ≤ 1048576) : base_Ranges a a = some ((true, ()), ()) := by
  simp only [base_Ranges, T_base_Ranges]
  simp (maxSteps := 1000000) (disch := first | omega | assumption) only [↓r_ret, ↓r_fail, ↓r_br, ↓r_bind, ↓r_iter, ↓r_req, decide_eq_true_eq, Bool.not_eq_eq_eq_not, decide_eq_false_iff_not, ite_not, inB_t', app_t', bnd_t', str_t', nz_t, Int.reduceEq, Int.reduceLT, Int.reduceLE, w64', Option.bind_some, Option.bind_none, List.length_cons, List.length_nil, List.length_append, Nat.zero_add, if_pos, if_neg, decide_true, decide_false, if_true, if_false, Bool.not_true, Bool.not_false, Bool.false_eq_true, Bool.true_eq_false, not_true_eq_false, not_false_eq_true, ↓reduceIte, List.nil_append, ]
  refine iter_eq (fun i x => x = ((i : Int), ())) _ a.length (by omega) ?_ rfl
  rintro i x hi rfl
  simp only [T_base_Ranges_l0]
  by_cases hlt : i < a.length
  · left
    refine ⟨((i : Int) + 1, ()), ?_, hlt, rfl⟩
    simp (maxSteps := 1000000) (disch := first | omega | assumption) only [↓r_ret, ↓r_fail, ↓r_br, ↓r_bind, ↓r_iter, ↓r_req, decide_eq_true_eq, Bool.not_eq_eq_eq_not, decide_eq_false_iff_not, ite_not, inB_t', app_t', bnd_t', str_t', nz_t, Int.reduceEq, Int.reduceLT, Int.reduceLE, w64', Option.bind_some, Option.bind_none, List.length_cons, List.length_nil, List.length_append, Nat.zero_add, if_pos, if_neg, decide_true, decide_false, if_true, if_false, Bool.not_true, Bool.not_false, Bool.false_eq_true, Bool.true_eq_false, not_true_eq_false, not_false_eq_true, ↓reduceIte, List.nil_append, Bool.and_self]
    all_goals rfl
  · right
    simp (maxSteps := 1000000) (disch := first | omega | assumption) only [↓r_ret, ↓r_fail, ↓r_br, ↓r_bind, ↓r_iter, ↓r_req, decide_eq_true_eq, Bool.not_eq_eq_eq_not, decide_eq_false_iff_not, ite_not, inB_t', app_t', bnd_t', str_t', nz_t, Int.reduceEq, Int.reduceLT, Int.reduceLE, w64', Option.bind_some, Option.bind_none, List.length_cons, List.length_nil, List.length_append, Nat.zero_add, if_pos, if_neg, decide_true, decide_false, if_true, if_false, Bool.not_true, Bool.not_false, Bool.false_eq_true, Bool.true_eq_false, not_true_eq_false, not_false_eq_true, ↓reduceIte, List.nil_append, ]
theorem th_open (x : Int) : x * 1000 / 1000 = x ∧ cdiv (x * 1000) 1000 = x := by
  unfold cdiv; omega
theorem masks_loop {t : Int × Int} {m : List Int} (h40 : m.length ≤ 40) (e : Int) : iterF (fun y : Int × Unit => (T_law08xCoatMasks_l9 t m ((thL t m m.length, (e, ())), ()) y.1).run) FUEL (0, ()) = some ((true, ()), ()) := by
  refine iter_eq (fun i x => x = ((i : Int), ())) _ m.length (by omega) ?_ rfl
  rintro i x hi rfl
  have hb := thL_len t m m.length
  simp only [T_law08xCoatMasks_l9]
  by_cases hlt : i < m.length
  · left
    refine ⟨((i : Int) + 1, ()), ?_, hlt, rfl⟩
    have hg : gi (thL t m m.length) (i : Int) = thAt t m i := thL_gi hlt
    by_cases c : gi m (i : Int) = 1000
    · have e1 : gi (thL t m m.length) (i : Int) = t := by rw [hg, thAt, c, (th_open t.1).1, (th_open t.2).2]
      simp (maxSteps := 1000000) (disch := first | omega | assumption) only [↓r_ret, ↓r_fail, ↓r_br, ↓r_bind, ↓r_iter, ↓r_req, decide_eq_true_eq, Bool.not_eq_eq_eq_not, decide_eq_false_iff_not, ite_not, inB_t', app_t', bnd_t', str_t', nz_t, Int.reduceEq, Int.reduceLT, Int.reduceLE, w64', Option.bind_some, Option.bind_none, List.length_cons, List.length_nil, List.length_append, Nat.zero_add, if_pos, if_neg, decide_true, decide_false, if_true, if_false, Bool.not_true, Bool.not_false, Bool.false_eq_true, Bool.true_eq_false, not_true_eq_false, not_false_eq_true, ↓reduceIte, List.nil_append, c, e1, Bool.and_self]
      all_goals rfl
    · simp (maxSteps := 1000000) (disch := first | omega | assumption) only [↓r_ret, ↓r_fail, ↓r_br, ↓r_bind, ↓r_iter, ↓r_req, decide_eq_true_eq, Bool.not_eq_eq_eq_not, decide_eq_false_iff_not, ite_not, inB_t', app_t', bnd_t', str_t', nz_t, Int.reduceEq, Int.reduceLT, Int.reduceLE, w64', Option.bind_some, Option.bind_none, List.length_cons, List.length_nil, List.length_append, Nat.zero_add, if_pos, if_neg, decide_true, decide_false, if_true, if_false, Bool.not_true, Bool.not_false, Bool.false_eq_true, Bool.true_eq_false, not_true_eq_false, not_false_eq_true, ↓reduceIte, List.nil_append, c]
      all_goals rfl
  · right
    simp (maxSteps := 1000000) (disch := first | omega | assumption) only [↓r_ret, ↓r_fail, ↓r_br, ↓r_bind, ↓r_iter, ↓r_req, decide_eq_true_eq, Bool.not_eq_eq_eq_not, decide_eq_false_iff_not, ite_not, inB_t', app_t', bnd_t', str_t', nz_t, Int.reduceEq, Int.reduceLT, Int.reduceLE, w64', Option.bind_some, Option.bind_none, List.length_cons, List.length_nil, List.length_append, Nat.zero_add, if_pos, if_neg, decide_true, decide_false, if_true, if_false, Bool.not_true, Bool.not_false, Bool.false_eq_true, Bool.true_eq_false, not_true_eq_false, not_false_eq_true, ↓reduceIte, List.nil_append, ]

theorem k_CoatMasks0 {t : Int × Int} {m : List Int} (hl : m.length ≤ 1048576) : law08xCoatMasks t m = some ((true, ()), ()) := by
  have hk := k_Through (t := t) hl
  have hc := k_rCheckThrough (t := t) hl
  simp only [law08xCoatMasks, T_law08xCoatMasks]
  by_cases h0 : thrE t m = 0
  · have ht : thkR t = 0 := by
      unfold thrE at h0
      split at h0
      · assumption
      · contradiction
    have hm : mkE m = 0 := by unfold thrE at h0; rw [if_pos ht] at h0; exact h0
    have hr := k_rThrough ht hm
    have e2 : thrV t m = thL t m m.length := if_pos h0
    obtain ⟨h40, hp⟩ := mkE_0 hm
    rw [h0, e2] at hk
    rw [h0] at hc
    have hs := k_Ranges_self (a := thL t m m.length) (by rw [thL_len]; exact hl)
    have hloop := masks_loop (t := t) (m := m) h40.2 0
    by_cases c1 : (12 : Int) < m.length
    · simp (maxSteps := 1000000) (disch := first | omega | assumption) only [↓r_ret, ↓r_fail, ↓r_br, ↓r_bind, ↓r_iter, ↓r_req, decide_eq_true_eq, Bool.not_eq_eq_eq_not, decide_eq_false_iff_not, ite_not, inB_t', app_t', bnd_t', str_t', nz_t, Int.reduceEq, Int.reduceLT, Int.reduceLE, w64', Option.bind_some, Option.bind_none, List.length_cons, List.length_nil, List.length_append, Nat.zero_add, if_pos, if_neg, decide_true, decide_false, if_true, if_false, Bool.not_true, Bool.not_false, Bool.false_eq_true, Bool.true_eq_false, not_true_eq_false, not_false_eq_true, ↓reduceIte, List.nil_append, awake_ok, c1]
    · simp (maxSteps := 1000000) (disch := first | omega | assumption) only [↓r_ret, ↓r_fail, ↓r_br, ↓r_bind, ↓r_iter, ↓r_req, decide_eq_true_eq, Bool.not_eq_eq_eq_not, decide_eq_false_iff_not, ite_not, inB_t', app_t', bnd_t', str_t', nz_t, Int.reduceEq, Int.reduceLT, Int.reduceLE, w64', Option.bind_some, Option.bind_none, List.length_cons, List.length_nil, List.length_append, Nat.zero_add, if_pos, if_neg, decide_true, decide_false, if_true, if_false, Bool.not_true, Bool.not_false, Bool.false_eq_true, Bool.true_eq_false, not_true_eq_false, not_false_eq_true, ↓reduceIte, List.nil_append, awake_ok, c1, k_CopyInts, hk, k_CheckMask, k_rCheckMask, hm, hc, hr, hs, hloop]
  · have e2 : thrV t m = [] := if_neg h0
    rw [e2] at hk
    by_cases c1 : (12 : Int) < m.length
    · by_cases c2 : (m.length : Int) ≤ 40
      · simp (maxSteps := 1000000) (disch := first | omega | assumption) only [↓r_ret, ↓r_fail, ↓r_br, ↓r_bind, ↓r_iter, ↓r_req, decide_eq_true_eq, Bool.not_eq_eq_eq_not, decide_eq_false_iff_not, ite_not, inB_t', app_t', bnd_t', str_t', nz_t, Int.reduceEq, Int.reduceLT, Int.reduceLE, w64', Option.bind_some, Option.bind_none, List.length_cons, List.length_nil, List.length_append, Nat.zero_add, if_pos, if_neg, decide_true, decide_false, if_true, if_false, Bool.not_true, Bool.not_false, Bool.false_eq_true, Bool.true_eq_false, not_true_eq_false, not_false_eq_true, ↓reduceIte, List.nil_append, awake_ok, c1, c2]
      · by_cases c3 : (43 : Int) < m.length
        · simp (maxSteps := 1000000) (disch := first | omega | assumption) only [↓r_ret, ↓r_fail, ↓r_br, ↓r_bind, ↓r_iter, ↓r_req, decide_eq_true_eq, Bool.not_eq_eq_eq_not, decide_eq_false_iff_not, ite_not, inB_t', app_t', bnd_t', str_t', nz_t, Int.reduceEq, Int.reduceLT, Int.reduceLE, w64', Option.bind_some, Option.bind_none, List.length_cons, List.length_nil, List.length_append, Nat.zero_add, if_pos, if_neg, decide_true, decide_false, if_true, if_false, Bool.not_true, Bool.not_false, Bool.false_eq_true, Bool.true_eq_false, not_true_eq_false, not_false_eq_true, ↓reduceIte, List.nil_append, awake_ok, c1, c2, c3]
        · simp (maxSteps := 1000000) (disch := first | omega | assumption) only [↓r_ret, ↓r_fail, ↓r_br, ↓r_bind, ↓r_iter, ↓r_req, decide_eq_true_eq, Bool.not_eq_eq_eq_not, decide_eq_false_iff_not, ite_not, inB_t', app_t', bnd_t', str_t', nz_t, Int.reduceEq, Int.reduceLT, Int.reduceLE, w64', Option.bind_some, Option.bind_none, List.length_cons, List.length_nil, List.length_append, Nat.zero_add, if_pos, if_neg, decide_true, decide_false, if_true, if_false, Bool.not_true, Bool.not_false, Bool.false_eq_true, Bool.true_eq_false, not_true_eq_false, not_false_eq_true, ↓reduceIte, List.nil_append, awake_ok, c1, c2, c3, k_CopyInts, hk, k_CheckMask, k_rCheckMask, hc, h0]
          all_goals rfl
    · simp (maxSteps := 1000000) (disch := first | omega | assumption) only [↓r_ret, ↓r_fail, ↓r_br, ↓r_bind, ↓r_iter, ↓r_req, decide_eq_true_eq, Bool.not_eq_eq_eq_not, decide_eq_false_iff_not, ite_not, inB_t', app_t', bnd_t', str_t', nz_t, Int.reduceEq, Int.reduceLT, Int.reduceLE, w64', Option.bind_some, Option.bind_none, List.length_cons, List.length_nil, List.length_append, Nat.zero_add, if_pos, if_neg, decide_true, decide_false, if_true, if_false, Bool.not_true, Bool.not_false, Bool.false_eq_true, Bool.true_eq_false, not_true_eq_false, not_false_eq_true, ↓reduceIte, List.nil_append, awake_ok, c1, k_CopyInts, hk, k_CheckMask, k_rCheckMask, hc, h0]
      all_goals rfl
theorem k_CoatMasks {t : Int × Int} {m : List Int} (b0 : bulkT (.pair (.int .i64) (.int .i64)) t ≤ 1048576) (w0 : wfT (.pair (.int .i64) (.int .i64)) t)
    (b1 : bulkT (.list (.int .i64)) m ≤ 1048576) (w1 : wfT (.list (.int .i64)) m) : law08xCoatMasks t m = some ((true, ()), ()) :=
  k_CoatMasks0 (Nat.le_trans (bulk_len (a := .int .i64) (by decide)) b1)
end Go.Ab
end
