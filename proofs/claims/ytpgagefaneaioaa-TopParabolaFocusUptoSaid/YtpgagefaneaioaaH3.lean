/- Matrices: whether they are right, joined, their determinant, their foci. -/
import Derived.Test.YtpgagefaneaioaaH2
namespace Go.Ab
open Go
set_option maxRecDepth 1000000
set_option maxHeartbeats 1000000
set_option linter.unusedVariables false
set_option linter.unusedSimpArgs false
attribute [local congr] bindC iterC

abbrev Fr := Int × Int
abbrev Mx := Fr × Fr × Fr × Fr
abbrev Sp := Fr × Fr
def IF (f : Fr) : Prop := I64 f.1 ∧ I64 f.2
def IM (m : Mx) : Prop := IF m.1 ∧ IF m.2.1 ∧ IF m.2.2.1 ∧ IF m.2.2.2
theorem Small.i {f : Fr} (h : Small f) : IF f := ⟨h.i1, h.i2⟩
/-- The error of a matrix. -/
def cmE (m : Mx) : Int := if cfE m.1 ≠ 0 then cfE m.1 else if cfE m.2.1 ≠ 0 then cfE m.2.1 else if cfE m.2.2.1 ≠ 0 then cfE m.2.2.1 else cfE m.2.2.2
def SmallM (m : Mx) : Prop := Small m.1 ∧ Small m.2.1 ∧ Small m.2.2.1 ∧ Small m.2.2.2
theorem cmE_zero {m : Mx} : cmE m = 0 ↔ SmallM m := by
  unfold cmE SmallM
  rw [← cfE_zero, ← cfE_zero, ← cfE_zero, ← cfE_zero]
  by_cases h1 : cfE m.1 = 0
  · by_cases h2 : cfE m.2.1 = 0
    · by_cases h3 : cfE m.2.2.1 = 0
      · simp [h1, h2, h3]
      · simp [h1, h2, h3]
    · simp [h1, h2]
  · simp [h1]
theorem firstErr4 (f : Nat → Int) : firstErr f 4 = if f 0 ≠ 0 then f 0 else if f 1 ≠ 0 then f 1 else if f 2 ≠ 0 then f 2 else f 3 := by
  simp only [firstErr]
  by_cases h0 : f 0 = 0
  · by_cases h1 : f 1 = 0
    · by_cases h2 : f 2 = 0 <;> simp [h0, h1, h2]
    · simp [h0, h1]
  · simp [h0]
theorem k_check4 {m : Mx} (h : IM m) : optics_checkFracs [m.1, m.2.1, m.2.2.1, m.2.2.2] = some ((cmE m, ()), ()) := by
  obtain ⟨h1, h2, h3, h4⟩ := h
  rw [k_ocheckFracs (by simp) (by
    intro i hi
    simp only [List.length_cons, List.length_nil] at hi
    match i, hi with
    | 0, _ => exact h1
    | 1, _ => exact h2
    | 2, _ => exact h3
    | 3, _ => exact h4)]
  congr 2
  exact Prod.ext (firstErr4 _) rfl
theorem k_checkMatrices {l : List Mx} (hl : l.length ≤ 1099511627776) (h : ∀ i : Nat, i < l.length → IM (gi l i)) : optics_checkMatrices l = some ((firstErr (fun i => cmE (gi l i)) l.length, ()), ()) := by
  simp only [optics_checkMatrices, T_optics_checkMatrices, r_iter]
  refine iter_err (fun i => ((i : Int), ())) (fun i => cmE (gi l i)) l.length (by omega) (fun e => ((e, ()), ())) ?_ ?_ ?_
  · intro i hi _ hc
    have hk := k_check4 (h i hi)
    simp only [T_optics_checkMatrices_l0]
    simp (maxSteps := 1000000) (disch := first | omega | assumption) only [↓r_ret, ↓r_fail, ↓r_br, ↓r_bind, ↓r_iter, ↓r_req, decide_eq_true_eq, Bool.not_eq_eq_eq_not, decide_eq_false_iff_not, ite_not, inB_t', app_t', bnd_t', str_t', nz_t, Int.reduceEq, Int.reduceLT, Int.reduceLE, w64', Option.bind_some, Option.bind_none, List.length_cons, List.length_nil, List.length_append, Nat.zero_add, if_pos, if_neg, decide_true, decide_false, if_true, if_false, Bool.not_true, Bool.not_false, Bool.false_eq_true, Bool.true_eq_false, not_true_eq_false, not_false_eq_true, ↓reduceIte, List.nil_append, hk, hc, eta2]
  · intro i hi _ hc
    have hk := k_check4 (h i hi)
    simp only [T_optics_checkMatrices_l0]
    simp (maxSteps := 1000000) (disch := first | omega | assumption) only [↓r_ret, ↓r_fail, ↓r_br, ↓r_bind, ↓r_iter, ↓r_req, decide_eq_true_eq, Bool.not_eq_eq_eq_not, decide_eq_false_iff_not, ite_not, inB_t', app_t', bnd_t', str_t', nz_t, Int.reduceEq, Int.reduceLT, Int.reduceLE, w64', Option.bind_some, Option.bind_none, List.length_cons, List.length_nil, List.length_append, Nat.zero_add, if_pos, if_neg, decide_true, decide_false, if_true, if_false, Bool.not_true, Bool.not_false, Bool.false_eq_true, Bool.true_eq_false, not_true_eq_false, not_false_eq_true, ↓reduceIte, List.nil_append, hk, hc, eta2]
    rfl
  · intro _
    simp only [T_optics_checkMatrices_l0]
    simp (maxSteps := 1000000) (disch := first | omega | assumption) only [↓r_ret, ↓r_fail, ↓r_br, ↓r_bind, ↓r_iter, ↓r_req, decide_eq_true_eq, Bool.not_eq_eq_eq_not, decide_eq_false_iff_not, ite_not, inB_t', app_t', bnd_t', str_t', nz_t, Int.reduceEq, Int.reduceLT, Int.reduceLE, w64', Option.bind_some, Option.bind_none, List.length_cons, List.length_nil, List.length_append, Nat.zero_add, if_pos, if_neg, decide_true, decide_false, if_true, if_false, Bool.not_true, Bool.not_false, Bool.false_eq_true, Bool.true_eq_false, not_true_eq_false, not_false_eq_true, ↓reduceIte, List.nil_append, ]
theorem k_checkM1 {m : Mx} (h : IM m) : optics_checkMatrices [m] = some ((cmE m, ()), ()) := by
  rw [k_checkMatrices (by simp) (by
    intro i hi
    simp only [List.length_cons, List.length_nil] at hi
    match i, hi with
    | 0, _ => exact h)]
  rfl
theorem k_checkM2 {m n : Mx} (h : IM m) (h' : IM n) : optics_checkMatrices [m, n] = some ((if cmE m ≠ 0 then cmE m else cmE n, ()), ()) := by
  rw [k_checkMatrices (by simp) (by
    intro i hi
    simp only [List.length_cons, List.length_nil] at hi
    match i, hi with
    | 0, _ => exact h
    | 1, _ => exact h')]
  rfl
theorem ic2 : ((2 : Nat) : Int) = 2 := rfl
theorem ic3 : ((3 : Nat) : Int) = 3 := rfl
theorem k_rCheckMatrix {m : Mx} (h : IM m) : ref02xCheckMatrix m = some ((cmE m, ()), ()) := by
  obtain ⟨⟨h1, h1'⟩, ⟨h2, h2'⟩, ⟨h3, h3'⟩, h4, h4'⟩ := h
  have k1 := k_rCheckFrac h1 h1'
  have k2 := k_rCheckFrac h2 h2'
  have k3 := k_rCheckFrac h3 h3'
  have k4 := k_rCheckFrac h4 h4'
  have key := iter_err (b := fun y : Int × Unit => (T_ref02xCheckMatrix_l0 m y.1).run) (fun i => ((i : Int), ())) (fun i => cfE (gi [m.1, m.2.1, m.2.2.1, m.2.2.2] i)) 4 (by omega) (fun e => ((e, ()), ())) (by
      intro i hi _ hc
      match i, hi, hc with
      | 0, _, hc =>
        have hc : ¬ cfE m.1 = 0 := hc
        show (T_ref02xCheckMatrix_l0 m 0).run = some (.inr ((cfE m.1, ()), ()))
        simp only [T_ref02xCheckMatrix_l0]
        simp (maxSteps := 1000000) (disch := first | omega | assumption) only [↓r_ret, ↓r_fail, ↓r_br, ↓r_bind, ↓r_iter, ↓r_req, decide_eq_true_eq, Bool.not_eq_eq_eq_not, decide_eq_false_iff_not, ite_not, inB_t', app_t', bnd_t', str_t', nz_t, Int.reduceEq, Int.reduceLT, Int.reduceLE, w64', Option.bind_some, Option.bind_none, List.length_cons, List.length_nil, List.length_append, Nat.zero_add, if_pos, if_neg, decide_true, decide_false, if_true, if_false, Bool.not_true, Bool.not_false, Bool.false_eq_true, Bool.true_eq_false, not_true_eq_false, not_false_eq_true, ↓reduceIte, List.nil_append, k1, hc, eta2, Int.natCast_zero]
      | 1, _, hc =>
        have hc : ¬ cfE m.2.1 = 0 := hc
        show (T_ref02xCheckMatrix_l0 m 1).run = some (.inr ((cfE m.2.1, ()), ()))
        simp only [T_ref02xCheckMatrix_l0]
        simp (maxSteps := 1000000) (disch := first | omega | assumption) only [↓r_ret, ↓r_fail, ↓r_br, ↓r_bind, ↓r_iter, ↓r_req, decide_eq_true_eq, Bool.not_eq_eq_eq_not, decide_eq_false_iff_not, ite_not, inB_t', app_t', bnd_t', str_t', nz_t, Int.reduceEq, Int.reduceLT, Int.reduceLE, w64', Option.bind_some, Option.bind_none, List.length_cons, List.length_nil, List.length_append, Nat.zero_add, if_pos, if_neg, decide_true, decide_false, if_true, if_false, Bool.not_true, Bool.not_false, Bool.false_eq_true, Bool.true_eq_false, not_true_eq_false, not_false_eq_true, ↓reduceIte, List.nil_append, k2, hc, eta2, Int.natCast_zero, Int.natCast_one]
      | 2, _, hc =>
        have hc : ¬ cfE m.2.2.1 = 0 := hc
        show (T_ref02xCheckMatrix_l0 m 2).run = some (.inr ((cfE m.2.2.1, ()), ()))
        simp only [T_ref02xCheckMatrix_l0]
        simp (maxSteps := 1000000) (disch := first | omega | assumption) only [↓r_ret, ↓r_fail, ↓r_br, ↓r_bind, ↓r_iter, ↓r_req, decide_eq_true_eq, Bool.not_eq_eq_eq_not, decide_eq_false_iff_not, ite_not, inB_t', app_t', bnd_t', str_t', nz_t, Int.reduceEq, Int.reduceLT, Int.reduceLE, w64', Option.bind_some, Option.bind_none, List.length_cons, List.length_nil, List.length_append, Nat.zero_add, if_pos, if_neg, decide_true, decide_false, if_true, if_false, Bool.not_true, Bool.not_false, Bool.false_eq_true, Bool.true_eq_false, not_true_eq_false, not_false_eq_true, ↓reduceIte, List.nil_append, k3, hc, eta2, Int.natCast_zero, Int.natCast_one, ic2, ic3]
      | 3, _, hc =>
        have hc : ¬ cfE m.2.2.2 = 0 := hc
        show (T_ref02xCheckMatrix_l0 m 3).run = some (.inr ((cfE m.2.2.2, ()), ()))
        simp only [T_ref02xCheckMatrix_l0]
        simp (maxSteps := 1000000) (disch := first | omega | assumption) only [↓r_ret, ↓r_fail, ↓r_br, ↓r_bind, ↓r_iter, ↓r_req, decide_eq_true_eq, Bool.not_eq_eq_eq_not, decide_eq_false_iff_not, ite_not, inB_t', app_t', bnd_t', str_t', nz_t, Int.reduceEq, Int.reduceLT, Int.reduceLE, w64', Option.bind_some, Option.bind_none, List.length_cons, List.length_nil, List.length_append, Nat.zero_add, if_pos, if_neg, decide_true, decide_false, if_true, if_false, Bool.not_true, Bool.not_false, Bool.false_eq_true, Bool.true_eq_false, not_true_eq_false, not_false_eq_true, ↓reduceIte, List.nil_append, k4, hc, eta2, Int.natCast_zero, Int.natCast_one, ic2, ic3]) (by
      intro i hi _ hc
      match i, hi, hc with
      | 0, _, hc =>
        have hc : cfE m.1 = 0 := hc
        show (T_ref02xCheckMatrix_l0 m 0).run = some (.inl (1, ()))
        simp only [T_ref02xCheckMatrix_l0]
        simp (maxSteps := 1000000) (disch := first | omega | assumption) only [↓r_ret, ↓r_fail, ↓r_br, ↓r_bind, ↓r_iter, ↓r_req, decide_eq_true_eq, Bool.not_eq_eq_eq_not, decide_eq_false_iff_not, ite_not, inB_t', app_t', bnd_t', str_t', nz_t, Int.reduceEq, Int.reduceLT, Int.reduceLE, w64', Option.bind_some, Option.bind_none, List.length_cons, List.length_nil, List.length_append, Nat.zero_add, if_pos, if_neg, decide_true, decide_false, if_true, if_false, Bool.not_true, Bool.not_false, Bool.false_eq_true, Bool.true_eq_false, not_true_eq_false, not_false_eq_true, ↓reduceIte, List.nil_append, k1, hc, eta2, Int.natCast_zero]
        rfl
      | 1, _, hc =>
        have hc : cfE m.2.1 = 0 := hc
        show (T_ref02xCheckMatrix_l0 m 1).run = some (.inl (2, ()))
        simp only [T_ref02xCheckMatrix_l0]
        simp (maxSteps := 1000000) (disch := first | omega | assumption) only [↓r_ret, ↓r_fail, ↓r_br, ↓r_bind, ↓r_iter, ↓r_req, decide_eq_true_eq, Bool.not_eq_eq_eq_not, decide_eq_false_iff_not, ite_not, inB_t', app_t', bnd_t', str_t', nz_t, Int.reduceEq, Int.reduceLT, Int.reduceLE, w64', Option.bind_some, Option.bind_none, List.length_cons, List.length_nil, List.length_append, Nat.zero_add, if_pos, if_neg, decide_true, decide_false, if_true, if_false, Bool.not_true, Bool.not_false, Bool.false_eq_true, Bool.true_eq_false, not_true_eq_false, not_false_eq_true, ↓reduceIte, List.nil_append, k2, hc, eta2, Int.natCast_zero, Int.natCast_one]
        rfl
      | 2, _, hc =>
        have hc : cfE m.2.2.1 = 0 := hc
        show (T_ref02xCheckMatrix_l0 m 2).run = some (.inl (3, ()))
        simp only [T_ref02xCheckMatrix_l0]
        simp (maxSteps := 1000000) (disch := first | omega | assumption) only [↓r_ret, ↓r_fail, ↓r_br, ↓r_bind, ↓r_iter, ↓r_req, decide_eq_true_eq, Bool.not_eq_eq_eq_not, decide_eq_false_iff_not, ite_not, inB_t', app_t', bnd_t', str_t', nz_t, Int.reduceEq, Int.reduceLT, Int.reduceLE, w64', Option.bind_some, Option.bind_none, List.length_cons, List.length_nil, List.length_append, Nat.zero_add, if_pos, if_neg, decide_true, decide_false, if_true, if_false, Bool.not_true, Bool.not_false, Bool.false_eq_true, Bool.true_eq_false, not_true_eq_false, not_false_eq_true, ↓reduceIte, List.nil_append, k3, hc, eta2, Int.natCast_zero, Int.natCast_one, ic2, ic3]
        rfl
      | 3, _, hc =>
        have hc : cfE m.2.2.2 = 0 := hc
        show (T_ref02xCheckMatrix_l0 m 3).run = some (.inl (4, ()))
        simp only [T_ref02xCheckMatrix_l0]
        simp (maxSteps := 1000000) (disch := first | omega | assumption) only [↓r_ret, ↓r_fail, ↓r_br, ↓r_bind, ↓r_iter, ↓r_req, decide_eq_true_eq, Bool.not_eq_eq_eq_not, decide_eq_false_iff_not, ite_not, inB_t', app_t', bnd_t', str_t', nz_t, Int.reduceEq, Int.reduceLT, Int.reduceLE, w64', Option.bind_some, Option.bind_none, List.length_cons, List.length_nil, List.length_append, Nat.zero_add, if_pos, if_neg, decide_true, decide_false, if_true, if_false, Bool.not_true, Bool.not_false, Bool.false_eq_true, Bool.true_eq_false, not_true_eq_false, not_false_eq_true, ↓reduceIte, List.nil_append, k4, hc, eta2, Int.natCast_zero, Int.natCast_one, ic2, ic3]
        rfl) (by
      intro _
      show (T_ref02xCheckMatrix_l0 m 4).run = some (.inr ((0, ()), ()))
      simp only [T_ref02xCheckMatrix_l0]
      simp (maxSteps := 1000000) (disch := first | omega | assumption) only [↓r_ret, ↓r_fail, ↓r_br, ↓r_bind, ↓r_iter, ↓r_req, decide_eq_true_eq, Bool.not_eq_eq_eq_not, decide_eq_false_iff_not, ite_not, inB_t', app_t', bnd_t', str_t', nz_t, Int.reduceEq, Int.reduceLT, Int.reduceLE, w64', Option.bind_some, Option.bind_none, List.length_cons, List.length_nil, List.length_append, Nat.zero_add, if_pos, if_neg, decide_true, decide_false, if_true, if_false, Bool.not_true, Bool.not_false, Bool.false_eq_true, Bool.true_eq_false, not_true_eq_false, not_false_eq_true, ↓reduceIte, List.nil_append, ])
  simp only [ref02xCheckMatrix, T_ref02xCheckMatrix, r_iter]
  refine key.trans ?_
  congr 2
  exact Prod.ext (firstErr4 _) rfl

theorem Agree.o {l x : Bool} {v v' : Fr} (h : Agree l v v') : Agree (l || x) v v' := h.up fun h' => by cases l <;> simp_all

/-- The same four, the state told by what went before. -/
theorem c_mulA {l : Bool} {p q : Fr} (_ : Agree l p q) {a a' b b' : Fr} (ha : Agree l a a') (hb : Agree l b b') : ∃ v', Agree (l || mull a b) (mulv a b) v' ∧ optics_counter_mul a' b' (e8 l) = some ((v', ()), (e8 (l || mull a b), ())) := c_mul ha hb
theorem c_addA {l : Bool} {p q : Fr} (_ : Agree l p q) {a a' b b' : Fr} (ha : Agree l a a') (hb : Agree l b b') : ∃ v', Agree (l || addl a b) (addv a b) v' ∧ optics_counter_add a' b' (e8 l) = some ((v', ()), (e8 (l || addl a b), ())) := c_add ha hb
theorem c_subA {l : Bool} {p q : Fr} (_ : Agree l p q) {a a' b b' : Fr} (ha : Agree l a a') (hb : Agree l b b') : ∃ v', Agree (l || subl a b) (subv a b) v' ∧ optics_counter_sub a' b' (e8 l) = some ((v', ()), (e8 (l || subl a b), ())) := c_sub ha hb
theorem c_quoA {l : Bool} {p q : Fr} (_ : Agree l p q) {a a' b b' : Fr} (ha : Agree l a a') (hb : Agree l b b') (hz : l = false → b.1 ≠ 0) : ∃ v', Agree (l || quol a b) (quov a b) v' ∧ optics_counter_quo a' b' (e8 l) = some ((v', ()), (e8 (l || quol a b), ())) := c_quo ha hb hz

theorem c_dot {l : Bool} {a1 a2 b1 b2 a1' a2' b1' b2' : Fr} (ha1 : Agree l a1 a1') (ha2 : Agree l a2 a2') (hb1 : Agree l b1 b1') (hb2 : Agree l b2 b2') :
    ∃ v', Agree (l || mull a1 b1 || mull a2 b2 || addl (mulv a1 b1) (mulv a2 b2)) (addv (mulv a1 b1) (mulv a2 b2)) v' ∧
      optics_counter_dot (a1', a2') (b1', b2') (e8 l) = some ((v', ()), (e8 (l || mull a1 b1 || mull a2 b2 || addl (mulv a1 b1) (mulv a2 b2)), ())) := by
  obtain ⟨v1, g1, q1⟩ := c_mul ha1 hb1
  obtain ⟨v2, g2, q2⟩ := c_mul (ha2.o (x := mull a1 b1)) hb2.o
  obtain ⟨v3, g3, q3⟩ := c_add (g1.o (x := mull a2 b2)) g2
  refine ⟨v3, g3, ?_⟩
  simp only [optics_counter_dot, T_optics_counter_dot]
  simp (maxSteps := 1000000) (disch := first | omega | assumption) only [↓r_ret, ↓r_fail, ↓r_br, ↓r_bind, ↓r_iter, ↓r_req, decide_eq_true_eq, Bool.not_eq_eq_eq_not, decide_eq_false_iff_not, ite_not, inB_t', app_t', bnd_t', str_t', nz_t, Int.reduceEq, Int.reduceLT, Int.reduceLE, w64', Option.bind_some, Option.bind_none, List.length_cons, List.length_nil, List.length_append, Nat.zero_add, if_pos, if_neg, decide_true, decide_false, if_true, if_false, Bool.not_true, Bool.not_false, Bool.false_eq_true, Bool.true_eq_false, not_true_eq_false, not_false_eq_true, ↓reduceIte, List.nil_append, eta2, q1, q2, q3]

theorem k_toldM (x : Mx) (l : Bool) : optics_told_api_Matrix x (e8 l) = some ((if l = true then ((0, 0), (0, 0), (0, 0), (0, 0)) else x, e8 l, ()), (e8 l, ())) := by
  simp only [optics_told_api_Matrix, T_optics_told_api_Matrix]
  cases l <;> simp (maxSteps := 1000000) (disch := first | omega | assumption) only [↓r_ret, ↓r_fail, ↓r_br, ↓r_bind, ↓r_iter, ↓r_req, decide_eq_true_eq, Bool.not_eq_eq_eq_not, decide_eq_false_iff_not, ite_not, inB_t', app_t', bnd_t', str_t', nz_t, Int.reduceEq, Int.reduceLT, Int.reduceLE, w64', Option.bind_some, Option.bind_none, List.length_cons, List.length_nil, List.length_append, Nat.zero_add, if_pos, if_neg, decide_true, decide_false, if_true, if_false, Bool.not_true, Bool.not_false, Bool.false_eq_true, Bool.true_eq_false, not_true_eq_false, not_false_eq_true, ↓reduceIte, List.nil_append, e8, eta2]
theorem k_toldP (x : Mx) (l : Bool) : optics_told_api_Pair x (e8 l) = some ((if l = true then ((0, 0), (0, 0), (0, 0), (0, 0)) else x, e8 l, ()), (e8 l, ())) := by
  simp only [optics_told_api_Pair, T_optics_told_api_Pair]
  cases l <;> simp (maxSteps := 1000000) (disch := first | omega | assumption) only [↓r_ret, ↓r_fail, ↓r_br, ↓r_bind, ↓r_iter, ↓r_req, decide_eq_true_eq, Bool.not_eq_eq_eq_not, decide_eq_false_iff_not, ite_not, inB_t', app_t', bnd_t', str_t', nz_t, Int.reduceEq, Int.reduceLT, Int.reduceLE, w64', Option.bind_some, Option.bind_none, List.length_cons, List.length_nil, List.length_append, Nat.zero_add, if_pos, if_neg, decide_true, decide_false, if_true, if_false, Bool.not_true, Bool.not_false, Bool.false_eq_true, Bool.true_eq_false, not_true_eq_false, not_false_eq_true, ↓reduceIte, List.nil_append, e8, eta2]
theorem k_toldF (x : Fr) (l : Bool) : optics_told_api_Frac x (e8 l) = some ((if l = true then (0, 0) else x, e8 l, ()), (e8 l, ())) := by
  simp only [optics_told_api_Frac, T_optics_told_api_Frac]
  cases l <;> simp (maxSteps := 1000000) (disch := first | omega | assumption) only [↓r_ret, ↓r_fail, ↓r_br, ↓r_bind, ↓r_iter, ↓r_req, decide_eq_true_eq, Bool.not_eq_eq_eq_not, decide_eq_false_iff_not, ite_not, inB_t', app_t', bnd_t', str_t', nz_t, Int.reduceEq, Int.reduceLT, Int.reduceLE, w64', Option.bind_some, Option.bind_none, List.length_cons, List.length_nil, List.length_append, Nat.zero_add, if_pos, if_neg, decide_true, decide_false, if_true, if_false, Bool.not_true, Bool.not_false, Bool.false_eq_true, Bool.true_eq_false, not_true_eq_false, not_false_eq_true, ↓reduceIte, List.nil_append, e8, eta2]
theorem k_told2 (x : Fr × Fr) (l : Bool) : optics_told_2xapi_Frac x (e8 l) = some ((if l = true then ((0, 0), (0, 0)) else x, e8 l, ()), (e8 l, ())) := by
  simp only [optics_told_2xapi_Frac, T_optics_told_2xapi_Frac]
  cases l <;> simp (maxSteps := 1000000) (disch := first | omega | assumption) only [↓r_ret, ↓r_fail, ↓r_br, ↓r_bind, ↓r_iter, ↓r_req, decide_eq_true_eq, Bool.not_eq_eq_eq_not, decide_eq_false_iff_not, ite_not, inB_t', app_t', bnd_t', str_t', nz_t, Int.reduceEq, Int.reduceLT, Int.reduceLE, w64', Option.bind_some, Option.bind_none, List.length_cons, List.length_nil, List.length_append, Nat.zero_add, if_pos, if_neg, decide_true, decide_false, if_true, if_false, Bool.not_true, Bool.not_false, Bool.false_eq_true, Bool.true_eq_false, not_true_eq_false, not_false_eq_true, ↓reduceIte, List.nil_append, e8, eta2]
theorem k_toldB (x : Bool) (l : Bool) : optics_told_bool x (e8 l) = some ((if l = true then false else x, e8 l, ()), (e8 l, ())) := by
  simp only [optics_told_bool, T_optics_told_bool]
  cases l <;> simp (maxSteps := 1000000) (disch := first | omega | assumption) only [↓r_ret, ↓r_fail, ↓r_br, ↓r_bind, ↓r_iter, ↓r_req, decide_eq_true_eq, Bool.not_eq_eq_eq_not, decide_eq_false_iff_not, ite_not, inB_t', app_t', bnd_t', str_t', nz_t, Int.reduceEq, Int.reduceLT, Int.reduceLE, w64', Option.bind_some, Option.bind_none, List.length_cons, List.length_nil, List.length_append, Nat.zero_add, if_pos, if_neg, decide_true, decide_false, if_true, if_false, Bool.not_true, Bool.not_false, Bool.false_eq_true, Bool.true_eq_false, not_true_eq_false, not_false_eq_true, ↓reduceIte, List.nil_append, e8, eta2]
theorem k_fraction (x : Fr) (l : Bool) : ref02xfraction x l = some ((if l = true then (0, 0) else x, e8 l, ()), ()) := by
  simp only [ref02xfraction, T_ref02xfraction]
  cases l <;> simp (maxSteps := 1000000) (disch := first | omega | assumption) only [↓r_ret, ↓r_fail, ↓r_br, ↓r_bind, ↓r_iter, ↓r_req, decide_eq_true_eq, Bool.not_eq_eq_eq_not, decide_eq_false_iff_not, ite_not, inB_t', app_t', bnd_t', str_t', nz_t, Int.reduceEq, Int.reduceLT, Int.reduceLE, w64', Option.bind_some, Option.bind_none, List.length_cons, List.length_nil, List.length_append, Nat.zero_add, if_pos, if_neg, decide_true, decide_false, if_true, if_false, Bool.not_true, Bool.not_false, Bool.false_eq_true, Bool.true_eq_false, not_true_eq_false, not_false_eq_true, ↓reduceIte, List.nil_append, e8, eta2]

/-- A joined matrix, and whether a part of it was large on the way. -/
def joinV (m n : Mx) : Mx := (addv (mulv n.1 m.1) (mulv n.2.1 m.2.2.1), addv (mulv n.1 m.2.1) (mulv n.2.1 m.2.2.2), addv (mulv n.2.2.1 m.1) (mulv n.2.2.2 m.2.2.1), addv (mulv n.2.2.1 m.2.1) (mulv n.2.2.2 m.2.2.2))
def joinL (m n : Mx) : Bool := false || mull n.1 m.1 || mull n.2.1 m.2.2.1 || addl (mulv n.1 m.1) (mulv n.2.1 m.2.2.1) || mull n.1 m.2.1 || mull n.2.1 m.2.2.2 || addl (mulv n.1 m.2.1) (mulv n.2.1 m.2.2.2) ||
  mull n.2.2.1 m.1 || mull n.2.2.2 m.2.2.1 || addl (mulv n.2.2.1 m.1) (mulv n.2.2.2 m.2.2.1) || mull n.2.2.1 m.2.1 || mull n.2.2.2 m.2.2.2 || addl (mulv n.2.2.1 m.2.1) (mulv n.2.2.2 m.2.2.2)
def joinR (m n : Mx) : Mx := if joinL m n = true then ((0, 0), (0, 0), (0, 0), (0, 0)) else joinV m n
theorem k_rJoin {m n : Mx} (hm : SmallM m) (hn : SmallM n) : ref02xJoin m n = some ((joinR m n, e8 (joinL m n), ()), ()) := by
  obtain ⟨m1, m2, m3, m4⟩ := hm
  obtain ⟨n1, n2, n3, n4⟩ := hn
  simp only [ref02xJoin, T_ref02xJoin]
  simp (maxSteps := 1000000) (disch := first | assumption | exact small_mulv _ _ | exact small_addv _ _ | exact small_subv _ _ | exact small_quov _ _ | exact Small.i1 (by assumption) | exact Small.i2 (by assumption) | omega) only [↓r_ret, ↓r_fail, ↓r_br, ↓r_bind, ↓r_iter, ↓r_req, decide_eq_true_eq, Bool.not_eq_eq_eq_not, decide_eq_false_iff_not, ite_not, inB_t', app_t', bnd_t', str_t', nz_t, Int.reduceEq, Int.reduceLT, Int.reduceLE, w64', Option.bind_some, Option.bind_none, List.length_cons, List.length_nil, List.length_append, Nat.zero_add, if_pos, if_neg, decide_true, decide_false, if_true, if_false, Bool.not_true, Bool.not_false, Bool.false_eq_true, Bool.true_eq_false, not_true_eq_false, not_false_eq_true, ↓reduceIte, List.nil_append, eta2, k_rMul, k_rAdd]
  rw [show (false || mull n.1 m.1 || mull n.2.1 m.2.2.1 || addl (mulv n.1 m.1) (mulv n.2.1 m.2.2.1) || mull n.1 m.2.1 || mull n.2.1 m.2.2.2 || addl (mulv n.1 m.2.1) (mulv n.2.1 m.2.2.2) ||
    mull n.2.2.1 m.1 || mull n.2.2.2 m.2.2.1 || addl (mulv n.2.2.1 m.1) (mulv n.2.2.2 m.2.2.1) || mull n.2.2.1 m.2.1 || mull n.2.2.2 m.2.2.2 || addl (mulv n.2.2.1 m.2.1) (mulv n.2.2.2 m.2.2.2)) = joinL m n from rfl]
  unfold joinR joinV e8
  split <;> rfl
theorem k_Join {m n : Mx} (hm : SmallM m) (hn : SmallM n) (im : IM m) (in_ : IM n) : optics_Join m n = some ((joinR m n, e8 (joinL m n), ()), ()) := by
  have kc := k_checkM2 im in_
  rw [if_neg (by rw [cmE_zero.2 hm]; decide), cmE_zero.2 hn] at kc
  obtain ⟨m1, m2, m3, m4⟩ := hm
  obtain ⟨n1, n2, n3, n4⟩ := hn
  obtain ⟨v1, g1, q1⟩ := c_dot (l := false) (.self n1) (.self n2) (.self m1) (.self m3)
  obtain ⟨v2, g2, q2⟩ := c_dot (.self n1) (.self n2) (.self m2) (.self m4) (l := false || mull n.1 m.1 || mull n.2.1 m.2.2.1 || addl (mulv n.1 m.1) (mulv n.2.1 m.2.2.1))
  obtain ⟨v3, g3, q3⟩ := c_dot (.self n3) (.self n4) (.self m1) (.self m3) (l := false || mull n.1 m.1 || mull n.2.1 m.2.2.1 || addl (mulv n.1 m.1) (mulv n.2.1 m.2.2.1) || mull n.1 m.2.1 || mull n.2.1 m.2.2.2 || addl (mulv n.1 m.2.1) (mulv n.2.1 m.2.2.2))
  obtain ⟨v4, g4, q4⟩ := c_dot (.self n3) (.self n4) (.self m2) (.self m4) (l := false || mull n.1 m.1 || mull n.2.1 m.2.2.1 || addl (mulv n.1 m.1) (mulv n.2.1 m.2.2.1) || mull n.1 m.2.1 || mull n.2.1 m.2.2.2 || addl (mulv n.1 m.2.1) (mulv n.2.1 m.2.2.2) ||
    mull n.2.2.1 m.1 || mull n.2.2.2 m.2.2.1 || addl (mulv n.2.2.1 m.1) (mulv n.2.2.2 m.2.2.1))
  have e0 : e8 false = 0 := rfl
  rw [e0] at q1
  have s1 : joinL m n = false → v1 = _ := fun h => g1.same (by simp only [joinL, Bool.or_eq_false_iff] at h ⊢; simp only [h, and_self])
  have s2 : joinL m n = false → v2 = _ := fun h => g2.same (by simp only [joinL, Bool.or_eq_false_iff] at h ⊢; simp only [h, and_self])
  have s3 : joinL m n = false → v3 = _ := fun h => g3.same (by simp only [joinL, Bool.or_eq_false_iff] at h ⊢; simp only [h, and_self])
  have s4 : joinL m n = false → v4 = _ := fun h => g4.same h
  have q5 : optics_counter_dot (n.2.2.1, n.2.2.2) (m.2.1, m.2.2.2) (e8 _) = some ((v4, ()), (e8 (joinL m n), ())) := q4
  simp only [optics_Join, T_optics_Join]
  simp (maxSteps := 1000000) (disch := first | assumption | exact small_mulv _ _ | exact small_addv _ _ | exact small_subv _ _ | exact small_quov _ _ | exact Small.i1 (by assumption) | exact Small.i2 (by assumption) | omega) only [↓r_ret, ↓r_fail, ↓r_br, ↓r_bind, ↓r_iter, ↓r_req, decide_eq_true_eq, Bool.not_eq_eq_eq_not, decide_eq_false_iff_not, ite_not, inB_t', app_t', bnd_t', str_t', nz_t, Int.reduceEq, Int.reduceLT, Int.reduceLE, w64', Option.bind_some, Option.bind_none, List.length_cons, List.length_nil, List.length_append, Nat.zero_add, if_pos, if_neg, decide_true, decide_false, if_true, if_false, Bool.not_true, Bool.not_false, Bool.false_eq_true, Bool.true_eq_false, not_true_eq_false, not_false_eq_true, ↓reduceIte, List.nil_append, eta2, kc, q1, q2, q3, q5, k_toldM]
  unfold joinR joinV
  cases hL : joinL m n with
  | true => rfl
  | false => rw [s1 hL, s2 hL, s3 hL, s4 hL]
/-- The determinant. -/
def detV (m : Mx) : Fr := subv (mulv m.1 m.2.2.2) (mulv m.2.1 m.2.2.1)
def detL (m : Mx) : Bool := false || mull m.1 m.2.2.2 || mull m.2.1 m.2.2.1 || subl (mulv m.1 m.2.2.2) (mulv m.2.1 m.2.2.1)
def detR (m : Mx) : Fr := if detL m = true then (0, 0) else detV m
theorem k_rDeterminant {m : Mx} (hm : SmallM m) : ref02xDeterminant m = some ((detR m, e8 (detL m), ()), ()) := by
  obtain ⟨m1, m2, m3, m4⟩ := hm
  simp only [ref02xDeterminant, T_ref02xDeterminant]
  simp (maxSteps := 1000000) (disch := first | assumption | exact small_mulv _ _ | exact small_addv _ _ | exact small_subv _ _ | exact small_quov _ _ | exact Small.i1 (by assumption) | exact Small.i2 (by assumption) | omega) only [↓r_ret, ↓r_fail, ↓r_br, ↓r_bind, ↓r_iter, ↓r_req, decide_eq_true_eq, Bool.not_eq_eq_eq_not, decide_eq_false_iff_not, ite_not, inB_t', app_t', bnd_t', str_t', nz_t, Int.reduceEq, Int.reduceLT, Int.reduceLE, w64', Option.bind_some, Option.bind_none, List.length_cons, List.length_nil, List.length_append, Nat.zero_add, if_pos, if_neg, decide_true, decide_false, if_true, if_false, Bool.not_true, Bool.not_false, Bool.false_eq_true, Bool.true_eq_false, not_true_eq_false, not_false_eq_true, ↓reduceIte, List.nil_append, eta2, k_rMul, k_rSub, k_fraction]
  rfl
theorem k_Determinant {m : Mx} (hm : SmallM m) (im : IM m) : optics_Determinant m = some ((detR m, e8 (detL m), ()), ()) := by
  have kc := k_checkM1 im
  rw [cmE_zero.2 hm] at kc
  obtain ⟨m1, m2, m3, m4⟩ := hm
  obtain ⟨v1, g1, q1⟩ := c_mul (l := false) (.self m1) (.self m4)
  obtain ⟨v2, g2, q2⟩ := c_mul (.self m2) (.self m3) (l := false || mull m.1 m.2.2.2)
  obtain ⟨v3, g3, q3⟩ := c_sub g1.o g2
  have e0 : e8 false = 0 := rfl
  rw [e0] at q1
  have s3 : detL m = false → v3 = _ := fun h => g3.same h
  have q5 : optics_counter_sub v1 v2 (e8 _) = some ((v3, ()), (e8 (detL m), ())) := q3
  simp only [optics_Determinant, T_optics_Determinant]
  simp (maxSteps := 1000000) (disch := first | assumption | exact small_mulv _ _ | exact small_addv _ _ | exact small_subv _ _ | exact small_quov _ _ | exact Small.i1 (by assumption) | exact Small.i2 (by assumption) | omega) only [↓r_ret, ↓r_fail, ↓r_br, ↓r_bind, ↓r_iter, ↓r_req, decide_eq_true_eq, Bool.not_eq_eq_eq_not, decide_eq_false_iff_not, ite_not, inB_t', app_t', bnd_t', str_t', nz_t, Int.reduceEq, Int.reduceLT, Int.reduceLE, w64', Option.bind_some, Option.bind_none, List.length_cons, List.length_nil, List.length_append, Nat.zero_add, if_pos, if_neg, decide_true, decide_false, if_true, if_false, Bool.not_true, Bool.not_false, Bool.false_eq_true, Bool.true_eq_false, not_true_eq_false, not_false_eq_true, ↓reduceIte, List.nil_append, eta2, kc, q1, q2, q5, k_toldF]
  unfold detR detV
  cases hL : detL m with
  | true => rfl
  | false => rw [s3 hL]
theorem k_JoinE {m n : Mx} (im : IM m) (in_ : IM n) (h : ¬ (cmE m = 0 ∧ cmE n = 0)) : optics_Join m n = some ((((0, 0), (0, 0), (0, 0), (0, 0)), if cmE m ≠ 0 then cmE m else cmE n, ()), ()) := by
  have kc := k_checkM2 im in_
  have hc : ¬ (if cmE m ≠ 0 then cmE m else cmE n) = 0 := by
    split
    · assumption
    · rename_i h1; intro h2; exact h ⟨by omega, h2⟩
  simp only [optics_Join, T_optics_Join]
  generalize (if cmE m ≠ 0 then cmE m else cmE n) = e at *
  simp (maxSteps := 1000000) (disch := first | assumption | exact small_mulv _ _ | exact small_addv _ _ | exact small_subv _ _ | exact small_quov _ _ | exact Small.i1 (by assumption) | exact Small.i2 (by assumption) | omega) only [↓r_ret, ↓r_fail, ↓r_br, ↓r_bind, ↓r_iter, ↓r_req, decide_eq_true_eq, Bool.not_eq_eq_eq_not, decide_eq_false_iff_not, ite_not, inB_t', app_t', bnd_t', str_t', nz_t, Int.reduceEq, Int.reduceLT, Int.reduceLE, w64', Option.bind_some, Option.bind_none, List.length_cons, List.length_nil, List.length_append, Nat.zero_add, if_pos, if_neg, decide_true, decide_false, if_true, if_false, Bool.not_true, Bool.not_false, Bool.false_eq_true, Bool.true_eq_false, not_true_eq_false, not_false_eq_true, ↓reduceIte, List.nil_append, eta2, kc, hc]
theorem k_DeterminantE {m : Mx} (im : IM m) (h : ¬ cmE m = 0) : optics_Determinant m = some (((0, 0), cmE m, ()), ()) := by
  have kc := k_checkM1 im
  simp only [optics_Determinant, T_optics_Determinant]
  simp (maxSteps := 1000000) (disch := first | assumption | exact small_mulv _ _ | exact small_addv _ _ | exact small_subv _ _ | exact small_quov _ _ | exact Small.i1 (by assumption) | exact Small.i2 (by assumption) | omega) only [↓r_ret, ↓r_fail, ↓r_br, ↓r_bind, ↓r_iter, ↓r_req, decide_eq_true_eq, Bool.not_eq_eq_eq_not, decide_eq_false_iff_not, ite_not, inB_t', app_t', bnd_t', str_t', nz_t, Int.reduceEq, Int.reduceLT, Int.reduceLE, w64', Option.bind_some, Option.bind_none, List.length_cons, List.length_nil, List.length_append, Nat.zero_add, if_pos, if_neg, decide_true, decide_false, if_true, if_false, Bool.not_true, Bool.not_false, Bool.false_eq_true, Bool.true_eq_false, not_true_eq_false, not_false_eq_true, ↓reduceIte, List.nil_append, eta2, kc, h]
end Go.Ab
