/- Sums, products and quotients of fractions, of the program and of the reference. -/
import Derived.Test.YtpgagefaneaioaaH1
namespace Go.Ab
open Go
set_option maxRecDepth 1000000
set_option maxHeartbeats 1000000
set_option linter.unusedVariables false
set_option linter.unusedSimpArgs false
attribute [local congr] bindC iterC

theorem k_checkFracs {l : List (Int × Int)} (hl : l.length ≤ 1099511627776) (h : ∀ i : Nat, i < l.length → I64 (gi l i).1 ∧ I64 (gi l i).2) : number_checkFracs l = some ((firstErr (fun i => cfE (gi l i)) l.length, ()), ()) := by
  simp only [number_checkFracs, T_number_checkFracs, r_iter]
  refine iter_err (fun i => ((i : Int), ())) (fun i => cfE (gi l i)) l.length (by omega) (fun e => ((e, ()), ())) ?_ ?_ ?_
  · intro i hi _ hc
    have hk := k_CheckFrac (h i hi).1 (h i hi).2
    simp only [T_number_checkFracs_l0]
    simp (maxSteps := 1000000) (disch := first | omega | assumption) only [↓r_ret, ↓r_fail, ↓r_br, ↓r_bind, ↓r_iter, ↓r_req, decide_eq_true_eq, Bool.not_eq_eq_eq_not, decide_eq_false_iff_not, ite_not, inB_t', app_t', bnd_t', str_t', nz_t, Int.reduceEq, Int.reduceLT, Int.reduceLE, w64', Option.bind_some, Option.bind_none, List.length_cons, List.length_nil, List.length_append, Nat.zero_add, if_pos, if_neg, decide_true, decide_false, if_true, if_false, Bool.not_true, Bool.not_false, Bool.false_eq_true, Bool.true_eq_false, not_true_eq_false, not_false_eq_true, ↓reduceIte, List.nil_append, hk, hc, eta2]
  · intro i hi _ hc
    have hk := k_CheckFrac (h i hi).1 (h i hi).2
    simp only [T_number_checkFracs_l0]
    simp (maxSteps := 1000000) (disch := first | omega | assumption) only [↓r_ret, ↓r_fail, ↓r_br, ↓r_bind, ↓r_iter, ↓r_req, decide_eq_true_eq, Bool.not_eq_eq_eq_not, decide_eq_false_iff_not, ite_not, inB_t', app_t', bnd_t', str_t', nz_t, Int.reduceEq, Int.reduceLT, Int.reduceLE, w64', Option.bind_some, Option.bind_none, List.length_cons, List.length_nil, List.length_append, Nat.zero_add, if_pos, if_neg, decide_true, decide_false, if_true, if_false, Bool.not_true, Bool.not_false, Bool.false_eq_true, Bool.true_eq_false, not_true_eq_false, not_false_eq_true, ↓reduceIte, List.nil_append, hk, hc, eta2]
    rfl
  · intro _
    simp only [T_number_checkFracs_l0]
    simp (maxSteps := 1000000) (disch := first | omega | assumption) only [↓r_ret, ↓r_fail, ↓r_br, ↓r_bind, ↓r_iter, ↓r_req, decide_eq_true_eq, Bool.not_eq_eq_eq_not, decide_eq_false_iff_not, ite_not, inB_t', app_t', bnd_t', str_t', nz_t, Int.reduceEq, Int.reduceLT, Int.reduceLE, w64', Option.bind_some, Option.bind_none, List.length_cons, List.length_nil, List.length_append, Nat.zero_add, if_pos, if_neg, decide_true, decide_false, if_true, if_false, Bool.not_true, Bool.not_false, Bool.false_eq_true, Bool.true_eq_false, not_true_eq_false, not_false_eq_true, ↓reduceIte, List.nil_append, ]
theorem k_ocheckFracs {l : List (Int × Int)} (hl : l.length ≤ 1099511627776) (h : ∀ i : Nat, i < l.length → I64 (gi l i).1 ∧ I64 (gi l i).2) : optics_checkFracs l = some ((firstErr (fun i => cfE (gi l i)) l.length, ()), ()) := by
  simp only [optics_checkFracs, T_optics_checkFracs, r_iter]
  refine iter_err (fun i => ((i : Int), ())) (fun i => cfE (gi l i)) l.length (by omega) (fun e => ((e, ()), ())) ?_ ?_ ?_
  · intro i hi _ hc
    have hk := k_CheckFrac (h i hi).1 (h i hi).2
    simp only [T_optics_checkFracs_l0]
    simp (maxSteps := 1000000) (disch := first | omega | assumption) only [↓r_ret, ↓r_fail, ↓r_br, ↓r_bind, ↓r_iter, ↓r_req, decide_eq_true_eq, Bool.not_eq_eq_eq_not, decide_eq_false_iff_not, ite_not, inB_t', app_t', bnd_t', str_t', nz_t, Int.reduceEq, Int.reduceLT, Int.reduceLE, w64', Option.bind_some, Option.bind_none, List.length_cons, List.length_nil, List.length_append, Nat.zero_add, if_pos, if_neg, decide_true, decide_false, if_true, if_false, Bool.not_true, Bool.not_false, Bool.false_eq_true, Bool.true_eq_false, not_true_eq_false, not_false_eq_true, ↓reduceIte, List.nil_append, hk, hc, eta2]
  · intro i hi _ hc
    have hk := k_CheckFrac (h i hi).1 (h i hi).2
    simp only [T_optics_checkFracs_l0]
    simp (maxSteps := 1000000) (disch := first | omega | assumption) only [↓r_ret, ↓r_fail, ↓r_br, ↓r_bind, ↓r_iter, ↓r_req, decide_eq_true_eq, Bool.not_eq_eq_eq_not, decide_eq_false_iff_not, ite_not, inB_t', app_t', bnd_t', str_t', nz_t, Int.reduceEq, Int.reduceLT, Int.reduceLE, w64', Option.bind_some, Option.bind_none, List.length_cons, List.length_nil, List.length_append, Nat.zero_add, if_pos, if_neg, decide_true, decide_false, if_true, if_false, Bool.not_true, Bool.not_false, Bool.false_eq_true, Bool.true_eq_false, not_true_eq_false, not_false_eq_true, ↓reduceIte, List.nil_append, hk, hc, eta2]
    rfl
  · intro _
    simp only [T_optics_checkFracs_l0]
    simp (maxSteps := 1000000) (disch := first | omega | assumption) only [↓r_ret, ↓r_fail, ↓r_br, ↓r_bind, ↓r_iter, ↓r_req, decide_eq_true_eq, Bool.not_eq_eq_eq_not, decide_eq_false_iff_not, ite_not, inB_t', app_t', bnd_t', str_t', nz_t, Int.reduceEq, Int.reduceLT, Int.reduceLE, w64', Option.bind_some, Option.bind_none, List.length_cons, List.length_nil, List.length_append, Nat.zero_add, if_pos, if_neg, decide_true, decide_false, if_true, if_false, Bool.not_true, Bool.not_false, Bool.false_eq_true, Bool.true_eq_false, not_true_eq_false, not_false_eq_true, ↓reduceIte, List.nil_append, ]

theorem Small.i1 {f : Int × Int} (h : Small f) : I64 f.1 := by
  obtain ⟨_, h1, h2, h3⟩ := h
  exact ⟨by omega, by omega⟩
theorem Small.i2 {f : Int × Int} (h : Small f) : I64 f.2 := by
  obtain ⟨⟨h0, _⟩, h1, h2, h3⟩ := h
  exact ⟨by omega, by omega⟩
theorem k_check2 {a b : Int × Int} (ha : Small a) (hb : Small b) : number_checkFracs [a, b] = some ((0, ()), ()) := by
  rw [k_checkFracs (by simp) (by
    intro i hi
    simp only [List.length_cons, List.length_nil] at hi
    match i, hi with
    | 0, _ => exact ⟨ha.i1, ha.i2⟩
    | 1, _ => exact ⟨hb.i1, hb.i2⟩)]
  rw [firstErr_0]
  intro j hj
  simp only [List.length_cons, List.length_nil] at hj
  match j, hj with
  | 0, _ => exact cfE_of ha
  | 1, _ => exact cfE_of hb

theorem k_valid {n d : Int} (hd : d ≠ 0) (h1 : -9223372036854775807 ≤ n) (h2 : n ≤ 9223372036854775807) (h3 : -9223372036854775807 ≤ d) (h4 : d ≤ 9223372036854775807) :
    number_valid n d = some ((if Small (low n d) then low n d else (0, 0), if Small (low n d) then 0 else 8, ()), ()) := by
  have hp := G_pos (a := n) hd
  have hg := G_le (a := n) hd
  have kd := k_divisor (a := n) (b := d) (by omega) h2 h3 h4 (fun _ => h1)
  obtain ⟨b1, b2⟩ := low_bd (n := n) hd
  have i1 : I64 (low n d).1 := ⟨by omega, by omega⟩
  have i2 : I64 (low n d).2 := ⟨by omega, by omega⟩
  have kc := k_CheckFrac i1 i2
  have e0 : IntKind.i64.wrap (0 - G n d) = -G n d := by rw [w64' (by omega) (by omega)]; omega
  have e1 : IntKind.i64.wrap (low n d).1 = (low n d).1 := w64' i1.1 i1.2
  have e2 : IntKind.i64.wrap (low n d).2 = (low n d).2 := w64' i2.1 i2.2
  simp only [number_valid, T_number_valid]
  by_cases h : d < 0
  · have el : low n d = (n.tdiv (-G n d), d.tdiv (-G n d)) := if_pos h
    have f1 : n.tdiv (-G n d) = (low n d).1 := by rw [el]
    have f2 : d.tdiv (-G n d) = (low n d).2 := by rw [el]
    have nz0 : -G n d ≠ 0 := by omega
    by_cases hs : Small (low n d)
    · have := cfE_of hs
      simp (maxSteps := 1000000) (disch := first | omega | assumption) only [↓r_ret, ↓r_fail, ↓r_br, ↓r_bind, ↓r_iter, ↓r_req, decide_eq_true_eq, Bool.not_eq_eq_eq_not, decide_eq_false_iff_not, ite_not, inB_t', app_t', bnd_t', str_t', nz_t, Int.reduceEq, Int.reduceLT, Int.reduceLE, w64', Option.bind_some, Option.bind_none, List.length_cons, List.length_nil, List.length_append, Nat.zero_add, if_pos, if_neg, decide_true, decide_false, if_true, if_false, Bool.not_true, Bool.not_false, Bool.false_eq_true, Bool.true_eq_false, not_true_eq_false, not_false_eq_true, ↓reduceIte, List.nil_append, kd, h, e0, f1, f2, e1, e2, kc, hs, this, eta2]
    · have : ¬ cfE (low n d) = 0 := fun h => hs (cfE_zero.1 h)
      simp (maxSteps := 1000000) (disch := first | omega | assumption) only [↓r_ret, ↓r_fail, ↓r_br, ↓r_bind, ↓r_iter, ↓r_req, decide_eq_true_eq, Bool.not_eq_eq_eq_not, decide_eq_false_iff_not, ite_not, inB_t', app_t', bnd_t', str_t', nz_t, Int.reduceEq, Int.reduceLT, Int.reduceLE, w64', Option.bind_some, Option.bind_none, List.length_cons, List.length_nil, List.length_append, Nat.zero_add, if_pos, if_neg, decide_true, decide_false, if_true, if_false, Bool.not_true, Bool.not_false, Bool.false_eq_true, Bool.true_eq_false, not_true_eq_false, not_false_eq_true, ↓reduceIte, List.nil_append, kd, h, e0, f1, f2, e1, e2, kc, hs, this, eta2]
  · have el : low n d = (n.tdiv (G n d), d.tdiv (G n d)) := if_neg h
    have f1 : n.tdiv (G n d) = (low n d).1 := by rw [el]
    have f2 : d.tdiv (G n d) = (low n d).2 := by rw [el]
    have nz0 : G n d ≠ 0 := by omega
    by_cases hs : Small (low n d)
    · have := cfE_of hs
      simp (maxSteps := 1000000) (disch := first | omega | assumption) only [↓r_ret, ↓r_fail, ↓r_br, ↓r_bind, ↓r_iter, ↓r_req, decide_eq_true_eq, Bool.not_eq_eq_eq_not, decide_eq_false_iff_not, ite_not, inB_t', app_t', bnd_t', str_t', nz_t, Int.reduceEq, Int.reduceLT, Int.reduceLE, w64', Option.bind_some, Option.bind_none, List.length_cons, List.length_nil, List.length_append, Nat.zero_add, if_pos, if_neg, decide_true, decide_false, if_true, if_false, Bool.not_true, Bool.not_false, Bool.false_eq_true, Bool.true_eq_false, not_true_eq_false, not_false_eq_true, ↓reduceIte, List.nil_append, kd, h, f1, f2, e1, e2, kc, hs, this, eta2]
    · have : ¬ cfE (low n d) = 0 := fun h => hs (cfE_zero.1 h)
      simp (maxSteps := 1000000) (disch := first | omega | assumption) only [↓r_ret, ↓r_fail, ↓r_br, ↓r_bind, ↓r_iter, ↓r_req, decide_eq_true_eq, Bool.not_eq_eq_eq_not, decide_eq_false_iff_not, ite_not, inB_t', app_t', bnd_t', str_t', nz_t, Int.reduceEq, Int.reduceLT, Int.reduceLE, w64', Option.bind_some, Option.bind_none, List.length_cons, List.length_nil, List.length_append, Nat.zero_add, if_pos, if_neg, decide_true, decide_false, if_true, if_false, Bool.not_true, Bool.not_false, Bool.false_eq_true, Bool.true_eq_false, not_true_eq_false, not_false_eq_true, ↓reduceIte, List.nil_append, kd, h, f1, f2, e1, e2, kc, hs, this, eta2]
theorem k_Lowest {n d : Int} (hd : d ≠ 0) (h1 : -9223372036854775807 ≤ n) (h2 : n ≤ 9223372036854775807) (h3 : -9223372036854775807 ≤ d) (h4 : d ≤ 9223372036854775807) :
    base_Lowest n d = some ((low n d, ()), ()) := by
  have hp := G_pos (a := n) hd
  have hg := G_le (a := n) hd
  have kd := k_Gcd (a := n) (b := d) (by omega) h2 h3 h4 (fun _ => h1)
  obtain ⟨b1, b2⟩ := low_bd (n := n) hd
  have e0 : IntKind.i64.wrap (0 - G n d) = -G n d := by rw [w64' (by omega) (by omega)]; omega
  have e1 : IntKind.i64.wrap (low n d).1 = (low n d).1 := w64' (by omega) (by omega)
  have e2 : IntKind.i64.wrap (low n d).2 = (low n d).2 := w64' (by omega) (by omega)
  simp only [base_Lowest, T_base_Lowest]
  by_cases h : d < 0
  · have el : low n d = (n.tdiv (-G n d), d.tdiv (-G n d)) := if_pos h
    have f1 : n.tdiv (-G n d) = (low n d).1 := by rw [el]
    have f2 : d.tdiv (-G n d) = (low n d).2 := by rw [el]
    have nz0 : -G n d ≠ 0 := by omega
    simp (maxSteps := 1000000) (disch := first | omega | assumption) only [↓r_ret, ↓r_fail, ↓r_br, ↓r_bind, ↓r_iter, ↓r_req, decide_eq_true_eq, Bool.not_eq_eq_eq_not, decide_eq_false_iff_not, ite_not, inB_t', app_t', bnd_t', str_t', nz_t, Int.reduceEq, Int.reduceLT, Int.reduceLE, w64', Option.bind_some, Option.bind_none, List.length_cons, List.length_nil, List.length_append, Nat.zero_add, if_pos, if_neg, decide_true, decide_false, if_true, if_false, Bool.not_true, Bool.not_false, Bool.false_eq_true, Bool.true_eq_false, not_true_eq_false, not_false_eq_true, ↓reduceIte, List.nil_append, kd, h, e0, f1, f2, e1, e2, eta2]
  · have el : low n d = (n.tdiv (G n d), d.tdiv (G n d)) := if_neg h
    have f1 : n.tdiv (G n d) = (low n d).1 := by rw [el]
    have f2 : d.tdiv (G n d) = (low n d).2 := by rw [el]
    have nz0 : G n d ≠ 0 := by omega
    simp (maxSteps := 1000000) (disch := first | omega | assumption) only [↓r_ret, ↓r_fail, ↓r_br, ↓r_bind, ↓r_iter, ↓r_req, decide_eq_true_eq, Bool.not_eq_eq_eq_not, decide_eq_false_iff_not, ite_not, inB_t', app_t', bnd_t', str_t', nz_t, Int.reduceEq, Int.reduceLT, Int.reduceLE, w64', Option.bind_some, Option.bind_none, List.length_cons, List.length_nil, List.length_append, Nat.zero_add, if_pos, if_neg, decide_true, decide_false, if_true, if_false, Bool.not_true, Bool.not_false, Bool.false_eq_true, Bool.true_eq_false, not_true_eq_false, not_false_eq_true, ↓reduceIte, List.nil_append, kd, h, f1, f2, e1, e2, eta2]
theorem k_fit {n d : Int} (w : Bool) (hd : d ≠ 0) (h1 : -9223372036854775807 ≤ n) (h2 : n ≤ 9223372036854775807) (h3 : -9223372036854775807 ≤ d) (h4 : d ≤ 9223372036854775807) :
    ref02xWay_fit n d w = some ((fv n d, ()), (w || lg n d, ())) := by
  have kl := k_Lowest hd h1 h2 h3 h4
  obtain ⟨b1, b2⟩ := low_bd (n := n) hd
  have ks := k_IsSmall (f := low n d) ⟨by omega, by omega⟩ ⟨by omega, by omega⟩
  simp only [ref02xWay_fit, T_ref02xWay_fit]
  by_cases hs : Small (low n d)
  · simp (maxSteps := 1000000) (disch := first | omega | assumption) only [↓r_ret, ↓r_fail, ↓r_br, ↓r_bind, ↓r_iter, ↓r_req, decide_eq_true_eq, Bool.not_eq_eq_eq_not, decide_eq_false_iff_not, ite_not, inB_t', app_t', bnd_t', str_t', nz_t, Int.reduceEq, Int.reduceLT, Int.reduceLE, w64', Option.bind_some, Option.bind_none, List.length_cons, List.length_nil, List.length_append, Nat.zero_add, if_pos, if_neg, decide_true, decide_false, if_true, if_false, Bool.not_true, Bool.not_false, Bool.false_eq_true, Bool.true_eq_false, not_true_eq_false, not_false_eq_true, ↓reduceIte, List.nil_append, kl, ks, hs, fv, lg, eta2, Bool.or_false]
  · simp (maxSteps := 1000000) (disch := first | omega | assumption) only [↓r_ret, ↓r_fail, ↓r_br, ↓r_bind, ↓r_iter, ↓r_req, decide_eq_true_eq, Bool.not_eq_eq_eq_not, decide_eq_false_iff_not, ite_not, inB_t', app_t', bnd_t', str_t', nz_t, Int.reduceEq, Int.reduceLT, Int.reduceLE, w64', Option.bind_some, Option.bind_none, List.length_cons, List.length_nil, List.length_append, Nat.zero_add, if_pos, if_neg, decide_true, decide_false, if_true, if_false, Bool.not_true, Bool.not_false, Bool.false_eq_true, Bool.true_eq_false, not_true_eq_false, not_false_eq_true, ↓reduceIte, List.nil_append, kl, ks, hs, fv, lg, eta2, Bool.or_true]

theorem k_keep (f : Int × Int) (e c : Int) : optics_counter_keep f e c = some ((if c = 0 ∧ e = 0 then f else (0, 1), ()), (if c = 0 then e else c, ())) := by
  have kw : optics_whole 0 = some (((0, 1), ()), ()) := by simp only [optics_whole, T_optics_whole, r_ret]
  simp only [optics_counter_keep, T_optics_counter_keep]
  by_cases hc : c = 0
  · by_cases he : e = 0
    · simp (maxSteps := 1000000) (disch := first | omega | assumption) only [↓r_ret, ↓r_fail, ↓r_br, ↓r_bind, ↓r_iter, ↓r_req, decide_eq_true_eq, Bool.not_eq_eq_eq_not, decide_eq_false_iff_not, ite_not, inB_t', app_t', bnd_t', str_t', nz_t, Int.reduceEq, Int.reduceLT, Int.reduceLE, w64', Option.bind_some, Option.bind_none, List.length_cons, List.length_nil, List.length_append, Nat.zero_add, if_pos, if_neg, decide_true, decide_false, if_true, if_false, Bool.not_true, Bool.not_false, Bool.false_eq_true, Bool.true_eq_false, not_true_eq_false, not_false_eq_true, ↓reduceIte, List.nil_append, hc, he, kw, eta2, and_self]
    · simp (maxSteps := 1000000) (disch := first | omega | assumption) only [↓r_ret, ↓r_fail, ↓r_br, ↓r_bind, ↓r_iter, ↓r_req, decide_eq_true_eq, Bool.not_eq_eq_eq_not, decide_eq_false_iff_not, ite_not, inB_t', app_t', bnd_t', str_t', nz_t, Int.reduceEq, Int.reduceLT, Int.reduceLE, w64', Option.bind_some, Option.bind_none, List.length_cons, List.length_nil, List.length_append, Nat.zero_add, if_pos, if_neg, decide_true, decide_false, if_true, if_false, Bool.not_true, Bool.not_false, Bool.false_eq_true, Bool.true_eq_false, not_true_eq_false, not_false_eq_true, ↓reduceIte, List.nil_append, hc, he, kw, eta2, and_false]
  · simp (maxSteps := 1000000) (disch := first | omega | assumption) only [↓r_ret, ↓r_fail, ↓r_br, ↓r_bind, ↓r_iter, ↓r_req, decide_eq_true_eq, Bool.not_eq_eq_eq_not, decide_eq_false_iff_not, ite_not, inB_t', app_t', bnd_t', str_t', nz_t, Int.reduceEq, Int.reduceLT, Int.reduceLE, w64', Option.bind_some, Option.bind_none, List.length_cons, List.length_nil, List.length_append, Nat.zero_add, if_pos, if_neg, decide_true, decide_false, if_true, if_false, Bool.not_true, Bool.not_false, Bool.false_eq_true, Bool.true_eq_false, not_true_eq_false, not_false_eq_true, ↓reduceIte, List.nil_append, hc, kw, eta2, false_and]

/-- The bounds of what small fractions make. -/
theorem Small.bds {a b : Int × Int} (ha : Small a) (hb : Small b) : (-1000000000000000000 ≤ a.1 * b.1 ∧ a.1 * b.1 ≤ 1000000000000000000) ∧ (-1000000000000000000 ≤ a.1 * b.2 ∧ a.1 * b.2 ≤ 1000000000000000000) ∧
    (-1000000000000000000 ≤ b.1 * a.2 ∧ b.1 * a.2 ≤ 1000000000000000000) ∧ (0 < a.2 * b.2 ∧ a.2 * b.2 ≤ 1000000000000000000) ∧ (-1000000000000000000 ≤ a.2 * b.1 ∧ a.2 * b.1 ≤ 1000000000000000000) := by
  obtain ⟨⟨a0, _⟩, a1, a2, a3⟩ := ha
  obtain ⟨⟨b0, _⟩, b1, b2, b3⟩ := hb
  have m1 := mul_bd a1 a2 b1 b2
  have m2 := mul_bd a1 a2 (show -1000000000 ≤ b.2 by omega) b3
  have m3 := mul_bd b1 b2 (show -1000000000 ≤ a.2 by omega) a3
  have m4 := mul_bd (show -1000000000 ≤ a.2 by omega) a3 (show -1000000000 ≤ b.2 by omega) b3
  have m5 := mul_bd (show -1000000000 ≤ a.2 by omega) a3 b1 b2
  have m6 := Int.mul_pos a0 b0
  omega

def mulv (a b : Int × Int) : Int × Int := fv (a.1 * b.1) (a.2 * b.2)
def mull (a b : Int × Int) : Bool := lg (a.1 * b.1) (a.2 * b.2)
def addv (a b : Int × Int) : Int × Int := fv (a.1 * b.2 + b.1 * a.2) (a.2 * b.2)
def addl (a b : Int × Int) : Bool := lg (a.1 * b.2 + b.1 * a.2) (a.2 * b.2)
def subv (a b : Int × Int) : Int × Int := fv (a.1 * b.2 - b.1 * a.2) (a.2 * b.2)
def subl (a b : Int × Int) : Bool := lg (a.1 * b.2 - b.1 * a.2) (a.2 * b.2)
def quov (a b : Int × Int) : Int × Int := if b.1 = 0 then (0, 1) else fv (a.1 * b.2) (a.2 * b.1)
def quol (a b : Int × Int) : Bool := if b.1 = 0 then true else lg (a.1 * b.2) (a.2 * b.1)
theorem small_mulv (a b : Int × Int) : Small (mulv a b) := fv_small _ _
theorem small_addv (a b : Int × Int) : Small (addv a b) := fv_small _ _
theorem small_subv (a b : Int × Int) : Small (subv a b) := fv_small _ _
theorem small_quov (a b : Int × Int) : Small (quov a b) := by
  unfold quov; split
  · exact small_one (by decide) (by decide)
  · exact fv_small _ _

theorem k_rMul {a b : Int × Int} (ha : Small a) (hb : Small b) (w : Bool) : ref02xWay_Mul a b w = some ((mulv a b, ()), (w || mull a b, ())) := by
  have h := ha.bds hb
  have kf := k_fit (n := a.1 * b.1) (d := a.2 * b.2) w (by omega) (by omega) (by omega) (by omega) (by omega)
  simp only [ref02xWay_Mul, T_ref02xWay_Mul]
  simp (maxSteps := 1000000) (disch := first | omega | assumption) only [↓r_ret, ↓r_fail, ↓r_br, ↓r_bind, ↓r_iter, ↓r_req, decide_eq_true_eq, Bool.not_eq_eq_eq_not, decide_eq_false_iff_not, ite_not, inB_t', app_t', bnd_t', str_t', nz_t, Int.reduceEq, Int.reduceLT, Int.reduceLE, w64', Option.bind_some, Option.bind_none, List.length_cons, List.length_nil, List.length_append, Nat.zero_add, if_pos, if_neg, decide_true, decide_false, if_true, if_false, Bool.not_true, Bool.not_false, Bool.false_eq_true, Bool.true_eq_false, not_true_eq_false, not_false_eq_true, ↓reduceIte, List.nil_append, kf, mulv, mull, eta2]
theorem k_rAdd {a b : Int × Int} (ha : Small a) (hb : Small b) (w : Bool) : ref02xWay_Add a b w = some ((addv a b, ()), (w || addl a b, ())) := by
  have h := ha.bds hb
  have kf := k_fit (n := a.1 * b.2 + b.1 * a.2) (d := a.2 * b.2) w (by omega) (by omega) (by omega) (by omega) (by omega)
  simp only [ref02xWay_Add, T_ref02xWay_Add]
  simp (maxSteps := 1000000) (disch := first | omega | assumption) only [↓r_ret, ↓r_fail, ↓r_br, ↓r_bind, ↓r_iter, ↓r_req, decide_eq_true_eq, Bool.not_eq_eq_eq_not, decide_eq_false_iff_not, ite_not, inB_t', app_t', bnd_t', str_t', nz_t, Int.reduceEq, Int.reduceLT, Int.reduceLE, w64', Option.bind_some, Option.bind_none, List.length_cons, List.length_nil, List.length_append, Nat.zero_add, if_pos, if_neg, decide_true, decide_false, if_true, if_false, Bool.not_true, Bool.not_false, Bool.false_eq_true, Bool.true_eq_false, not_true_eq_false, not_false_eq_true, ↓reduceIte, List.nil_append, kf, addv, addl, eta2]
theorem k_rSub {a b : Int × Int} (ha : Small a) (hb : Small b) (w : Bool) : ref02xWay_Sub a b w = some ((subv a b, ()), (w || subl a b, ())) := by
  have h := ha.bds hb
  have kf := k_fit (n := a.1 * b.2 - b.1 * a.2) (d := a.2 * b.2) w (by omega) (by omega) (by omega) (by omega) (by omega)
  simp only [ref02xWay_Sub, T_ref02xWay_Sub]
  simp (maxSteps := 1000000) (disch := first | omega | assumption) only [↓r_ret, ↓r_fail, ↓r_br, ↓r_bind, ↓r_iter, ↓r_req, decide_eq_true_eq, Bool.not_eq_eq_eq_not, decide_eq_false_iff_not, ite_not, inB_t', app_t', bnd_t', str_t', nz_t, Int.reduceEq, Int.reduceLT, Int.reduceLE, w64', Option.bind_some, Option.bind_none, List.length_cons, List.length_nil, List.length_append, Nat.zero_add, if_pos, if_neg, decide_true, decide_false, if_true, if_false, Bool.not_true, Bool.not_false, Bool.false_eq_true, Bool.true_eq_false, not_true_eq_false, not_false_eq_true, ↓reduceIte, List.nil_append, kf, subv, subl, eta2]
theorem k_rQuo {a b : Int × Int} (ha : Small a) (hb : Small b) (w : Bool) : ref02xWay_Quo a b w = some ((quov a b, ()), (w || quol a b, ())) := by
  have h := ha.bds hb
  simp only [ref02xWay_Quo, T_ref02xWay_Quo]
  by_cases hz : b.1 = 0
  · simp (maxSteps := 1000000) (disch := first | omega | assumption) only [↓r_ret, ↓r_fail, ↓r_br, ↓r_bind, ↓r_iter, ↓r_req, decide_eq_true_eq, Bool.not_eq_eq_eq_not, decide_eq_false_iff_not, ite_not, inB_t', app_t', bnd_t', str_t', nz_t, Int.reduceEq, Int.reduceLT, Int.reduceLE, w64', Option.bind_some, Option.bind_none, List.length_cons, List.length_nil, List.length_append, Nat.zero_add, if_pos, if_neg, decide_true, decide_false, if_true, if_false, Bool.not_true, Bool.not_false, Bool.false_eq_true, Bool.true_eq_false, not_true_eq_false, not_false_eq_true, ↓reduceIte, List.nil_append, hz, quov, quol, Bool.or_true]
  · have hd : a.2 * b.1 ≠ 0 := Int.mul_ne_zero (by have := ha.1.1; omega) hz
    have kf := k_fit (n := a.1 * b.2) (d := a.2 * b.1) w hd (by omega) (by omega) (by omega) (by omega)
    simp (maxSteps := 1000000) (disch := first | omega | assumption) only [↓r_ret, ↓r_fail, ↓r_br, ↓r_bind, ↓r_iter, ↓r_req, decide_eq_true_eq, Bool.not_eq_eq_eq_not, decide_eq_false_iff_not, ite_not, inB_t', app_t', bnd_t', str_t', nz_t, Int.reduceEq, Int.reduceLT, Int.reduceLE, w64', Option.bind_some, Option.bind_none, List.length_cons, List.length_nil, List.length_append, Nat.zero_add, if_pos, if_neg, decide_true, decide_false, if_true, if_false, Bool.not_true, Bool.not_false, Bool.false_eq_true, Bool.true_eq_false, not_true_eq_false, not_false_eq_true, ↓reduceIte, List.nil_append, kf, hz, quov, quol, eta2]

/-- What a counter's error is. -/
def e8 (l : Bool) : Int := if l = true then 8 else 0
/-- What the program has is small, and is what it ought to be as long as there is no error. -/
structure Agree (l : Bool) (v v' : Int × Int) : Prop where
  small : Small v'
  same : l = false → v' = v
theorem Agree.self {l : Bool} {v : Int × Int} (h : Small v) : Agree l v v := ⟨h, fun _ => rfl⟩
theorem Agree.up {l l' : Bool} {v v' : Int × Int} (h : Agree l v v') (hl : l' = false → l = false) : Agree l' v v' := ⟨h.small, fun h' => h.same (hl h')⟩

/-- A valid fraction that is kept. -/
theorem keep_valid {l : Bool} {n d n' d' : Int} (h : l = false → n' = n ∧ d' = d) : ∃ v', Agree (l || lg n d) (fv n d) v' ∧
    optics_counter_keep (if Small (low n' d') then low n' d' else (0, 0)) (if Small (low n' d') then 0 else 8) (e8 l) = some ((v', ()), (e8 (l || lg n d), ())) := by
  rw [k_keep]
  cases l with
  | true => exact ⟨(0, 1), ⟨small_one (by decide) (by decide), fun h => by cases h⟩, rfl⟩
  | false =>
    obtain ⟨rfl, rfl⟩ := h rfl
    by_cases hs : Small (low n' d')
    · refine ⟨low n' d', ⟨hs, fun _ => by simp only [fv, hs, if_true]⟩, ?_⟩
      simp only [e8, lg, hs, if_true, decide_true, Bool.not_true, Bool.or_self, Bool.false_eq_true, if_false, and_self]
    · refine ⟨(0, 1), ⟨small_one (by decide) (by decide), fun h => by simp only [lg, hs, decide_false, Bool.not_false, Bool.or_true] at h; cases h⟩, ?_⟩
      simp only [e8, lg, hs, if_true, decide_false, Bool.not_false, Bool.or_true, Bool.false_eq_true, if_false]
      rfl

theorem k_Mul {a b : Int × Int} (ha : Small a) (hb : Small b) : number_Mul a b = some ((if Small (low (a.1 * b.1) (a.2 * b.2)) then low (a.1 * b.1) (a.2 * b.2) else (0, 0), if Small (low (a.1 * b.1) (a.2 * b.2)) then 0 else 8, ()), ()) := by
  have h := ha.bds hb
  have kv := k_valid (n := a.1 * b.1) (d := a.2 * b.2) (by omega) (by omega) (by omega) (by omega) (by omega)
  simp only [number_Mul, T_number_Mul]
  simp (maxSteps := 1000000) (disch := first | omega | assumption) only [↓r_ret, ↓r_fail, ↓r_br, ↓r_bind, ↓r_iter, ↓r_req, decide_eq_true_eq, Bool.not_eq_eq_eq_not, decide_eq_false_iff_not, ite_not, inB_t', app_t', bnd_t', str_t', nz_t, Int.reduceEq, Int.reduceLT, Int.reduceLE, w64', Option.bind_some, Option.bind_none, List.length_cons, List.length_nil, List.length_append, Nat.zero_add, if_pos, if_neg, decide_true, decide_false, if_true, if_false, Bool.not_true, Bool.not_false, Bool.false_eq_true, Bool.true_eq_false, not_true_eq_false, not_false_eq_true, ↓reduceIte, List.nil_append, k_check2 ha hb, kv, eta2]
theorem k_Add {a b : Int × Int} (ha : Small a) (hb : Small b) : number_Add a b = some ((if Small (low (a.1 * b.2 + b.1 * a.2) (a.2 * b.2)) then low (a.1 * b.2 + b.1 * a.2) (a.2 * b.2) else (0, 0), if Small (low (a.1 * b.2 + b.1 * a.2) (a.2 * b.2)) then 0 else 8, ()), ()) := by
  have h := ha.bds hb
  have kv := k_valid (n := a.1 * b.2 + b.1 * a.2) (d := a.2 * b.2) (by omega) (by omega) (by omega) (by omega) (by omega)
  simp only [number_Add, T_number_Add]
  simp (maxSteps := 1000000) (disch := first | omega | assumption) only [↓r_ret, ↓r_fail, ↓r_br, ↓r_bind, ↓r_iter, ↓r_req, decide_eq_true_eq, Bool.not_eq_eq_eq_not, decide_eq_false_iff_not, ite_not, inB_t', app_t', bnd_t', str_t', nz_t, Int.reduceEq, Int.reduceLT, Int.reduceLE, w64', Option.bind_some, Option.bind_none, List.length_cons, List.length_nil, List.length_append, Nat.zero_add, if_pos, if_neg, decide_true, decide_false, if_true, if_false, Bool.not_true, Bool.not_false, Bool.false_eq_true, Bool.true_eq_false, not_true_eq_false, not_false_eq_true, ↓reduceIte, List.nil_append, k_check2 ha hb, kv, eta2]
theorem k_Sub {a b : Int × Int} (ha : Small a) (hb : Small b) : number_Sub a b = some ((if Small (low (a.1 * b.2 - b.1 * a.2) (a.2 * b.2)) then low (a.1 * b.2 - b.1 * a.2) (a.2 * b.2) else (0, 0), if Small (low (a.1 * b.2 - b.1 * a.2) (a.2 * b.2)) then 0 else 8, ()), ()) := by
  have h := ha.bds hb
  have kv := k_valid (n := a.1 * b.2 - b.1 * a.2) (d := a.2 * b.2) (by omega) (by omega) (by omega) (by omega) (by omega)
  simp only [number_Sub, T_number_Sub]
  simp (maxSteps := 1000000) (disch := first | omega | assumption) only [↓r_ret, ↓r_fail, ↓r_br, ↓r_bind, ↓r_iter, ↓r_req, decide_eq_true_eq, Bool.not_eq_eq_eq_not, decide_eq_false_iff_not, ite_not, inB_t', app_t', bnd_t', str_t', nz_t, Int.reduceEq, Int.reduceLT, Int.reduceLE, w64', Option.bind_some, Option.bind_none, List.length_cons, List.length_nil, List.length_append, Nat.zero_add, if_pos, if_neg, decide_true, decide_false, if_true, if_false, Bool.not_true, Bool.not_false, Bool.false_eq_true, Bool.true_eq_false, not_true_eq_false, not_false_eq_true, ↓reduceIte, List.nil_append, k_check2 ha hb, kv, eta2]
theorem k_Quo {a b : Int × Int} (ha : Small a) (hb : Small b) (hz : b.1 ≠ 0) : number_Quo a b = some ((if Small (low (a.1 * b.2) (a.2 * b.1)) then low (a.1 * b.2) (a.2 * b.1) else (0, 0), if Small (low (a.1 * b.2) (a.2 * b.1)) then 0 else 8, ()), ()) := by
  have h := ha.bds hb
  have hd : a.2 * b.1 ≠ 0 := Int.mul_ne_zero (by have := ha.1.1; omega) hz
  have kv := k_valid (n := a.1 * b.2) (d := a.2 * b.1) hd (by omega) (by omega) (by omega) (by omega)
  simp only [number_Quo, T_number_Quo]
  simp (maxSteps := 1000000) (disch := first | omega | assumption) only [↓r_ret, ↓r_fail, ↓r_br, ↓r_bind, ↓r_iter, ↓r_req, decide_eq_true_eq, Bool.not_eq_eq_eq_not, decide_eq_false_iff_not, ite_not, inB_t', app_t', bnd_t', str_t', nz_t, Int.reduceEq, Int.reduceLT, Int.reduceLE, w64', Option.bind_some, Option.bind_none, List.length_cons, List.length_nil, List.length_append, Nat.zero_add, if_pos, if_neg, decide_true, decide_false, if_true, if_false, Bool.not_true, Bool.not_false, Bool.false_eq_true, Bool.true_eq_false, not_true_eq_false, not_false_eq_true, ↓reduceIte, List.nil_append, k_check2 ha hb, kv, hz, eta2]
theorem k_Quo0 {a b : Int × Int} (ha : Small a) (hb : Small b) (hz : b.1 = 0) : number_Quo a b = some (((0, 0), 11, ()), ()) := by
  have c : decide (b.1 = 0) = true := decide_eq_true hz
  simp only [number_Quo, T_number_Quo, c]
  simp (maxSteps := 1000000) (disch := first | omega | assumption) only [↓r_ret, ↓r_fail, ↓r_br, ↓r_bind, ↓r_iter, ↓r_req, decide_eq_true_eq, Bool.not_eq_eq_eq_not, decide_eq_false_iff_not, ite_not, inB_t', app_t', bnd_t', str_t', nz_t, Int.reduceEq, Int.reduceLT, Int.reduceLE, w64', Option.bind_some, Option.bind_none, List.length_cons, List.length_nil, List.length_append, Nat.zero_add, if_pos, if_neg, decide_true, decide_false, if_true, if_false, Bool.not_true, Bool.not_false, Bool.false_eq_true, Bool.true_eq_false, not_true_eq_false, not_false_eq_true, ↓reduceIte, List.nil_append, k_check2 ha hb, eta2]

theorem c_mul {l : Bool} {a a' b b' : Int × Int} (ha : Agree l a a') (hb : Agree l b b') : ∃ v', Agree (l || mull a b) (mulv a b) v' ∧ optics_counter_mul a' b' (e8 l) = some ((v', ()), (e8 (l || mull a b), ())) := by
  obtain ⟨v', h1, h2⟩ := keep_valid (l := l) (n := a.1 * b.1) (d := a.2 * b.2) (n' := a'.1 * b'.1) (d' := a'.2 * b'.2) (fun h => by rw [ha.same h, hb.same h]; exact ⟨rfl, rfl⟩)
  refine ⟨v', h1, ?_⟩
  simp only [optics_counter_mul, T_optics_counter_mul]
  simp (maxSteps := 1000000) (disch := first | omega | assumption) only [↓r_ret, ↓r_fail, ↓r_br, ↓r_bind, ↓r_iter, ↓r_req, decide_eq_true_eq, Bool.not_eq_eq_eq_not, decide_eq_false_iff_not, ite_not, inB_t', app_t', bnd_t', str_t', nz_t, Int.reduceEq, Int.reduceLT, Int.reduceLE, w64', Option.bind_some, Option.bind_none, List.length_cons, List.length_nil, List.length_append, Nat.zero_add, if_pos, if_neg, decide_true, decide_false, if_true, if_false, Bool.not_true, Bool.not_false, Bool.false_eq_true, Bool.true_eq_false, not_true_eq_false, not_false_eq_true, ↓reduceIte, List.nil_append, k_Mul ha.small hb.small, eta2, h2]
  rfl
theorem c_add {l : Bool} {a a' b b' : Int × Int} (ha : Agree l a a') (hb : Agree l b b') : ∃ v', Agree (l || addl a b) (addv a b) v' ∧ optics_counter_add a' b' (e8 l) = some ((v', ()), (e8 (l || addl a b), ())) := by
  obtain ⟨v', h1, h2⟩ := keep_valid (l := l) (n := a.1 * b.2 + b.1 * a.2) (d := a.2 * b.2) (n' := a'.1 * b'.2 + b'.1 * a'.2) (d' := a'.2 * b'.2) (fun h => by rw [ha.same h, hb.same h]; exact ⟨rfl, rfl⟩)
  refine ⟨v', h1, ?_⟩
  simp only [optics_counter_add, T_optics_counter_add]
  simp (maxSteps := 1000000) (disch := first | omega | assumption) only [↓r_ret, ↓r_fail, ↓r_br, ↓r_bind, ↓r_iter, ↓r_req, decide_eq_true_eq, Bool.not_eq_eq_eq_not, decide_eq_false_iff_not, ite_not, inB_t', app_t', bnd_t', str_t', nz_t, Int.reduceEq, Int.reduceLT, Int.reduceLE, w64', Option.bind_some, Option.bind_none, List.length_cons, List.length_nil, List.length_append, Nat.zero_add, if_pos, if_neg, decide_true, decide_false, if_true, if_false, Bool.not_true, Bool.not_false, Bool.false_eq_true, Bool.true_eq_false, not_true_eq_false, not_false_eq_true, ↓reduceIte, List.nil_append, k_Add ha.small hb.small, eta2, h2]
  rfl
theorem c_sub {l : Bool} {a a' b b' : Int × Int} (ha : Agree l a a') (hb : Agree l b b') : ∃ v', Agree (l || subl a b) (subv a b) v' ∧ optics_counter_sub a' b' (e8 l) = some ((v', ()), (e8 (l || subl a b), ())) := by
  obtain ⟨v', h1, h2⟩ := keep_valid (l := l) (n := a.1 * b.2 - b.1 * a.2) (d := a.2 * b.2) (n' := a'.1 * b'.2 - b'.1 * a'.2) (d' := a'.2 * b'.2) (fun h => by rw [ha.same h, hb.same h]; exact ⟨rfl, rfl⟩)
  refine ⟨v', h1, ?_⟩
  simp only [optics_counter_sub, T_optics_counter_sub]
  simp (maxSteps := 1000000) (disch := first | omega | assumption) only [↓r_ret, ↓r_fail, ↓r_br, ↓r_bind, ↓r_iter, ↓r_req, decide_eq_true_eq, Bool.not_eq_eq_eq_not, decide_eq_false_iff_not, ite_not, inB_t', app_t', bnd_t', str_t', nz_t, Int.reduceEq, Int.reduceLT, Int.reduceLE, w64', Option.bind_some, Option.bind_none, List.length_cons, List.length_nil, List.length_append, Nat.zero_add, if_pos, if_neg, decide_true, decide_false, if_true, if_false, Bool.not_true, Bool.not_false, Bool.false_eq_true, Bool.true_eq_false, not_true_eq_false, not_false_eq_true, ↓reduceIte, List.nil_append, k_Sub ha.small hb.small, eta2, h2]
  rfl
theorem c_quo {l : Bool} {a a' b b' : Int × Int} (ha : Agree l a a') (hb : Agree l b b') (hz : l = false → b.1 ≠ 0) : ∃ v', Agree (l || quol a b) (quov a b) v' ∧ optics_counter_quo a' b' (e8 l) = some ((v', ()), (e8 (l || quol a b), ())) := by
  by_cases hz' : b'.1 = 0
  · have hl : l = true := by
      cases l with
      | true => rfl
      | false => exact absurd (by rw [← hb.same rfl]; exact hz') (hz rfl)
    subst hl
    refine ⟨(0, 1), ⟨small_one (by decide) (by decide), fun h => by cases h⟩, ?_⟩
    simp only [optics_counter_quo, T_optics_counter_quo]
    simp (maxSteps := 1000000) (disch := first | omega | assumption) only [↓r_ret, ↓r_fail, ↓r_br, ↓r_bind, ↓r_iter, ↓r_req, decide_eq_true_eq, Bool.not_eq_eq_eq_not, decide_eq_false_iff_not, ite_not, inB_t', app_t', bnd_t', str_t', nz_t, Int.reduceEq, Int.reduceLT, Int.reduceLE, w64', Option.bind_some, Option.bind_none, List.length_cons, List.length_nil, List.length_append, Nat.zero_add, if_pos, if_neg, decide_true, decide_false, if_true, if_false, Bool.not_true, Bool.not_false, Bool.false_eq_true, Bool.true_eq_false, not_true_eq_false, not_false_eq_true, ↓reduceIte, List.nil_append, k_Quo0 ha.small hb.small hz', eta2, k_keep]
    rfl
  · obtain ⟨v', h1, h2⟩ := keep_valid (l := l) (n := a.1 * b.2) (d := a.2 * b.1) (n' := a'.1 * b'.2) (d' := a'.2 * b'.1) (fun h => by rw [ha.same h, hb.same h]; exact ⟨rfl, rfl⟩)
    have hk : optics_counter_quo a' b' (e8 l) = some ((v', ()), (e8 (l || lg (a.1 * b.2) (a.2 * b.1)), ())) := by
      simp only [optics_counter_quo, T_optics_counter_quo]
      simp (maxSteps := 1000000) (disch := first | omega | assumption) only [↓r_ret, ↓r_fail, ↓r_br, ↓r_bind, ↓r_iter, ↓r_req, decide_eq_true_eq, Bool.not_eq_eq_eq_not, decide_eq_false_iff_not, ite_not, inB_t', app_t', bnd_t', str_t', nz_t, Int.reduceEq, Int.reduceLT, Int.reduceLE, w64', Option.bind_some, Option.bind_none, List.length_cons, List.length_nil, List.length_append, Nat.zero_add, if_pos, if_neg, decide_true, decide_false, if_true, if_false, Bool.not_true, Bool.not_false, Bool.false_eq_true, Bool.true_eq_false, not_true_eq_false, not_false_eq_true, ↓reduceIte, List.nil_append, k_Quo ha.small hb.small hz', eta2, h2]
    cases l with
    | true => exact ⟨v', ⟨h1.small, fun h => by cases h⟩, hk⟩
    | false =>
      have := hz rfl
      refine ⟨v', ?_, ?_⟩
      · simp only [quol, quov, this, if_false]; exact h1
      · simp only [quol, this, if_false]; exact hk
end Go.Ab
