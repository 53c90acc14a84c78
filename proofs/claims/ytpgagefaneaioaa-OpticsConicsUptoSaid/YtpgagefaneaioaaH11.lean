/- The edge; OpticsConics answers true. -/
import Derived.Test.YtpgagefaneaioaaH9
namespace Go.Ab
open Go
set_option maxRecDepth 1000000
set_option maxHeartbeats 1000000
set_option linter.unusedVariables false
set_option linter.unusedSimpArgs false
attribute [local congr] bindC iterC

theorem awake_ok : law02xawake = some ((true, ()), ()) := by kernel_rfl

def edV (c : Con) : Int := if c.2.1 + c.2.2 ≤ 0 then 1000000 else min 1000000 (rt (c.2.2 * ab c.1 * ab c.1 / (c.2.1 + c.2.2)))
theorem sq_ab (q R : Int) : q * ab R * ab R = q * R * R ∧ 0 ≤ R * R := by
  unfold ab
  rcases Int.le_total 0 R with h | h
  · rw [show max R (-R) = R by omega]; exact ⟨rfl, Int.mul_nonneg h h⟩
  · rw [show max R (-R) = -R by omega]; exact ⟨by grind, Int.mul_nonneg_of_nonpos_of_nonpos h h⟩
theorem edV_iff {c : Con} {m : Int} (h : ConOk c) (h0 : 0 ≤ m) (h1 : m ≤ 1000000) : m ≤ edV c ↔ ¬ bey c.1 c.2 m := by
  have q0 := h.q0
  obtain ⟨e, hp⟩ := sq_ab c.2.2 c.1
  have hq : 0 ≤ c.2.2 * c.1 * c.1 := by rw [Int.mul_assoc]; exact Int.mul_nonneg (by omega) hp
  have hm : 0 ≤ m * m := Int.mul_nonneg h0 h0
  unfold edV bey
  rw [e]
  split
  · rename_i hs
    have := Int.mul_nonneg (show 0 ≤ -(c.2.1 + c.2.2) by omega) hm
    have e2 : (c.2.1 + c.2.2) * m * m = -(-(c.2.1 + c.2.2) * (m * m)) := by grind
    omega
  · rename_i hs
    have hx : 0 ≤ c.2.2 * c.1 * c.1 / (c.2.1 + c.2.2) := Int.ediv_nonneg hq (by omega)
    have r := rt_iff hx h0
    rw [Int.le_ediv_iff_mul_le (show 0 < c.2.1 + c.2.2 by omega)] at r
    have e2 : (c.2.1 + c.2.2) * m * m = m * m * (c.2.1 + c.2.2) := by grind
    omega
theorem edV_bd {c : Con} (h : ConOk c) : 0 ≤ edV c ∧ edV c ≤ 1000000 := by
  have q0 := h.q0
  obtain ⟨e, hp⟩ := sq_ab c.2.2 c.1
  have hq : 0 ≤ c.2.2 * c.1 * c.1 := by rw [Int.mul_assoc]; exact Int.mul_nonneg (by omega) hp
  unfold edV
  split
  · omega
  · rename_i hs
    rw [e]
    have hx : 0 ≤ c.2.2 * c.1 * c.1 / (c.2.1 + c.2.2) := Int.ediv_nonneg hq (by omega)
    have := (rt_spec hx).1
    omega
theorem k_Edge {c : Con} (h : ConOk c) : optics_Edge c = some ((edV c, 0, ()), ()) := by
  have n1 := h.n1; have n2 := h.n2; have q0 := h.q0; have q1 := h.q1; have l1 := h.lo; have l2 := h.hi
  have kc := k_CheckConic (c := c) ⟨by omega, by omega⟩ ⟨by omega, by omega⟩
  rw [coE_of h] at kc
  have ks : optics_shapeOf c = some (((ab c.1, c.2.1 + c.2.2, c.2.2, decide (c.1 < 0)), ()), ()) := by
    simp only [optics_shapeOf, T_optics_shapeOf, ab]
    simp (maxSteps := 1000000) (disch := first | omega | assumption) only [↓r_ret, ↓r_fail, ↓r_br, ↓r_bind, ↓r_iter, ↓r_req, decide_eq_true_eq, Bool.not_eq_eq_eq_not, decide_eq_false_iff_not, ite_not, inB_t', app_t', bnd_t', str_t', nz_t, Int.reduceEq, Int.reduceLT, Int.reduceLE, w64', Option.bind_some, Option.bind_none, List.length_cons, List.length_nil, List.length_append, Nat.zero_add, if_pos, if_neg, decide_true, decide_false, if_true, if_false, Bool.not_true, Bool.not_false, Bool.false_eq_true, Bool.true_eq_false, not_true_eq_false, not_false_eq_true, ↓reduceIte, List.nil_append, Int.zero_sub]
  have p := prods (R := ab c.1) (r := 0) (k := c.2) (by unfold ab; omega) (by unfold ab; omega) n1 n2 q0 q1 (by omega) (by omega)
  obtain ⟨e, hp⟩ := sq_ab c.2.2 c.1
  have hq : 0 ≤ c.2.2 * ab c.1 * ab c.1 := by rw [e, Int.mul_assoc]; exact Int.mul_nonneg (by omega) hp
  simp only [optics_Edge, T_optics_Edge, edV]
  by_cases hs : c.2.1 + c.2.2 ≤ 0
  · generalize ab c.1 = R at *
    generalize decide (c.1 < 0) = t at *
    simp (maxSteps := 1000000) (disch := first | omega | assumption) only [↓r_ret, ↓r_fail, ↓r_br, ↓r_bind, ↓r_iter, ↓r_req, decide_eq_true_eq, Bool.not_eq_eq_eq_not, decide_eq_false_iff_not, ite_not, inB_t', app_t', bnd_t', str_t', nz_t, Int.reduceEq, Int.reduceLT, Int.reduceLE, w64', Option.bind_some, Option.bind_none, List.length_cons, List.length_nil, List.length_append, Nat.zero_add, if_pos, if_neg, decide_true, decide_false, if_true, if_false, Bool.not_true, Bool.not_false, Bool.false_eq_true, Bool.true_eq_false, not_true_eq_false, not_false_eq_true, ↓reduceIte, List.nil_append, kc, ks, hs, eta2]
  · have hx : 0 ≤ c.2.2 * ab c.1 * ab c.1 / (c.2.1 + c.2.2) := Int.ediv_nonneg hq (by omega)
    have hy := Int.ediv_le_self (c.2.1 + c.2.2) hq
    have kr := k_root hx (by omega)
    have nz' : c.2.1 + c.2.2 ≠ 0 := by omega
    have et : (c.2.2 * ab c.1 * ab c.1).tdiv (c.2.1 + c.2.2) = c.2.2 * ab c.1 * ab c.1 / (c.2.1 + c.2.2) := Int.tdiv_eq_ediv_of_nonneg hq
    generalize ab c.1 = R at *
    generalize decide (c.1 < 0) = t at *
    generalize hX : c.2.2 * R * R / (c.2.1 + c.2.2) = X at *
    simp (maxSteps := 1000000) (disch := first | omega | assumption) only [↓r_ret, ↓r_fail, ↓r_br, ↓r_bind, ↓r_iter, ↓r_req, decide_eq_true_eq, Bool.not_eq_eq_eq_not, decide_eq_false_iff_not, ite_not, inB_t', app_t', bnd_t', str_t', nz_t, Int.reduceEq, Int.reduceLT, Int.reduceLE, w64', Option.bind_some, Option.bind_none, List.length_cons, List.length_nil, List.length_append, Nat.zero_add, if_pos, if_neg, decide_true, decide_false, if_true, if_false, Bool.not_true, Bool.not_false, Bool.false_eq_true, Bool.true_eq_false, not_true_eq_false, not_false_eq_true, ↓reduceIte, List.nil_append, kc, ks, hs, nz', et, kr, eta2]
theorem k_EdgeE {c : Con} (i1 : I64 c.2.1) (i2 : I64 c.2.2) (h : ¬ coE c = 0) : optics_Edge c = some ((0, coE c, ()), ()) := by
  have kc := k_CheckConic i1 i2
  simp only [optics_Edge, T_optics_Edge]
  simp (maxSteps := 1000000) (disch := first | omega | assumption) only [↓r_ret, ↓r_fail, ↓r_br, ↓r_bind, ↓r_iter, ↓r_req, decide_eq_true_eq, Bool.not_eq_eq_eq_not, decide_eq_false_iff_not, ite_not, inB_t', app_t', bnd_t', str_t', nz_t, Int.reduceEq, Int.reduceLT, Int.reduceLE, w64', Option.bind_some, Option.bind_none, List.length_cons, List.length_nil, List.length_append, Nat.zero_add, if_pos, if_neg, decide_true, decide_false, if_true, if_false, Bool.not_true, Bool.not_false, Bool.false_eq_true, Bool.true_eq_false, not_true_eq_false, not_false_eq_true, ↓reduceIte, List.nil_append, kc, h, eta2]
theorem k_rEdge {c : Con} (h : ConOk c) : ref02xEdge c = some ((edV c, ()), ()) := by
  obtain ⟨v0, v1⟩ := edV_bd h
  simp only [ref02xEdge, T_ref02xEdge, r_iter]
  refine iter_eq (fun i y => ∃ lo hi : Int, y = (lo, hi, ()) ∧ 0 ≤ lo ∧ lo ≤ edV c ∧ edV c ≤ hi ∧ hi ≤ 1000000 ∧ hi - lo + i ≤ 1000000) _ 1000000 (by omega) ?_ ⟨0, 1000000, rfl, by omega, by omega, by omega, by omega, by omega⟩
  rintro i y hi ⟨lo, hh, rfl, a1, a2, a3, a4, a5⟩
  simp only [T_ref02xEdge_l0]
  by_cases d : lo < hh
  · left
    have f1 : IntKind.i64.wrap (lo + hh) = lo + hh := w64' (by omega) (by omega)
    have f2 : IntKind.i64.wrap (lo + hh + 1) = lo + hh + 1 := w64' (by omega) (by omega)
    have f3 : (lo + hh + 1).tdiv 2 = (lo + hh + 1) / 2 := Int.tdiv_eq_ediv_of_nonneg (by omega)
    have f4 : IntKind.i64.wrap ((lo + hh + 1) / 2) = (lo + hh + 1) / 2 := w64' (by omega) (by omega)
    simp only [f1, f2, f3, f4]
    generalize hm' : (lo + hh + 1) / 2 = m at *
    have f6 : IntKind.i64.wrap (m - 1) = m - 1 := w64' (by omega) (by omega)
    have kb := k_Beyond (r := m) h (by omega) (by omega)
    have ri := edV_iff (m := m) h (by omega) (by omega)
    simp only [f6, eta2]
    by_cases b : bey c.1 c.2 m
    · have : ¬ m ≤ edV c := fun h => ri.1 h b
      exact ⟨_, (br_t (decide_eq_true d)).trans ((q_of (show nz 2 = true from rfl)).trans ((r_bs kb).trans ((br_t (decide_eq_true b)).trans (r_ret _)))), by omega, lo, m - 1, rfl, by omega, by omega, by omega, by omega, by omega⟩
    · exact ⟨_, (br_t (decide_eq_true d)).trans ((q_of (show nz 2 = true from rfl)).trans ((r_bs kb).trans ((br_f (decide_eq_false b)).trans (r_ret _)))), by omega, m, hh, rfl, by omega, ri.2 b, by omega, by omega, by omega⟩
  · right
    have e : lo = edV c := by omega
    rw [e]
    exact (br_f (decide_eq_false (by omega))).trans (r_ret _)

theorem k_OpticsConics {c : (Int × (Int × Int))} (b0 : bulkT (.pair (.int .i64) (.pair (.int .i64) (.int .i64))) c ≤ 1048576) (w0 : wfT (.pair (.int .i64) (.pair (.int .i64) (.int .i64))) c) : law02xOpticsConics c = some ((true, ()), ()) := by
  have i1 : I64 c.2.1 := w0.2.1
  have i2 : I64 c.2.2 := w0.2.2
  have kc := k_rCheckConic i1 i2
  have kd := k_CheckConic i1 i2
  simp only [law02xOpticsConics, T_law02xOpticsConics]
  by_cases h : coE c = 0
  · have ho := coE_ok h
    have k1 := k_Edge ho
    have k2 := k_rEdge ho
    generalize edV c = x1 at *
    simp (maxSteps := 1000000) (disch := first | omega | assumption) only [↓r_ret, ↓r_fail, ↓r_br, ↓r_bind, ↓r_iter, ↓r_req, decide_eq_true_eq, Bool.not_eq_eq_eq_not, decide_eq_false_iff_not, ite_not, inB_t', app_t', bnd_t', str_t', nz_t, Int.reduceEq, Int.reduceLT, Int.reduceLE, w64', Option.bind_some, Option.bind_none, List.length_cons, List.length_nil, List.length_append, Nat.zero_add, if_pos, if_neg, decide_true, decide_false, if_true, if_false, Bool.not_true, Bool.not_false, Bool.false_eq_true, Bool.true_eq_false, not_true_eq_false, not_false_eq_true, ↓reduceIte, List.nil_append, awake_ok, eta2, kc, kd, h, k1, k2]
  · have k1 := k_EdgeE i1 i2 h
    simp (maxSteps := 1000000) (disch := first | omega | assumption) only [↓r_ret, ↓r_fail, ↓r_br, ↓r_bind, ↓r_iter, ↓r_req, decide_eq_true_eq, Bool.not_eq_eq_eq_not, decide_eq_false_iff_not, ite_not, inB_t', app_t', bnd_t', str_t', nz_t, Int.reduceEq, Int.reduceLT, Int.reduceLE, w64', Option.bind_some, Option.bind_none, List.length_cons, List.length_nil, List.length_append, Nat.zero_add, if_pos, if_neg, decide_true, decide_false, if_true, if_false, Bool.not_true, Bool.not_false, Bool.false_eq_true, Bool.true_eq_false, not_true_eq_false, not_false_eq_true, ↓reduceIte, List.nil_append, awake_ok, eta2, kc, kd, h, k1]
end Go.Ab
