/- OpticsFoci answers true. -/
import Derived.Test.YtpgagefaneaioaaH5
import Derived.Test.YtpgagefaneaioaaQLOpticsFoci
namespace Go.Ab
open Go
set_option maxRecDepth 1000000
set_option maxHeartbeats 1000000
set_option linter.unusedVariables false
set_option linter.unusedSimpArgs false
attribute [local congr] bindC iterC

theorem wfM {m : Mx} (h : wfT (.pair (.pair (.int .i64) (.int .i64)) (.pair (.pair (.int .i64) (.int .i64)) (.pair (.pair (.int .i64) (.int .i64)) (.pair (.int .i64) (.int .i64))))) m) : IM m := h
theorem small_neg {f : Fr} (h : Small f) : Small (-f.1, f.2) := by
  obtain ⟨⟨h0, h0'⟩, h1, h2, h3⟩ := h
  refine ⟨⟨h0, ?_⟩, show -1000000000 ≤ -f.1 by omega, show -f.1 ≤ 1000000000 by omega, h3⟩
  unfold G at *; rw [Int.neg_gcd]; exact h0'
theorem k_minus {f : Fr} (h : Small f) : optics_minus f = some (((-f.1, f.2), ()), ()) := by
  obtain ⟨_, h1, h2, h3⟩ := h
  simp only [optics_minus, T_optics_minus]
  simp (maxSteps := 1000000) (disch := first | omega | assumption) only [↓r_ret, ↓r_fail, ↓r_br, ↓r_bind, ↓r_iter, ↓r_req, decide_eq_true_eq, Bool.not_eq_eq_eq_not, decide_eq_false_iff_not, ite_not, inB_t', app_t', bnd_t', str_t', nz_t, Int.reduceEq, Int.reduceLT, Int.reduceLE, w64', Option.bind_some, Option.bind_none, List.length_cons, List.length_nil, List.length_append, Nat.zero_add, if_pos, if_neg, decide_true, decide_false, if_true, if_false, Bool.not_true, Bool.not_false, Bool.false_eq_true, Bool.true_eq_false, not_true_eq_false, not_false_eq_true, ↓reduceIte, List.nil_append, Int.zero_sub]
theorem k_opposite {f : Fr} (h : Small f) : ref02xopposite f = some (((-f.1, f.2), ()), ()) := by
  obtain ⟨_, h1, h2, h3⟩ := h
  simp only [ref02xopposite, T_ref02xopposite]
  simp (maxSteps := 1000000) (disch := first | omega | assumption) only [↓r_ret, ↓r_fail, ↓r_br, ↓r_bind, ↓r_iter, ↓r_req, decide_eq_true_eq, Bool.not_eq_eq_eq_not, decide_eq_false_iff_not, ite_not, inB_t', app_t', bnd_t', str_t', nz_t, Int.reduceEq, Int.reduceLT, Int.reduceLE, w64', Option.bind_some, Option.bind_none, List.length_cons, List.length_nil, List.length_append, Nat.zero_add, if_pos, if_neg, decide_true, decide_false, if_true, if_false, Bool.not_true, Bool.not_false, Bool.false_eq_true, Bool.true_eq_false, not_true_eq_false, not_false_eq_true, ↓reduceIte, List.nil_append, Int.zero_sub]
def focV (f : Fr) (m : Mx) : Fr := if m.2.2.1.1 = 0 then (0, 0) else if (false || quol (-f.1, f.2) m.2.2.1) = true then (0, 0) else quov (-f.1, f.2) m.2.2.1
def focE (f : Fr) (m : Mx) : Int := if m.2.2.1.1 = 0 then 11 else e8 (false || quol (-f.1, f.2) m.2.2.1)
theorem k_by {f : Fr} {m : Mx} (hf : Small f) (hm : SmallM m) : ref02xby f m = some ((focV f m, focE f m, ()), ()) := by
  obtain ⟨m1, m2, m3, m4⟩ := hm
  have hn := small_neg hf
  simp only [ref02xby, T_ref02xby, focV, focE]
  by_cases c : m.2.2.1.1 = 0
  · have c' : decide (m.2.2.1.1 = 0) = true := decide_eq_true c
    simp only [c, c']
    simp (maxSteps := 1000000) (disch := first | assumption | exact small_mulv _ _ | exact small_addv _ _ | exact small_subv _ _ | exact small_quov _ _ | exact Small.i1 (by assumption) | exact Small.i2 (by assumption) | omega) only [↓r_ret, ↓r_fail, ↓r_br, ↓r_bind, ↓r_iter, ↓r_req, decide_eq_true_eq, Bool.not_eq_eq_eq_not, decide_eq_false_iff_not, ite_not, inB_t', app_t', bnd_t', str_t', nz_t, Int.reduceEq, Int.reduceLT, Int.reduceLE, w64', Option.bind_some, Option.bind_none, List.length_cons, List.length_nil, List.length_append, Nat.zero_add, if_pos, if_neg, decide_true, decide_false, if_true, if_false, Bool.not_true, Bool.not_false, Bool.false_eq_true, Bool.true_eq_false, not_true_eq_false, not_false_eq_true, ↓reduceIte, List.nil_append, eta2, ]
  · simp (maxSteps := 1000000) (disch := first | assumption | exact small_mulv _ _ | exact small_addv _ _ | exact small_subv _ _ | exact small_quov _ _ | exact Small.i1 (by assumption) | exact Small.i2 (by assumption) | omega) only [↓r_ret, ↓r_fail, ↓r_br, ↓r_bind, ↓r_iter, ↓r_req, decide_eq_true_eq, Bool.not_eq_eq_eq_not, decide_eq_false_iff_not, ite_not, inB_t', app_t', bnd_t', str_t', nz_t, Int.reduceEq, Int.reduceLT, Int.reduceLE, w64', Option.bind_some, Option.bind_none, List.length_cons, List.length_nil, List.length_append, Nat.zero_add, if_pos, if_neg, decide_true, decide_false, if_true, if_false, Bool.not_true, Bool.not_false, Bool.false_eq_true, Bool.true_eq_false, not_true_eq_false, not_false_eq_true, ↓reduceIte, List.nil_append, eta2, c, k_opposite, k_rQuo, k_fraction]
theorem k_over {f : Fr} {m : Mx} (hf : Small f) (hm : SmallM m) : optics_over m f = some ((focV f m, focE f m, ()), ()) := by
  obtain ⟨m1, m2, m3, m4⟩ := hm
  have hn := small_neg hf
  simp only [optics_over, T_optics_over, focV, focE]
  by_cases c : m.2.2.1.1 = 0
  · have c' : decide (m.2.2.1.1 = 0) = true := decide_eq_true c
    simp only [c, c']
    simp (maxSteps := 1000000) (disch := first | assumption | exact small_mulv _ _ | exact small_addv _ _ | exact small_subv _ _ | exact small_quov _ _ | exact Small.i1 (by assumption) | exact Small.i2 (by assumption) | omega) only [↓r_ret, ↓r_fail, ↓r_br, ↓r_bind, ↓r_iter, ↓r_req, decide_eq_true_eq, Bool.not_eq_eq_eq_not, decide_eq_false_iff_not, ite_not, inB_t', app_t', bnd_t', str_t', nz_t, Int.reduceEq, Int.reduceLT, Int.reduceLE, w64', Option.bind_some, Option.bind_none, List.length_cons, List.length_nil, List.length_append, Nat.zero_add, if_pos, if_neg, decide_true, decide_false, if_true, if_false, Bool.not_true, Bool.not_false, Bool.false_eq_true, Bool.true_eq_false, not_true_eq_false, not_false_eq_true, ↓reduceIte, List.nil_append, eta2, ]
  · obtain ⟨v, g, q⟩ := c_quo (l := false) (.self hn) (.self m3) (fun _ => c)
    rw [show e8 false = 0 from rfl] at q
    have kt := k_toldF v (false || quol (-f.1, f.2) m.2.2.1)
    simp (maxSteps := 1000000) (disch := first | assumption | exact small_mulv _ _ | exact small_addv _ _ | exact small_subv _ _ | exact small_quov _ _ | exact Small.i1 (by assumption) | exact Small.i2 (by assumption) | omega) only [↓r_ret, ↓r_fail, ↓r_br, ↓r_bind, ↓r_iter, ↓r_req, decide_eq_true_eq, Bool.not_eq_eq_eq_not, decide_eq_false_iff_not, ite_not, inB_t', app_t', bnd_t', str_t', nz_t, Int.reduceEq, Int.reduceLT, Int.reduceLE, w64', Option.bind_some, Option.bind_none, List.length_cons, List.length_nil, List.length_append, Nat.zero_add, if_pos, if_neg, decide_true, decide_false, if_true, if_false, Bool.not_true, Bool.not_false, Bool.false_eq_true, Bool.true_eq_false, not_true_eq_false, not_false_eq_true, ↓reduceIte, List.nil_append, eta2, c, k_minus, q, kt]
    generalize hL : (false || quol (-f.1, f.2) m.2.2.1) = L at *
    cases L with
    | true => rfl
    | false => rw [g.same rfl]
theorem k_Focal {m : Mx} (im : IM m) (hm : SmallM m) : optics_Focal m = some ((focV (1, 1) m, focE (1, 1) m, ()), ()) := by
  have kc := k_checkM1 im
  rw [cmE_zero.2 hm] at kc
  have ko := k_over (f := (1, 1)) (small_one (by decide) (by decide)) hm
  simp only [optics_Focal, T_optics_Focal]
  simp (maxSteps := 1000000) (disch := first | omega | assumption) only [↓r_ret, ↓r_fail, ↓r_br, ↓r_bind, ↓r_iter, ↓r_req, decide_eq_true_eq, Bool.not_eq_eq_eq_not, decide_eq_false_iff_not, ite_not, inB_t', app_t', bnd_t', str_t', nz_t, Int.reduceEq, Int.reduceLT, Int.reduceLE, w64', Option.bind_some, Option.bind_none, List.length_cons, List.length_nil, List.length_append, Nat.zero_add, if_pos, if_neg, decide_true, decide_false, if_true, if_false, Bool.not_true, Bool.not_false, Bool.false_eq_true, Bool.true_eq_false, not_true_eq_false, not_false_eq_true, ↓reduceIte, List.nil_append, kc, k_owhole, ko, eta2]
theorem k_BackFocus {m : Mx} (im : IM m) (hm : SmallM m) : optics_BackFocus m = some ((focV m.1 m, focE m.1 m, ()), ()) := by
  have kc := k_checkM1 im
  rw [cmE_zero.2 hm] at kc
  have ko := k_over hm.1 hm
  simp only [optics_BackFocus, T_optics_BackFocus]
  simp (maxSteps := 1000000) (disch := first | omega | assumption) only [↓r_ret, ↓r_fail, ↓r_br, ↓r_bind, ↓r_iter, ↓r_req, decide_eq_true_eq, Bool.not_eq_eq_eq_not, decide_eq_false_iff_not, ite_not, inB_t', app_t', bnd_t', str_t', nz_t, Int.reduceEq, Int.reduceLT, Int.reduceLE, w64', Option.bind_some, Option.bind_none, List.length_cons, List.length_nil, List.length_append, Nat.zero_add, if_pos, if_neg, decide_true, decide_false, if_true, if_false, Bool.not_true, Bool.not_false, Bool.false_eq_true, Bool.true_eq_false, not_true_eq_false, not_false_eq_true, ↓reduceIte, List.nil_append, kc, k_owhole, ko, eta2]
theorem k_FocalE {m : Mx} (im : IM m) (h : ¬ cmE m = 0) : optics_Focal m = some (((0, 0), cmE m, ()), ()) := by
  have kc := k_checkM1 im
  simp only [optics_Focal, T_optics_Focal]
  simp (maxSteps := 1000000) (disch := first | omega | assumption) only [↓r_ret, ↓r_fail, ↓r_br, ↓r_bind, ↓r_iter, ↓r_req, decide_eq_true_eq, Bool.not_eq_eq_eq_not, decide_eq_false_iff_not, ite_not, inB_t', app_t', bnd_t', str_t', nz_t, Int.reduceEq, Int.reduceLT, Int.reduceLE, w64', Option.bind_some, Option.bind_none, List.length_cons, List.length_nil, List.length_append, Nat.zero_add, if_pos, if_neg, decide_true, decide_false, if_true, if_false, Bool.not_true, Bool.not_false, Bool.false_eq_true, Bool.true_eq_false, not_true_eq_false, not_false_eq_true, ↓reduceIte, List.nil_append, kc, h, eta2]
theorem k_BackFocusE {m : Mx} (im : IM m) (h : ¬ cmE m = 0) : optics_BackFocus m = some (((0, 0), cmE m, ()), ()) := by
  have kc := k_checkM1 im
  simp only [optics_BackFocus, T_optics_BackFocus]
  simp (maxSteps := 1000000) (disch := first | omega | assumption) only [↓r_ret, ↓r_fail, ↓r_br, ↓r_bind, ↓r_iter, ↓r_req, decide_eq_true_eq, Bool.not_eq_eq_eq_not, decide_eq_false_iff_not, ite_not, inB_t', app_t', bnd_t', str_t', nz_t, Int.reduceEq, Int.reduceLT, Int.reduceLE, w64', Option.bind_some, Option.bind_none, List.length_cons, List.length_nil, List.length_append, Nat.zero_add, if_pos, if_neg, decide_true, decide_false, if_true, if_false, Bool.not_true, Bool.not_false, Bool.false_eq_true, Bool.true_eq_false, not_true_eq_false, not_false_eq_true, ↓reduceIte, List.nil_append, kc, h, eta2]
theorem k_rFocal {m : Mx} (hm : SmallM m) : ref02xFocal m = some ((focV (1, 1) m, focE (1, 1) m, ()), ()) := by
  have ko := k_by (f := (1, 1)) (small_one (by decide) (by decide)) hm
  simp only [ref02xFocal, T_ref02xFocal]
  simp (maxSteps := 1000000) (disch := first | omega | assumption) only [↓r_ret, ↓r_fail, ↓r_br, ↓r_bind, ↓r_iter, ↓r_req, decide_eq_true_eq, Bool.not_eq_eq_eq_not, decide_eq_false_iff_not, ite_not, inB_t', app_t', bnd_t', str_t', nz_t, Int.reduceEq, Int.reduceLT, Int.reduceLE, w64', Option.bind_some, Option.bind_none, List.length_cons, List.length_nil, List.length_append, Nat.zero_add, if_pos, if_neg, decide_true, decide_false, if_true, if_false, Bool.not_true, Bool.not_false, Bool.false_eq_true, Bool.true_eq_false, not_true_eq_false, not_false_eq_true, ↓reduceIte, List.nil_append, k_rWhole, ko, eta2]
theorem k_rBackFocus {m : Mx} (hm : SmallM m) : ref02xBackFocus m = some ((focV m.1 m, focE m.1 m, ()), ()) := by
  have ko := k_by hm.1 hm
  simp only [ref02xBackFocus, T_ref02xBackFocus]
  simp (maxSteps := 1000000) (disch := first | omega | assumption) only [↓r_ret, ↓r_fail, ↓r_br, ↓r_bind, ↓r_iter, ↓r_req, decide_eq_true_eq, Bool.not_eq_eq_eq_not, decide_eq_false_iff_not, ite_not, inB_t', app_t', bnd_t', str_t', nz_t, Int.reduceEq, Int.reduceLT, Int.reduceLE, w64', Option.bind_some, Option.bind_none, List.length_cons, List.length_nil, List.length_append, Nat.zero_add, if_pos, if_neg, decide_true, decide_false, if_true, if_false, Bool.not_true, Bool.not_false, Bool.false_eq_true, Bool.true_eq_false, not_true_eq_false, not_false_eq_true, ↓reduceIte, List.nil_append, k_rWhole, ko, eta2]
theorem SmallM.i {m : Mx} (h : SmallM m) : IM m := ⟨h.1.i, h.2.1.i, h.2.2.1.i, h.2.2.2.i⟩
theorem focV_small {f : Fr} {m : Mx} (h : focE f m = 0) : Small (focV f m) := by
  unfold focE at h
  unfold focV
  split at h
  · cases h
  · rename_i c
    rw [if_neg c]
    split at *
    · rename_i c2; rw [c2] at h; cases h
    · exact small_quov _ _
theorem quov_ne {a b : Fr} (ha : a.1 ≠ 0) (hb : b.1 ≠ 0) (ia : Small a) (ib : Small b) (h : quol a b = false) : (quov a b).1 ≠ 0 := by
  unfold quol at h
  unfold quov
  rw [if_neg hb] at h ⊢
  unfold lg at h
  unfold fv
  have hs : Small (low (a.1 * b.2) (a.2 * b.1)) := by simpa using h
  rw [if_pos hs]
  have hd : a.2 * b.1 ≠ 0 := Int.mul_ne_zero (by have := ia.1.1; omega) hb
  have hc := low_cross (n := a.1 * b.2) hd
  intro h0
  rw [h0, Int.zero_mul] at hc
  exact Int.mul_ne_zero (Int.mul_ne_zero ha (by have := ib.1.1; omega)) (by have := hs.1.1; omega) hc
theorem k_MatBoth {l : List (Int × Int)} (h : elE l = 0) : ∃ (m : Mx) (L : Bool), (L = false → SmallM m) ∧ optics_MatrixOf l = some ((m, e8 L, ()), ()) ∧ ref02xMatrixOf l = some ((m, e8 L, ()), ()) := by
  refine ⟨matR l, (matP l l.length).1, fun hL => ?_, k_MatrixOf h, k_rMatrixOf h⟩
  have := matP_small l l.length
  unfold matR
  rw [if_neg (by rw [hL]; decide)]
  exact this
theorem k_Two (p s a : Int) : ∃ R : Mx × Int, optics_TwoMirrors p s a = some ((R.1, R.2, ()), ()) ∧ ref02xTwoMirrors p s a = some ((R.1, R.2, ()), ()) := by
  have kr := k_rCheckElements (l := [(2, p), (1, a), (2, s)]) (by simp)
  by_cases h : elE [(2, p), (1, a), (2, s)] = 0
  · obtain ⟨m, L, sm, km, kq⟩ := k_MatBoth h
    rw [h] at kr
    have hp : (p ≠ 0 ∧ -10000000 ≤ p ∧ p ≤ 10000000) ∧ 0 ≤ a ∧ a ≤ 10000000 := by
      have h2 := (elE_ok h).2
      obtain ⟨_, ⟨a1, a2⟩, _, a4⟩ := h2 0 (by simp)
      obtain ⟨_, ⟨b1, b2⟩, b3, _⟩ := h2 1 (by simp)
      exact ⟨⟨a4 (show (2 : Int) ≠ 1 by decide), a1, a2⟩, b3 rfl, b2⟩
    obtain ⟨⟨p0, p1, p2⟩, a1, a2⟩ := hp
    cases L with
    | true =>
      rw [show e8 true = 8 from rfl] at km kq
      refine ⟨(zero4, 8), ?_, ?_⟩
      · simp only [optics_TwoMirrors, T_optics_TwoMirrors]
        simp (maxSteps := 1000000) (disch := first | omega | assumption) only [↓r_ret, ↓r_fail, ↓r_br, ↓r_bind, ↓r_iter, ↓r_req, decide_eq_true_eq, Bool.not_eq_eq_eq_not, decide_eq_false_iff_not, ite_not, inB_t', app_t', bnd_t', str_t', nz_t, Int.reduceEq, Int.reduceLT, Int.reduceLE, w64', Option.bind_some, Option.bind_none, List.length_cons, List.length_nil, List.length_append, Nat.zero_add, if_pos, if_neg, decide_true, decide_false, if_true, if_false, Bool.not_true, Bool.not_false, Bool.false_eq_true, Bool.true_eq_false, not_true_eq_false, not_false_eq_true, ↓reduceIte, List.nil_append, km, zero4]
      · simp only [ref02xTwoMirrors, T_ref02xTwoMirrors]
        simp (maxSteps := 1000000) (disch := first | omega | assumption) only [↓r_ret, ↓r_fail, ↓r_br, ↓r_bind, ↓r_iter, ↓r_req, decide_eq_true_eq, Bool.not_eq_eq_eq_not, decide_eq_false_iff_not, ite_not, inB_t', app_t', bnd_t', str_t', nz_t, Int.reduceEq, Int.reduceLT, Int.reduceLE, w64', Option.bind_some, Option.bind_none, List.length_cons, List.length_nil, List.length_append, Nat.zero_add, if_pos, if_neg, decide_true, decide_false, if_true, if_false, Bool.not_true, Bool.not_false, Bool.false_eq_true, Bool.true_eq_false, not_true_eq_false, not_false_eq_true, ↓reduceIte, List.nil_append, kr, kq, zero4]
    | false =>
      have sm := sm rfl
      rw [show e8 false = 0 from rfl] at km kq
      have kF := k_Focal sm.i sm
      have kB := k_BackFocus sm.i sm
      have rF := k_rFocal sm
      have rB := k_rBackFocus sm
      by_cases c1 : focE (1, 1) m = 0
      · by_cases c2 : focE m.1 m = 0
        · have sF := focV_small c1
          rw [c1] at kF rF
          rw [c2] at kB rB
          generalize focV (1, 1) m = F at *
          generalize focV m.1 m = B at *
          have sp : Small (p, 1) := small_one (by omega) (by omega)
          have s2 : Small (2, 1) := small_one (by decide) (by decide)
          have s1 : Small (1, 1) := small_one (by decide) (by decide)
          have sa : Small (2 * a, 1) := small_one (by omega) (by omega)
          have ea : IntKind.i64.wrap (2 * a) = 2 * a := w64' (by omega) (by omega)
          obtain ⟨v1, g1, q1⟩ := c_quo (l := false) (.self sp) (.self s2) (fun _ => by decide)
          obtain ⟨v2, g2, q2⟩ := c_quoA g1 (.self sF) g1 (fun hl => quov_ne p0 (show (2 : Int) ≠ 0 by decide) sp s2 (by simpa using hl))
          obtain ⟨v3, g3, q3⟩ := c_quoA g2 (.self sa) (.self sp) (fun _ => p0)
          obtain ⟨v4, g4, q4⟩ := c_subA g3 (.self s1) g3
          rw [show e8 false = 0 from rfl] at q1
          have r1 := k_rQuo sp s2 false
          have r2 := k_rQuo sF (small_quov (p, 1) (2, 1)) (false || quol (p, 1) (2, 1))
          have r3 := k_rQuo sa sp (false || quol (p, 1) (2, 1) || quol F (quov (p, 1) (2, 1)))
          have r4 := k_rSub s1 (small_quov (2 * a, 1) (p, 1)) (false || quol (p, 1) (2, 1) || quol F (quov (p, 1) (2, 1)) || quol (2 * a, 1) (p, 1))
          have s2 := (g2.o (x := quol (2 * a, 1) (p, 1))).o (x := subl (1, 1) (quov (2 * a, 1) (p, 1)))
          generalize hL4 : (false || quol (p, 1) (2, 1) || quol F (quov (p, 1) (2, 1)) || quol (2 * a, 1) (p, 1) || subl (1, 1) (quov (2 * a, 1) (p, 1))) = L4 at *
          have kt := k_toldP (F, B, v2, v4) L4
          refine ⟨(if L4 = true then zero4 else (F, B, quov F (quov (p, 1) (2, 1)), subv (1, 1) (quov (2 * a, 1) (p, 1))), e8 L4), ?_, ?_⟩
          · simp only [optics_TwoMirrors, T_optics_TwoMirrors]
            refine (r_bs km).trans ?_
            refine (br_f rfl).trans ?_
            refine (r_bs kF).trans ?_
            refine (br_f rfl).trans ?_
            refine (r_bs kB).trans ?_
            refine (br_f rfl).trans ?_
            refine (r_bs (k_owhole p)).trans ?_
            refine (r_bs (k_owhole 2)).trans ?_
            refine (r_bs q1).trans ?_
            refine (r_bs q2).trans ?_
            refine (r_bs (k_owhole 1)).trans ?_
            rw [ea]
            refine (r_bs (k_owhole (2 * a))).trans ?_
            refine (r_bs (k_owhole p)).trans ?_
            refine (r_bs q3).trans ?_
            refine (r_bs q4).trans ?_
            refine (r_bs kt).trans ?_
            refine (r_ret _).trans ?_
            cases L4 with
            | true => rfl
            | false => rw [s2.same rfl, g4.same rfl]; rfl
          · simp only [ref02xTwoMirrors, T_ref02xTwoMirrors]
            refine (r_bs kr).trans ?_
            refine (br_f rfl).trans ?_
            refine (r_bs kq).trans ?_
            refine (br_f rfl).trans ?_
            refine (r_bs rF).trans ?_
            refine (br_f rfl).trans ?_
            refine (r_bs rB).trans ?_
            refine (br_f rfl).trans ?_
            refine (r_bs (k_rWhole p)).trans ?_
            refine (r_bs (k_rWhole 2)).trans ?_
            refine (r_bs r1).trans ?_
            refine (r_bs r2).trans ?_
            refine (r_bs (k_rWhole 1)).trans ?_
            rw [ea]
            refine (r_bs (k_rWhole (2 * a))).trans ?_
            refine (r_bs (k_rWhole p)).trans ?_
            refine (r_bs r3).trans ?_
            refine (r_bs r4).trans ?_
            cases L4 with
            | true => exact (br_t rfl).trans (r_ret _)
            | false => exact (br_f rfl).trans (r_ret _)
        · refine ⟨(zero4, focE m.1 m), ?_, ?_⟩
          · simp only [optics_TwoMirrors, T_optics_TwoMirrors]
            simp (maxSteps := 1000000) (disch := first | omega | assumption) only [↓r_ret, ↓r_fail, ↓r_br, ↓r_bind, ↓r_iter, ↓r_req, decide_eq_true_eq, Bool.not_eq_eq_eq_not, decide_eq_false_iff_not, ite_not, inB_t', app_t', bnd_t', str_t', nz_t, Int.reduceEq, Int.reduceLT, Int.reduceLE, w64', Option.bind_some, Option.bind_none, List.length_cons, List.length_nil, List.length_append, Nat.zero_add, if_pos, if_neg, decide_true, decide_false, if_true, if_false, Bool.not_true, Bool.not_false, Bool.false_eq_true, Bool.true_eq_false, not_true_eq_false, not_false_eq_true, ↓reduceIte, List.nil_append, km, zero4, kF, kB, c1, c2, eta2]
          · simp only [ref02xTwoMirrors, T_ref02xTwoMirrors]
            simp (maxSteps := 1000000) (disch := first | omega | assumption) only [↓r_ret, ↓r_fail, ↓r_br, ↓r_bind, ↓r_iter, ↓r_req, decide_eq_true_eq, Bool.not_eq_eq_eq_not, decide_eq_false_iff_not, ite_not, inB_t', app_t', bnd_t', str_t', nz_t, Int.reduceEq, Int.reduceLT, Int.reduceLE, w64', Option.bind_some, Option.bind_none, List.length_cons, List.length_nil, List.length_append, Nat.zero_add, if_pos, if_neg, decide_true, decide_false, if_true, if_false, Bool.not_true, Bool.not_false, Bool.false_eq_true, Bool.true_eq_false, not_true_eq_false, not_false_eq_true, ↓reduceIte, List.nil_append, kr, kq, zero4, rF, rB, c1, c2, eta2]
      · refine ⟨(zero4, focE (1, 1) m), ?_, ?_⟩
        · simp only [optics_TwoMirrors, T_optics_TwoMirrors]
          simp (maxSteps := 1000000) (disch := first | omega | assumption) only [↓r_ret, ↓r_fail, ↓r_br, ↓r_bind, ↓r_iter, ↓r_req, decide_eq_true_eq, Bool.not_eq_eq_eq_not, decide_eq_false_iff_not, ite_not, inB_t', app_t', bnd_t', str_t', nz_t, Int.reduceEq, Int.reduceLT, Int.reduceLE, w64', Option.bind_some, Option.bind_none, List.length_cons, List.length_nil, List.length_append, Nat.zero_add, if_pos, if_neg, decide_true, decide_false, if_true, if_false, Bool.not_true, Bool.not_false, Bool.false_eq_true, Bool.true_eq_false, not_true_eq_false, not_false_eq_true, ↓reduceIte, List.nil_append, km, zero4, kF, kB, c1, eta2]
        · simp only [ref02xTwoMirrors, T_ref02xTwoMirrors]
          simp (maxSteps := 1000000) (disch := first | omega | assumption) only [↓r_ret, ↓r_fail, ↓r_br, ↓r_bind, ↓r_iter, ↓r_req, decide_eq_true_eq, Bool.not_eq_eq_eq_not, decide_eq_false_iff_not, ite_not, inB_t', app_t', bnd_t', str_t', nz_t, Int.reduceEq, Int.reduceLT, Int.reduceLE, w64', Option.bind_some, Option.bind_none, List.length_cons, List.length_nil, List.length_append, Nat.zero_add, if_pos, if_neg, decide_true, decide_false, if_true, if_false, Bool.not_true, Bool.not_false, Bool.false_eq_true, Bool.true_eq_false, not_true_eq_false, not_false_eq_true, ↓reduceIte, List.nil_append, kr, kq, zero4, rF, rB, c1, eta2]
  · have km := k_MatrixOfE (l := [(2, p), (1, a), (2, s)]) (by simp) h
    refine ⟨(zero4, elE [(2, p), (1, a), (2, s)]), ?_, ?_⟩
    · simp only [optics_TwoMirrors, T_optics_TwoMirrors]
      simp (maxSteps := 1000000) (disch := first | omega | assumption) only [↓r_ret, ↓r_fail, ↓r_br, ↓r_bind, ↓r_iter, ↓r_req, decide_eq_true_eq, Bool.not_eq_eq_eq_not, decide_eq_false_iff_not, ite_not, inB_t', app_t', bnd_t', str_t', nz_t, Int.reduceEq, Int.reduceLT, Int.reduceLE, w64', Option.bind_some, Option.bind_none, List.length_cons, List.length_nil, List.length_append, Nat.zero_add, if_pos, if_neg, decide_true, decide_false, if_true, if_false, Bool.not_true, Bool.not_false, Bool.false_eq_true, Bool.true_eq_false, not_true_eq_false, not_false_eq_true, ↓reduceIte, List.nil_append, km, h, zero4]
    · simp only [ref02xTwoMirrors, T_ref02xTwoMirrors]
      simp (maxSteps := 1000000) (disch := first | omega | assumption) only [↓r_ret, ↓r_fail, ↓r_br, ↓r_bind, ↓r_iter, ↓r_req, decide_eq_true_eq, Bool.not_eq_eq_eq_not, decide_eq_false_iff_not, ite_not, inB_t', app_t', bnd_t', str_t', nz_t, Int.reduceEq, Int.reduceLT, Int.reduceLE, w64', Option.bind_some, Option.bind_none, List.length_cons, List.length_nil, List.length_append, Nat.zero_add, if_pos, if_neg, decide_true, decide_false, if_true, if_false, Bool.not_true, Bool.not_false, Bool.false_eq_true, Bool.true_eq_false, not_true_eq_false, not_false_eq_true, ↓reduceIte, List.nil_append, kr, h, zero4]

theorem k_OpticsFoci {m : ((Int × Int) × ((Int × Int) × ((Int × Int) × (Int × Int))))} {l : (Int × (Int × Int))} (b0 : bulkT (.pair (.pair (.int .i64) (.int .i64)) (.pair (.pair (.int .i64) (.int .i64)) (.pair (.pair (.int .i64) (.int .i64)) (.pair (.int .i64) (.int .i64))))) m ≤ 1048576) (w0 : wfT (.pair (.pair (.int .i64) (.int .i64)) (.pair (.pair (.int .i64) (.int .i64)) (.pair (.pair (.int .i64) (.int .i64)) (.pair (.int .i64) (.int .i64))))) m) (b1 : bulkT (.pair (.int .i64) (.pair (.int .i64) (.int .i64))) l ≤ 1048576) (w1 : wfT (.pair (.int .i64) (.pair (.int .i64) (.int .i64))) l) : law02xOpticsFoci m l = some ((true, ()), ()) := by
  have im := wfM w0
  obtain ⟨R, kt, kq⟩ := k_Two l.1 l.2.1 l.2.2
  have km := k_rCheckMatrix im
  simp only [law02xOpticsFoci, T_law02xOpticsFoci]
  by_cases c : cmE m = 0
  · have hm := cmE_zero.1 c
    have kF := k_Focal im hm
    have kB := k_BackFocus im hm
    have rF := k_rFocal hm
    have rB := k_rBackFocus hm
    generalize focV (1, 1) m = x1 at *
    generalize focE (1, 1) m = x2 at *
    generalize focV m.1 m = x3 at *
    generalize focE m.1 m = x4 at *
    simp (maxSteps := 1000000) (disch := first | omega | assumption) only [↓r_ret, ↓r_fail, ↓r_br, ↓r_bind, ↓r_iter, ↓r_req, decide_eq_true_eq, Bool.not_eq_eq_eq_not, decide_eq_false_iff_not, ite_not, inB_t', app_t', bnd_t', str_t', nz_t, Int.reduceEq, Int.reduceLT, Int.reduceLE, w64', Option.bind_some, Option.bind_none, List.length_cons, List.length_nil, List.length_append, Nat.zero_add, if_pos, if_neg, decide_true, decide_false, if_true, if_false, Bool.not_true, Bool.not_false, Bool.false_eq_true, Bool.true_eq_false, not_true_eq_false, not_false_eq_true, ↓reduceIte, List.nil_append, awake_ok, eta2, kF, kB, rF, rB, km, kt, kq, c, Bool.and_self]
  · have kF := k_FocalE im c
    have kB := k_BackFocusE im c
    simp (maxSteps := 1000000) (disch := first | omega | assumption) only [↓r_ret, ↓r_fail, ↓r_br, ↓r_bind, ↓r_iter, ↓r_req, decide_eq_true_eq, Bool.not_eq_eq_eq_not, decide_eq_false_iff_not, ite_not, inB_t', app_t', bnd_t', str_t', nz_t, Int.reduceEq, Int.reduceLT, Int.reduceLE, w64', Option.bind_some, Option.bind_none, List.length_cons, List.length_nil, List.length_append, Nat.zero_add, if_pos, if_neg, decide_true, decide_false, if_true, if_false, Bool.not_true, Bool.not_false, Bool.false_eq_true, Bool.true_eq_false, not_true_eq_false, not_false_eq_true, ↓reduceIte, List.nil_append, awake_ok, eta2, kF, kB, km, kt, kq, c, Bool.and_self]
end Go.Ab
