/- CoatWithin answers true. -/
import Derived.Test.YtjmmjfcapgaomaaK14
namespace Go.Ab
open Go
set_option maxRecDepth 1000000
set_option maxHeartbeats 4000000
set_option linter.unusedVariables false
set_option linter.unusedSimpArgs false
attribute [local congr] bindC iterC

theorem matIx_0 {l : List Mat} (h : 0 < l.length) : matIx l (gi l (0 : Int)).1 = 0 :=
  idxTo_at (i := 0) (fun j hj => by omega) (decide_eq_true rfl) h
theorem cdiv_le {a b n : Int} (hb : 0 < b) (h : cdiv a b ≤ n) : a ≤ n * b := by
  unfold cdiv at h
  have : -n ≤ (0 - a) / b := by omega
  have := (Int.le_ediv_iff_mul_le hb).1 this
  rw [Int.neg_mul] at this
  omega
theorem div_le {a b n : Int} (hb : 0 < b) (h : n ≤ a / b) : n * b ≤ a := (Int.le_ediv_iff_mul_le hb).1 h

theorem within_math {w1 w2 lo hi n a b s z : Int} (ha : 1 ≤ a) (hab : a ≤ b) (hlo : lo = max 1 (cdiv w1 a)) (hhi : hi = min 100000 (w2 / b - 1)) (h1 : lo ≤ n) (h2 : n ≤ hi) (h3 : a ≤ s) (h4 : s ≤ b) (h5 : 0 ≤ z) (h6 : z < s) :
    w1 ≤ n * a ∧ n * a ≤ n * s + z ∧ n * s + z ≤ (n + 1) * b ∧ (n + 1) * b ≤ w2 := by
  have e1 := cdiv_le (a := w1) (b := a) (n := n) (by omega) (by omega)
  have e2 := div_le (a := w2) (b := b) (n := n + 1) (by omega) (by omega)
  have e3 : n * a ≤ n * s := Int.mul_le_mul_of_nonneg_left h3 (by omega)
  have e4 : (n + 1) * s ≤ (n + 1) * b := Int.mul_le_mul_of_nonneg_left h4 (by omega)
  have e5 : (n + 1) * s = n * s + s := by rw [Int.add_mul, Int.one_mul]
  omega

/-- All that the walk needs, over whole numbers. -/
theorem within_pre {w1 w2 lo hi a b x1 x2 : Int} (h0 : 0 ≤ w1) (hw : w2 ≤ 1000000000000000) (ha : 1 ≤ a) (hab : a ≤ b) (hb : b ≤ 1000000) (hlo : lo = max 1 (cdiv w1 a)) (hhi : hi = min 100000 (w2 / b - 1)) (hh : lo ≤ hi) :
    ∃ z7 z10 z11 : Int, x2 % (hi - lo + 1) = z7 ∧ x1 % (b - a + 1) = z10 ∧ x2 % (a + z10) = z11 ∧ 1 ≤ lo ∧ hi ≤ 100000 ∧ 0 ≤ z7 ∧ lo + z7 ≤ hi ∧ 0 ≤ z10 ∧ a + z10 ≤ b ∧ 0 ≤ z11 ∧ z11 ≤ 1000000 ∧ 0 ≤ (lo + z7) * (a + z10) ∧ (lo + z7) * (a + z10) ≤ 1000000000000000 ∧
      ((lo + z7) * a ≤ (lo + z7) * (a + z10) + z11 ∧ (lo + z7) * (a + z10) + z11 ≤ (lo + z7 + 1) * b) ∧ (w1 ≤ (lo + z7) * (a + z10) + z11 ∧ (lo + z7) * (a + z10) + z11 ≤ w2) := by
  have hl1 : 1 ≤ lo := by omega
  have hh1 : hi ≤ 100000 := by omega
  have p1 := Int.emod_nonneg x2 (b := hi - lo + 1) (by omega)
  have p2 := Int.emod_lt_of_pos x2 (b := hi - lo + 1) (by omega)
  have p3 := Int.emod_nonneg x1 (b := b - a + 1) (by omega)
  have p4 := Int.emod_lt_of_pos x1 (b := b - a + 1) (by omega)
  generalize hz7 : x2 % (hi - lo + 1) = z7 at p1 p2
  generalize hz10 : x1 % (b - a + 1) = z10 at p3 p4
  have p5 := Int.emod_nonneg x2 (b := a + z10) (by omega)
  have p6 := Int.emod_lt_of_pos x2 (b := a + z10) (by omega)
  generalize hz11 : x2 % (a + z10) = z11 at p5 p6
  obtain ⟨m1, m2, m3, m4⟩ := within_math (w1 := w1) (w2 := w2) (n := lo + z7) (s := a + z10) (z := z11) ha hab hlo hhi (by clear hlo hhi; omega) (by clear hlo hhi; omega) (by clear hlo hhi; omega) (by clear hlo hhi; omega) p5 p6
  clear hlo hhi
  exact ⟨z7, z10, z11, rfl, rfl, hz11, hl1, hh1, p1, by omega, p3, by omega, p5, by omega, Int.mul_nonneg (by omega) (by omega), by omega, ⟨m2, m3⟩, by omega, by omega⟩

theorem k_CoatWithin0 {l : List Mat} (hl : l.length ≤ 1048576) (hn : NmOk l) (w x : Int × Int) : law08xCoatWithin l w x = some ((true, ()), ()) := by
  obtain ⟨b1, hb1⟩ := k_short hl
  simp only [law08xCoatWithin, T_law08xCoatWithin]
  cases b1 with
  | false => simp (maxSteps := 1000000) (disch := first | omega | assumption) only [↓r_ret, ↓r_fail, ↓r_br, ↓r_bind, ↓r_iter, ↓r_req, decide_eq_true_eq, Bool.not_eq_eq_eq_not, decide_eq_false_iff_not, ite_not, inB_t', app_t', bnd_t', str_t', nz_t, w64', Option.bind_some, Option.bind_none, List.length_cons, List.length_nil, List.length_append, Nat.zero_add, if_pos, if_neg, decide_true, decide_false, if_true, if_false, Bool.not_true, Bool.not_false, Bool.false_eq_true, Bool.true_eq_false, not_true_eq_false, not_false_eq_true, ↓reduceIte, List.nil_append, awake_ok, hb1]
  | true =>
    by_cases hm : matsE l = 0
    · by_cases h0 : (l.length : Int) = 0
      · simp (maxSteps := 1000000) (disch := first | omega | assumption) only [↓r_ret, ↓r_fail, ↓r_br, ↓r_bind, ↓r_iter, ↓r_req, decide_eq_true_eq, Bool.not_eq_eq_eq_not, decide_eq_false_iff_not, ite_not, inB_t', app_t', bnd_t', str_t', nz_t, w64', Option.bind_some, Option.bind_none, List.length_cons, List.length_nil, List.length_append, Nat.zero_add, if_pos, if_neg, decide_true, decide_false, if_true, if_false, Bool.not_true, Bool.not_false, Bool.false_eq_true, Bool.true_eq_false, not_true_eq_false, not_false_eq_true, ↓reduceIte, List.nil_append, awake_ok, hb1, k_rCheckMaterials, hm, h0]
      by_cases c1 : rngE w = 0
      · by_cases c2 : w.1 < 0
        · simp (maxSteps := 1000000) (disch := first | omega | assumption) only [↓r_ret, ↓r_fail, ↓r_br, ↓r_bind, ↓r_iter, ↓r_req, decide_eq_true_eq, Bool.not_eq_eq_eq_not, decide_eq_false_iff_not, ite_not, inB_t', app_t', bnd_t', str_t', nz_t, w64', Option.bind_some, Option.bind_none, List.length_cons, List.length_nil, List.length_append, Nat.zero_add, if_pos, if_neg, decide_true, decide_false, if_true, if_false, Bool.not_true, Bool.not_false, Bool.false_eq_true, Bool.true_eq_false, not_true_eq_false, not_false_eq_true, ↓reduceIte, List.nil_append, awake_ok, hb1, k_rCheckMaterials, hm, h0, k_rCheckRange, c1, c2]
        · have ht : thkR w = 0 := by unfold thkR; rw [if_pos c1, if_neg c2]
          have hi0 := matIx_0 (l := l) (by omega)
          have r0 := rngE_0 c1
          have hk := (mats_ok hm).2 0 (by omega)
          rw [show (((0 : Nat) : Nat) : Int) = 0 by omega] at hk
          have hcf := k_CountsFor hl hn hm (gi l (0 : Int)).1 w
          by_cases c3 : cntHi l (gi l (0 : Int)).1 w < cntLo l (gi l (0 : Int)).1 w
          · have e : cntE l (gi l (0 : Int)).1 w = 12 := by unfold cntE; rw [if_neg (by omega), if_pos ht, if_pos c3]
            have e2 : cntV l (gi l (0 : Int)).1 w = (0, 0) := by unfold cntV; rw [if_neg (by rw [e]; decide)]
            rw [e, e2] at hcf
            simp (maxSteps := 1000000) (disch := first | omega | assumption) only [↓r_ret, ↓r_fail, ↓r_br, ↓r_bind, ↓r_iter, ↓r_req, decide_eq_true_eq, Bool.not_eq_eq_eq_not, decide_eq_false_iff_not, ite_not, inB_t', app_t', bnd_t', str_t', nz_t, w64', Option.bind_some, Option.bind_none, List.length_cons, List.length_nil, List.length_append, Nat.zero_add, if_pos, if_neg, decide_true, decide_false, if_true, if_false, Bool.not_true, Bool.not_false, Bool.false_eq_true, Bool.true_eq_false, not_true_eq_false, not_false_eq_true, ↓reduceIte, List.nil_append, awake_ok, hb1, k_rCheckMaterials, hm, h0, k_rCheckRange, c1, c2, k_materials, hcf, Bool.and_self]
            all_goals rfl
          · have e : cntE l (gi l (0 : Int)).1 w = 0 := by unfold cntE; rw [if_neg (by omega), if_pos ht, if_neg c3]
            have e2 : cntV l (gi l (0 : Int)).1 w = (cntLo l (gi l (0 : Int)).1 w, cntHi l (gi l (0 : Int)).1 w) := by unfold cntV; rw [if_pos e]
            rw [e, e2] at hcf
            have q1 : cntLo l (gi l (0 : Int)).1 w = max 1 (cdiv w.1 (gi l (0 : Int)).2.1) := by unfold cntLo cntM; rw [hi0]
            have q2 : cntHi l (gi l (0 : Int)).1 w = min 100000 (w.2 / (gi l (0 : Int)).2.2 - 1) := by unfold cntHi cntM; rw [hi0]
            obtain ⟨k1, k2, k3⟩ := hk
            obtain ⟨z7, z10, z11, hz7, hz10, hz11, i2, i13, j1, j2, j3, j4, j5, j6, j7, j8, i5, i6⟩ := within_pre (x1 := x.1) (x2 := x.2) (by omega) r0.2.2 k1 k2 k3 q1 q2 (Int.not_lt.1 c3)
            clear q1 q2
            generalize cntLo l (gi l (0 : Int)).1 w = lo at hcf hz7 i2 j2 j7 j8 i5 i6 c3
            generalize cntHi l (gi l (0 : Int)).1 w = hi at hcf hz7 i13 j2 c3
            generalize hg : gi l (0 : Int) = g at *
            have hle : layE l (g.1, lo + z7) = 0 := by unfold layE; rw [if_neg (by simp only; omega), if_pos (by simp only; omega)]
            have hte : thkE l (g.1, lo + z7) = 0 := by unfold thkE; rw [if_pos hm, hle]
            have htv : thkV l (g.1, lo + z7) = ((lo + z7) * g.2.1, (lo + z7 + 1) * g.2.2) := by unfold thkV; rw [if_pos hte]; simp only [layT, hi0, hg]
            have htk := k_Thickness hl hn (x := (g.1, lo + z7)) ⟨by have := hn 0 (by omega); rw [show (((0 : Nat) : Nat) : Int) = 0 by omega, hg] at this; exact this, by simp only; omega, by simp only; omega⟩
            rw [hte, htv] at htk
            have i1 : lo ≤ hi := Int.not_lt.1 c3
            have i3 : ¬ 100000 < hi := Int.not_lt.2 i13
            have i4 : 1 ≤ lo ∧ lo ≤ hi := ⟨i2, i1⟩
            have i14 : 0 < g.2.1 + z10 := by omega
            clear hle hte htv c3 hi0 e2 r0 ht
            simp (maxSteps := 1000000) (disch := first | omega | assumption) only [↓r_ret, ↓r_fail, ↓r_br, ↓r_bind, ↓r_iter, ↓r_req, decide_eq_true_eq, Bool.not_eq_eq_eq_not, decide_eq_false_iff_not, ite_not, inB_t', app_t', bnd_t', str_t', nz_t, w64', Option.bind_some, Option.bind_none, List.length_cons, List.length_nil, List.length_append, Nat.zero_add, if_pos, if_neg, decide_true, decide_false, if_true, if_false, Bool.not_true, Bool.not_false, Bool.false_eq_true, Bool.true_eq_false, not_true_eq_false, not_false_eq_true, ↓reduceIte, List.nil_append, awake_ok, hb1, k_rCheckMaterials, hm, h0, k_rCheckRange, c1, c2, k_materials, hg, hcf, k_Within, i4, i3, k_Mod, hz7, hz10, hz11, htk, i5, i6, and_self]
      · simp (maxSteps := 1000000) (disch := first | omega | assumption) only [↓r_ret, ↓r_fail, ↓r_br, ↓r_bind, ↓r_iter, ↓r_req, decide_eq_true_eq, Bool.not_eq_eq_eq_not, decide_eq_false_iff_not, ite_not, inB_t', app_t', bnd_t', str_t', nz_t, w64', Option.bind_some, Option.bind_none, List.length_cons, List.length_nil, List.length_append, Nat.zero_add, if_pos, if_neg, decide_true, decide_false, if_true, if_false, Bool.not_true, Bool.not_false, Bool.false_eq_true, Bool.true_eq_false, not_true_eq_false, not_false_eq_true, ↓reduceIte, List.nil_append, awake_ok, hb1, k_rCheckMaterials, hm, h0, k_rCheckRange, c1]
    · simp (maxSteps := 1000000) (disch := first | omega | assumption) only [↓r_ret, ↓r_fail, ↓r_br, ↓r_bind, ↓r_iter, ↓r_req, decide_eq_true_eq, Bool.not_eq_eq_eq_not, decide_eq_false_iff_not, ite_not, inB_t', app_t', bnd_t', str_t', nz_t, w64', Option.bind_some, Option.bind_none, List.length_cons, List.length_nil, List.length_append, Nat.zero_add, if_pos, if_neg, decide_true, decide_false, if_true, if_false, Bool.not_true, Bool.not_false, Bool.false_eq_true, Bool.true_eq_false, not_true_eq_false, not_false_eq_true, ↓reduceIte, List.nil_append, awake_ok, hb1, k_rCheckMaterials, hm]
theorem k_CoatWithin {l : List Mat} {w x : Int × Int} (b0 : bulkT (.list (.pair .str (.pair (.int .i64) (.int .i64)))) l ≤ 1048576) (w0 : wfT (.list (.pair .str (.pair (.int .i64) (.int .i64)))) l)
    (b1 : bulkT (.pair (.int .i64) (.int .i64)) w ≤ 1048576) (w1 : wfT (.pair (.int .i64) (.int .i64)) w) (b2 : bulkT (.pair (.int .i64) (.int .i64)) x ≤ 1048576) (w2 : wfT (.pair (.int .i64) (.int .i64)) x) : law08xCoatWithin l w x = some ((true, ()), ()) :=
  k_CoatWithin0 (mats_in b0).1 (mats_in b0).2 w x
end Go.Ab
