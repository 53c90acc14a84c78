/- CoatCounts answers true. -/
import Derived.Test.YtjmmjfcapgaomaaK8
namespace Go.Ab
open Go
set_option maxRecDepth 1000000
set_option maxHeartbeats 4000000
set_option linter.unusedVariables false
set_option linter.unusedSimpArgs false
attribute [local congr] bindC iterC

theorem rngE_0 {r : Int × Int} (h : rngE r = 0) : -1000000000000000 ≤ r.1 ∧ r.1 ≤ r.2 ∧ r.2 ≤ 1000000000000000 := by
  unfold rngE at h
  split at h
  · cases h
  split at h
  · cases h
  split at h
  · cases h
  omega
theorem thkR_0 {r : Int × Int} (h : thkR r = 0) : rngE r = 0 ∧ 0 ≤ r.1 ∧ r.1 ≤ r.2 ∧ r.2 ≤ 1000000000000000 := by
  unfold thkR at h
  split at h
  · rename_i h0
    split at h
    · cases h
    · have := rngE_0 h0; omega
  · contradiction

abbrev cntM (l : List Mat) (nm : List UInt8) : Mat := gi l (matIx l nm)
def cntLo (l : List Mat) (nm : List UInt8) (w : Int × Int) : Int := max 1 (cdiv w.1 (cntM l nm).2.1)
def cntHi (l : List Mat) (nm : List UInt8) (w : Int × Int) : Int := min 100000 (w.2 / (cntM l nm).2.2 - 1)
def cntE (l : List Mat) (nm : List UInt8) (w : Int × Int) : Int := if matIx l nm < 0 then 6 else if thkR w = 0 then (if cntHi l nm w < cntLo l nm w then 12 else 0) else thkR w
def cntV (l : List Mat) (nm : List UInt8) (w : Int × Int) : Int × Int := if cntE l nm w = 0 then (cntLo l nm w, cntHi l nm w) else (0, 0)

theorem k_CountsFor {l : List Mat} (hl : l.length ≤ 1048576) (hn : NmOk l) (hm : matsE l = 0) (nm : List UInt8) (w : Int × Int) : coat_CountsFor l nm w = some ((cntV l nm w, cntE l nm w, ()), ()) := by
  simp only [coat_CountsFor, T_coat_CountsFor]
  have hb := matIx_bd l nm
  unfold cntV
  by_cases c1 : matIx l nm < 0
  · have e : cntE l nm w = 6 := if_pos c1
    rw [e]
    simp (maxSteps := 1000000) (disch := first | omega | assumption) only [r_ret, r_br, decide_eq_true_eq, Bool.not_eq_eq_eq_not, decide_eq_false_iff_not, ite_not, q_true, r_bind, r_iter, q_inB, q_nz, q_app, q_eq, q_bnd, q_str, w64', Option.bind_some, Option.bind_none, List.length_cons, List.length_nil, List.length_append, Nat.zero_add, if_pos, if_neg, decide_true, decide_false, if_true, if_false, Bool.not_true, Bool.not_false, Bool.false_eq_true, Bool.true_eq_false, not_true_eq_false, not_false_eq_true, reduceIte, List.nil_append, k_CheckMaterials, hm, k_find, c1]
    all_goals rfl
  · by_cases c2 : thkR w = 0
    · obtain ⟨t1, t2, t3, t4⟩ := thkR_0 c2
      have hk := (mats_ok hm).2 (matIx l nm).toNat (by omega)
      rw [show (((matIx l nm).toNat : Nat) : Int) = matIx l nm by omega] at hk
      have q1 : w.2.tdiv (gi l (matIx l nm)).2.2 = w.2 / (gi l (matIx l nm)).2.2 := Int.tdiv_eq_ediv_of_nonneg (by omega)
      have q2 := fdiv_bd (a := w.2) (b := (gi l (matIx l nm)).2.2) (m := 1000000000000000) (by omega) (by omega) (by omega) (by omega)
      by_cases c3 : cntHi l nm w < cntLo l nm w
      · have e : cntE l nm w = 12 := by unfold cntE; rw [if_neg c1, if_pos c2, if_pos c3]
        rw [e]
        simp only [cntHi, cntLo] at c3
        simp (maxSteps := 1000000) (disch := first | omega | assumption) only [r_ret, r_br, decide_eq_true_eq, Bool.not_eq_eq_eq_not, decide_eq_false_iff_not, ite_not, q_true, r_bind, r_iter, q_inB, q_nz, q_app, q_eq, q_bnd, q_str, w64', Option.bind_some, Option.bind_none, List.length_cons, List.length_nil, List.length_append, Nat.zero_add, if_pos, if_neg, decide_true, decide_false, if_true, if_false, Bool.not_true, Bool.not_false, Bool.false_eq_true, Bool.true_eq_false, not_true_eq_false, not_false_eq_true, reduceIte, List.nil_append, k_CheckMaterials, hm, k_find, c1, k_checkThick, c2, k_ceil, q1, c3]
        all_goals rfl
      · have e : cntE l nm w = 0 := by unfold cntE; rw [if_neg c1, if_pos c2, if_neg c3]
        rw [e]
        simp only [cntHi, cntLo] at c3 ⊢
        simp (maxSteps := 1000000) (disch := first | omega | assumption) only [r_ret, r_br, decide_eq_true_eq, Bool.not_eq_eq_eq_not, decide_eq_false_iff_not, ite_not, q_true, r_bind, r_iter, q_inB, q_nz, q_app, q_eq, q_bnd, q_str, w64', Option.bind_some, Option.bind_none, List.length_cons, List.length_nil, List.length_append, Nat.zero_add, if_pos, if_neg, decide_true, decide_false, if_true, if_false, Bool.not_true, Bool.not_false, Bool.false_eq_true, Bool.true_eq_false, not_true_eq_false, not_false_eq_true, reduceIte, List.nil_append, k_CheckMaterials, hm, k_find, c1, k_checkThick, c2, k_ceil, q1, c3]
    · have e : cntE l nm w = thkR w := by unfold cntE; rw [if_neg c1, if_neg c2]
      rw [e]
      simp (maxSteps := 1000000) (disch := first | omega | assumption) only [r_ret, r_br, decide_eq_true_eq, Bool.not_eq_eq_eq_not, decide_eq_false_iff_not, ite_not, q_true, r_bind, r_iter, q_inB, q_nz, q_app, q_eq, q_bnd, q_str, w64', Option.bind_some, Option.bind_none, List.length_cons, List.length_nil, List.length_append, Nat.zero_add, if_pos, if_neg, decide_true, decide_false, if_true, if_false, Bool.not_true, Bool.not_false, Bool.false_eq_true, Bool.true_eq_false, not_true_eq_false, not_false_eq_true, reduceIte, List.nil_append, k_CheckMaterials, hm, k_find, c1, k_checkThick, c2]
theorem k_CountsFor_n {l : List Mat} (hl : l.length ≤ 1048576) (hn : NmOk l) (hm : ¬ matsE l = 0) (nm : List UInt8) (w : Int × Int) : coat_CountsFor l nm w = some (((0, 0), matsE l, ()), ()) := by
  simp only [coat_CountsFor, T_coat_CountsFor]
  simp (maxSteps := 1000000) (disch := first | omega | assumption) only [r_ret, r_br, decide_eq_true_eq, Bool.not_eq_eq_eq_not, decide_eq_false_iff_not, ite_not, q_true, r_bind, r_iter, q_inB, q_nz, q_app, q_eq, q_bnd, q_str, w64', Option.bind_some, Option.bind_none, List.length_cons, List.length_nil, List.length_append, Nat.zero_add, if_pos, if_neg, decide_true, decide_false, if_true, if_false, Bool.not_true, Bool.not_false, Bool.false_eq_true, Bool.true_eq_false, not_true_eq_false, not_false_eq_true, reduceIte, List.nil_append, k_CheckMaterials, hm]

theorem k_rCountsFor {l : List Mat} (hl : l.length ≤ 1048576) (hm : matsE l = 0) (nm : List UInt8) (w : Int × Int) : ref08xCountsFor l nm w = some ((cntV l nm w, cntE l nm w, ()), ()) := by
  simp only [ref08xCountsFor, T_ref08xCountsFor]
  have hb := matIx_bd l nm
  unfold cntV
  by_cases c1 : matIx l nm < 0
  · have e : cntE l nm w = 6 := if_pos c1
    rw [e]
    simp (maxSteps := 1000000) (disch := first | omega | assumption) only [r_ret, r_br, decide_eq_true_eq, Bool.not_eq_eq_eq_not, decide_eq_false_iff_not, ite_not, q_true, r_bind, r_iter, q_inB, q_nz, q_app, q_eq, q_bnd, q_str, w64', Option.bind_some, Option.bind_none, List.length_cons, List.length_nil, List.length_append, Nat.zero_add, if_pos, if_neg, decide_true, decide_false, if_true, if_false, Bool.not_true, Bool.not_false, Bool.false_eq_true, Bool.true_eq_false, not_true_eq_false, not_false_eq_true, reduceIte, List.nil_append, k_FindMaterial, c1]
    all_goals rfl
  · by_cases c2 : rngE w = 0
    · have r0 := rngE_0 c2
      by_cases c0 : w.1 < 0
      · have e : cntE l nm w = 2 := by
          have : thkR w = 2 := by unfold thkR; rw [if_pos c2, if_pos c0]
          unfold cntE; rw [if_neg c1, if_neg (by rw [this]; decide), this]
        rw [e]
        simp (maxSteps := 1000000) (disch := first | omega | assumption) only [r_ret, r_br, decide_eq_true_eq, Bool.not_eq_eq_eq_not, decide_eq_false_iff_not, ite_not, q_true, r_bind, r_iter, q_inB, q_nz, q_app, q_eq, q_bnd, q_str, w64', Option.bind_some, Option.bind_none, List.length_cons, List.length_nil, List.length_append, Nat.zero_add, if_pos, if_neg, decide_true, decide_false, if_true, if_false, Bool.not_true, Bool.not_false, Bool.false_eq_true, Bool.true_eq_false, not_true_eq_false, not_false_eq_true, reduceIte, List.nil_append, k_FindMaterial, c1, k_rCheckRange, c2, c0]
        all_goals rfl
      · have c2' : thkR w = 0 := by unfold thkR; rw [if_pos c2, if_neg c0]
        have hk := (mats_ok hm).2 (matIx l nm).toNat (by omega)
        rw [show (((matIx l nm).toNat : Nat) : Int) = matIx l nm by omega] at hk
        have q2 := fdiv_bd (a := w.2) (b := (gi l (matIx l nm)).2.2) (m := 1000000000000000) (by omega) (by omega) (by omega) (by omega)
        by_cases c3 : cntHi l nm w < cntLo l nm w
        · have e : cntE l nm w = 12 := by unfold cntE; rw [if_neg c1, if_pos c2', if_pos c3]
          rw [e]
          simp only [cntHi, cntLo] at c3
          simp (maxSteps := 1000000) (disch := first | omega | assumption) only [r_ret, r_br, decide_eq_true_eq, Bool.not_eq_eq_eq_not, decide_eq_false_iff_not, ite_not, q_true, r_bind, r_iter, q_inB, q_nz, q_app, q_eq, q_bnd, q_str, w64', Option.bind_some, Option.bind_none, List.length_cons, List.length_nil, List.length_append, Nat.zero_add, if_pos, if_neg, decide_true, decide_false, if_true, if_false, Bool.not_true, Bool.not_false, Bool.false_eq_true, Bool.true_eq_false, not_true_eq_false, not_false_eq_true, reduceIte, List.nil_append, k_FindMaterial, c1, k_rCheckRange, c2, c0, k_Ceil, k_Floor, c3]
          all_goals rfl
        · have e : cntE l nm w = 0 := by unfold cntE; rw [if_neg c1, if_pos c2', if_neg c3]
          rw [e]
          simp only [cntHi, cntLo] at c3 ⊢
          simp (maxSteps := 1000000) (disch := first | omega | assumption) only [r_ret, r_br, decide_eq_true_eq, Bool.not_eq_eq_eq_not, decide_eq_false_iff_not, ite_not, q_true, r_bind, r_iter, q_inB, q_nz, q_app, q_eq, q_bnd, q_str, w64', Option.bind_some, Option.bind_none, List.length_cons, List.length_nil, List.length_append, Nat.zero_add, if_pos, if_neg, decide_true, decide_false, if_true, if_false, Bool.not_true, Bool.not_false, Bool.false_eq_true, Bool.true_eq_false, not_true_eq_false, not_false_eq_true, reduceIte, List.nil_append, k_FindMaterial, c1, k_rCheckRange, c2, c0, k_Ceil, k_Floor, c3]
    · have e : cntE l nm w = rngE w := by
        have : thkR w = rngE w := by unfold thkR; rw [if_neg c2]
        unfold cntE; rw [if_neg c1, if_neg (by rw [this]; exact c2), this]
      rw [e]
      simp (maxSteps := 1000000) (disch := first | omega | assumption) only [r_ret, r_br, decide_eq_true_eq, Bool.not_eq_eq_eq_not, decide_eq_false_iff_not, ite_not, q_true, r_bind, r_iter, q_inB, q_nz, q_app, q_eq, q_bnd, q_str, w64', Option.bind_some, Option.bind_none, List.length_cons, List.length_nil, List.length_append, Nat.zero_add, if_pos, if_neg, decide_true, decide_false, if_true, if_false, Bool.not_true, Bool.not_false, Bool.false_eq_true, Bool.true_eq_false, not_true_eq_false, not_false_eq_true, reduceIte, List.nil_append, k_FindMaterial, c1, k_rCheckRange, c2]

theorem k_CoatCounts0 {l : List Mat} (hl : l.length ≤ 1048576) (hn : NmOk l) (nm : List UInt8) (w : Int × Int) : law08xCoatCounts l nm w = some ((true, ()), ()) := by
  obtain ⟨b1, hb1⟩ := k_short hl
  simp only [law08xCoatCounts, T_law08xCoatCounts]
  cases b1 with
  | false => simp (maxSteps := 1000000) (disch := first | omega | assumption) only [r_ret, r_br, decide_eq_true_eq, Bool.not_eq_eq_eq_not, decide_eq_false_iff_not, ite_not, q_true, r_bind, r_iter, q_inB, q_nz, q_app, q_eq, q_bnd, q_str, w64', Option.bind_some, Option.bind_none, List.length_cons, List.length_nil, List.length_append, Nat.zero_add, if_pos, if_neg, decide_true, decide_false, if_true, if_false, Bool.not_true, Bool.not_false, Bool.false_eq_true, Bool.true_eq_false, not_true_eq_false, not_false_eq_true, reduceIte, List.nil_append, awake_ok, hb1]
  | true =>
    by_cases c : (20 : Int) < nm.length
    · simp (maxSteps := 1000000) (disch := first | omega | assumption) only [r_ret, r_br, decide_eq_true_eq, Bool.not_eq_eq_eq_not, decide_eq_false_iff_not, ite_not, q_true, r_bind, r_iter, q_inB, q_nz, q_app, q_eq, q_bnd, q_str, w64', Option.bind_some, Option.bind_none, List.length_cons, List.length_nil, List.length_append, Nat.zero_add, if_pos, if_neg, decide_true, decide_false, if_true, if_false, Bool.not_true, Bool.not_false, Bool.false_eq_true, Bool.true_eq_false, not_true_eq_false, not_false_eq_true, reduceIte, List.nil_append, awake_ok, hb1, c]
    · by_cases hm : matsE l = 0
      · simp (maxSteps := 1000000) (disch := first | omega | assumption) only [r_ret, r_br, decide_eq_true_eq, Bool.not_eq_eq_eq_not, decide_eq_false_iff_not, ite_not, q_true, r_bind, r_iter, q_inB, q_nz, q_app, q_eq, q_bnd, q_str, w64', Option.bind_some, Option.bind_none, List.length_cons, List.length_nil, List.length_append, Nat.zero_add, if_pos, if_neg, decide_true, decide_false, if_true, if_false, Bool.not_true, Bool.not_false, Bool.false_eq_true, Bool.true_eq_false, not_true_eq_false, not_false_eq_true, reduceIte, List.nil_append, awake_ok, hb1, c, k_materials, k_CountsFor, k_rCheckMaterials, hm, k_rCountsFor, Bool.and_self]
      · simp (maxSteps := 1000000) (disch := first | omega | assumption) only [r_ret, r_br, decide_eq_true_eq, Bool.not_eq_eq_eq_not, decide_eq_false_iff_not, ite_not, q_true, r_bind, r_iter, q_inB, q_nz, q_app, q_eq, q_bnd, q_str, w64', Option.bind_some, Option.bind_none, List.length_cons, List.length_nil, List.length_append, Nat.zero_add, if_pos, if_neg, decide_true, decide_false, if_true, if_false, Bool.not_true, Bool.not_false, Bool.false_eq_true, Bool.true_eq_false, not_true_eq_false, not_false_eq_true, reduceIte, List.nil_append, awake_ok, hb1, c, k_materials, k_CountsFor_n, k_rCheckMaterials, hm, Bool.and_self]
theorem k_CoatCounts {l : List Mat} {nm : List UInt8} {w : Int × Int} (b0 : bulkT (.list (.pair .str (.pair (.int .i64) (.int .i64)))) l ≤ 1048576) (w0 : wfT (.list (.pair .str (.pair (.int .i64) (.int .i64)))) l)
    (b1 : bulkT .str nm ≤ 1048576) (w1 : wfT .str nm) (b2 : bulkT (.pair (.int .i64) (.int .i64)) w ≤ 1048576) (w2 : wfT (.pair (.int .i64) (.int .i64)) w) : law08xCoatCounts l nm w = some ((true, ()), ()) :=
  k_CoatCounts0 (mats_in b0).1 (mats_in b0).2 nm w
end Go.Ab
