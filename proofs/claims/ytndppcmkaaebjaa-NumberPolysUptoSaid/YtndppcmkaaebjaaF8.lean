/- NumberPolys. -/
import Derived.Test.YtndppcmkaaebjaaR1
import Derived.Test.YtndppcmkaaebjaaF7
import Derived.Test.YtndppcmkaaebjaaQLNumberPolys
namespace Go.Ab
open Go
set_option maxRecDepth 1000000
set_option maxHeartbeats 1000000
set_option linter.unusedVariables false
set_option linter.unusedSimpArgs false

def dvN (p : List Int) (n : Nat) : List Int := (List.range n).map fun (i : Nat) => ((i : Int) + 1) * gi p ((i : Int) + 1)
theorem dvN_succ (p : List Int) (n : Nat) : dvN p (n + 1) = dvN p n ++ [((n : Int) + 1) * gi p ((n : Int) + 1)] := by simp [dvN, List.range_succ]
theorem dvN_len (p : List Int) (n : Nat) : (dvN p n).length = n := by simp [dvN]
theorem gi_tail (p : List Int) (i : Nat) : gi (part p 1 (p.length : Int)) (i : Int) = gi p ((i : Int) + 1) := by
  have : ((i : Int) + 1).toNat = i + 1 := by omega
  simp [gi, part, List.getD, this, Nat.add_comm]
theorem tail_len (p : List Int) : (part p 1 (p.length : Int)).length = p.length - 1 := by simp [part]
section
variable {p : List Int} (h : pcE p = 0)
include h
theorem dv_bd {i : Nat} (hi : i + 1 < p.length) : -7000000 ≤ ((i : Int) + 1) * gi p ((i : Int) + 1) ∧ ((i : Int) + 1) * gi p ((i : Int) + 1) ≤ 7000000 := by
  obtain ⟨h1, h2, h3, h4⟩ := pcE_zero h
  have := h3 (i + 1) hi
  rw [show ((i + 1 : Nat) : Int) = (i : Int) + 1 by omega] at this
  have := mul_bd (a := (i : Int) + 1) (b := gi p ((i : Int) + 1)) (m := 7) (n := 1000000) (by omega) (by omega) (by omega) (by omega)
  omega
theorem k_Derivative (hl : p.length ≠ 1) : number_Derivative p = some (toldV (dvN p (p.length - 1)), ()) := by
  obtain ⟨h1, h2, h3, h4⟩ := pcE_zero h
  simp only [number_Derivative, T_number_Derivative]
  refine (r_bs (k_CheckPoly p)).trans ?_
  refine (br_f (nd h)).trans ?_
  refine (br_f (decide_eq_false (by omega))).trans ?_
  refine (q_of (bnd_t' (by omega) (by omega) (by omega))).trans ?_
  refine (q_of rfl).trans ?_
  rw [r_iter]
  refine iter_eq (fun i x => i ≤ p.length - 1 ∧ x = (dvN p i, (i : Int), ())) _ (p.length - 1) (by omega) ?_ ⟨by omega, rfl⟩
  rintro i x hi ⟨hi2, rfl⟩
  simp only [T_number_Derivative_l1, tail_len, gi_tail, dvN_len]
  by_cases hlt : i < p.length - 1
  · left
    have hb := dv_bd h (i := i) (by omega)
    refine ⟨_, ?_, hlt, by omega, rfl⟩
    rw [dvN_succ, w64' (x := (i : Int) + 1) (by omega) (by omega), w64' (x := ((i : Int) + 1) * gi p ((i : Int) + 1)) (by omega) (by omega)]
    refine (br_t (decide_eq_true (by omega))).trans ?_
    refine (q_of (inB_t' (by omega) (by omega))).trans ?_
    refine (q_of (by simp)).trans ?_
    refine (q_of (app_t' (by simp only [List.length_cons, List.length_nil]; omega) (by simp only [List.length_cons, List.length_nil]; omega))).trans ?_
    refine (q_of (decide_eq_true (by simp [dvN_len]))).trans ?_
    rw [show ((i + 1 : Nat) : Int) = (i : Int) + 1 by omega]
    exact r_ret _
  · right
    have : i = p.length - 1 := by omega
    subst this
    refine (br_f (decide_eq_false (by omega))).trans ?_
    refine (r_bs (k_told _)).trans ?_
    exact r_ret _
theorem k_rDerivative (hl : p.length ≠ 1) : ref01xDerivative p = some (toldV (dvN p (p.length - 1)), ()) := by
  obtain ⟨h1, h2, h3, h4⟩ := pcE_zero h
  simp only [ref01xDerivative, T_ref01xDerivative]
  refine (br_f (decide_eq_false (by omega))).trans ?_
  refine (q_of rfl).trans ?_
  rw [r_iter]
  refine iter_eq (fun i x => i ≤ p.length - 1 ∧ x = (dvN p i, (i : Int) + 1, ())) _ (p.length - 1) (by omega) ?_ ⟨by omega, rfl⟩
  rintro i x hi ⟨hi2, rfl⟩
  simp only [T_ref01xDerivative_l0, dvN_len]
  by_cases hlt : i < p.length - 1
  · left
    have hb := dv_bd h (i := i) (by omega)
    refine ⟨_, ?_, hlt, by omega, rfl⟩
    rw [dvN_succ, w64' (x := (i : Int) + 1 + 1) (by omega) (by omega), w64' (x := ((i : Int) + 1) * gi p ((i : Int) + 1)) (by omega) (by omega)]
    refine (br_t (decide_eq_true (by omega))).trans ?_
    refine (q_of (inB_t' (by omega) (by omega))).trans ?_
    refine (q_of (by simp)).trans ?_
    refine (q_of (app_t' (by simp only [List.length_cons, List.length_nil]; omega) (by simp only [List.length_cons, List.length_nil]; omega))).trans ?_
    refine (q_of (decide_eq_true (by simp [dvN_len]))).trans ?_
    rw [show ((i + 1 : Nat) : Int) = (i : Int) + 1 by omega]
    exact r_ret _
  · right
    have : i = p.length - 1 := by omega
    subst this
    refine (br_f (decide_eq_false (by omega))).trans ?_
    refine (r_bs (k_rCheckPoly _)).trans ?_
    unfold toldV
    by_cases hz : pcE (dvN p (p.length - 1)) = 0
    · rw [if_pos hz, if_pos hz]; exact (br_f (nd hz)).trans (r_ret _)
    · rw [if_neg hz, if_neg hz]; exact (br_t (nd' hz)).trans (r_ret _)
end

theorem k_NumberPolys {p : List (Int)} (b0 : bulkT (.list (.int .i64)) p ≤ 1048576) (w0 : wfT (.list (.int .i64)) p) : law01xNumberPolys p = some ((true, ()), ()) := by
  have hp : p.length ≤ 1048576 := by
    exact Nat.le_trans (bulk_len (a := .int .i64) (by decide)) b0
  show (T_law01xNumberPolys p).run = _
  unfold T_law01xNumberPolys
  rw [r_bind, awake_ok, Option.bind_some]
  refine (br_f rfl).trans ?_
  by_cases hl : 10 < (p.length : Int)
  · exact (br_t (decide_eq_true hl)).trans (r_ret _)
  refine (br_f (decide_eq_false hl)).trans ?_
  refine (r_bs (k_CopyInts hp)).trans ?_
  by_cases h : pcE p = 0
  · by_cases h1 : p.length = 1
    · have kd : number_Derivative p = some (([], 11, ()), ()) := by
        simp only [number_Derivative, T_number_Derivative]
        refine (r_bs (k_CheckPoly p)).trans ?_
        refine (br_f (nd h)).trans ?_
        exact (br_t (decide_eq_true (by omega))).trans (r_ret _)
      have kr : ref01xDerivative p = some (([], 11, ()), ()) := by
        simp only [ref01xDerivative, T_ref01xDerivative]
        exact (br_t (decide_eq_true (by omega))).trans (r_ret _)
      refine (r_bs kd).trans ?_
      refine (r_bs (k_rCheckPoly p)).trans ?_
      refine (r_bs (k_CopyInts hp)).trans ?_
      refine (r_bs (k_CheckPoly p)).trans ?_
      refine (br_f (nd rfl)).trans ?_
      refine (br_f (nd h)).trans ?_
      refine (r_bs kr).trans ?_
      refine (br_t rfl).trans ?_
      refine (r_bs (k_Ints (by simp))).trans ?_
      exact r_ret _
    · refine (r_bs (k_Derivative h h1)).trans ?_
      refine (r_bs (k_rCheckPoly p)).trans ?_
      refine (r_bs (k_CopyInts hp)).trans ?_
      refine (r_bs (k_CheckPoly p)).trans ?_
      refine (br_f (nd rfl)).trans ?_
      refine (br_f (nd h)).trans ?_
      refine (r_bs (k_rDerivative h h1)).trans ?_
      refine (br_t (decide_eq_true rfl)).trans ?_
      have hs : (toldV (dvN p (p.length - 1))).1.length ≤ 1048576 := by
        unfold toldV
        dsimp only
        split
        · rw [dvN_len]; omega
        · simp
      refine (r_bs (k_Ints hs)).trans ?_
      exact r_ret _
  · have kd : number_Derivative p = some (([], pcE p, ()), ()) := by
      simp only [number_Derivative, T_number_Derivative]
      refine (r_bs (k_CheckPoly p)).trans ?_
      exact (br_t (nd' h)).trans (r_ret _)
    refine (r_bs kd).trans ?_
    refine (r_bs (k_rCheckPoly p)).trans ?_
    refine (r_bs (k_CopyInts hp)).trans ?_
    refine (r_bs (k_CheckPoly p)).trans ?_
    refine (br_f (nd rfl)).trans ?_
    refine (br_t (nd' h)).trans ?_
    refine (br_t (decide_eq_true rfl)).trans ?_
    exact r_ret _
end Go.Ab
