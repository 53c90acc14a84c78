/- NumberPolys. -/
import Derived.Test.YtgncmamcgplcgaaR1
import Derived.Test.YtgncmamcgplcgaaF7
namespace Go.Ab
open Go
set_option maxRecDepth 1000000
set_option maxHeartbeats 1000000
set_option linter.unusedVariables false
set_option linter.unusedSimpArgs false

def dvN (p : List Int) (n : Nat) : List Int := (List.range n).map fun (i : Nat) => ((i : Int) + 1) * gi p ((i : Int) + 1)
theorem dvN_succ (p : List Int) (n : Nat) : dvN p (n + 1) = dvN p n ++ [((n : Int) + 1) * gi p ((n : Int) + 1)] := by simp [dvN, List.range_succ]
theorem dvN_len (p : List Int) (n : Nat) : (dvN p n).length = n := by simp [dvN]
theorem gi_tail (p : List Int) (i : Nat) : gi (part p 1 (p.length : Int)) (i : Int) = gi p ((i : Int) + 1) := by
  have : ((i : Int) + 1).toNat = i + 1 := by omega
  simp [gi, part, List.getD, this, Nat.add_comm]
theorem tail_len (p : List Int) : (part p 1 (p.length : Int)).length = p.length - 1 := by simp [part]
section
variable {p : List Int} (h : pcE p = 0)
include h
theorem dv_bd {i : Nat} (hi : i + 1 < p.length) : -7000000 ≤ ((i : Int) + 1) * gi p ((i : Int) + 1) ∧ ((i : Int) + 1) * gi p ((i : Int) + 1) ≤ 7000000 := by
  obtain ⟨h1, h2, h3, h4⟩ := pcE_zero h
  have := h3 (i + 1) hi
  rw [show ((i + 1 : Nat) : Int) = (i : Int) + 1 by omega] at this
  have := mul_bd (a := (i : Int) + 1) (b := gi p ((i : Int) + 1)) (m := 7) (n := 1000000) (by omega) (by omega) (by omega) (by omega)
  omega
theorem k_Derivative (hl : p.length ≠ 1) : number_Derivative p = some (toldV (dvN p (p.length - 1)), ()) := by
  obtain ⟨h1, h2, h3, h4⟩ := pcE_zero h
  simp only [number_Derivative, T_number_Derivative]
  refine (r_bs (k_CheckPoly p)).trans ?_
  refine (br_f (nd h)).trans ?_
  refine (br_f (decide_eq_false (by omega))).trans ?_
  refine (q_of (bnd_t' (by omega) (by omega) (by omega))).trans ?_
  refine (q_of rfl).trans ?_
  rw [r_iter]
  refine iter_eq (fun i x => i ≤ p.length - 1 ∧ x = (dvN p i, (i : Int), ())) _ (p.length - 1) (by omega) ?_ ⟨by omega, rfl⟩
  rintro i x hi ⟨hi2, rfl⟩
  simp only [T_number_Derivative_l1, tail_len, gi_tail, dvN_len]
  by_cases hlt : i < p.length - 1
  · left
    have hb := dv_bd h (i := i) (by omega)
    refine ⟨_, ?_, hlt, by omega, rfl⟩
    rw [dvN_succ, w64' (x := (i : Int) + 1) (by omega) (by omega), w64' (x := ((i : Int) + 1) * gi p ((i : Int) + 1)) (by omega) (by omega)]
    refine (br_t (decide_eq_true (by omega))).trans ?_
    refine (q_of (inB_t' (by omega) (by omega))).trans ?_
    refine (q_of (by simp)).trans ?_
    refine (q_of (app_t' (by simp only [List.length_cons, List.length_nil]; omega) (by simp only [List.length_cons, List.length_nil]; omega))).trans ?_
    refine (q_of (decide_eq_true (by simp [dvN_len]))).trans ?_
    rw [show ((i + 1 : Nat) : Int) = (i : Int) + 1 by omega]
    exact r_ret _
  · right
    have : i = p.length - 1 := by omega
    subst this
    refine (br_f (decide_eq_false (by omega))).trans ?_
    refine (r_bs (k_told _)).trans ?_
    exact r_ret _
end

end Go.Ab
