/- Polynomials: what CheckPoly, told and Ints compute. -/
import Derived.Test.YtgncmamcgplcgaaF2
namespace Go.Ab
open Go
set_option maxRecDepth 1000000
set_option maxHeartbeats 1000000
set_option linter.unusedVariables false
set_option linter.unusedSimpArgs false

def coE (c : Int) : Int := if -1000000 ≤ c ∧ c ≤ 1000000 then 0 else 2
def pcF (p : List Int) (e : Int) : Int := if e = 0 then if gi p ((p.length : Int) - 1) = 0 then 3 else 0 else e
/-- The error of a polynomial. -/
def pcE (p : List Int) : Int := if 1 ≤ (p.length : Int) ∧ (p.length : Int) ≤ 7 then pcF p (firstErr (fun i => coE (gi p (i : Int))) p.length) else 10
theorem k_CheckPoly (p : List Int) : number_CheckPoly p = some ((pcE p, ()), ()) := by
  simp only [number_CheckPoly, T_number_CheckPoly, pcE]
  refine (r_bs (k_between _ _ _)).trans ?_
  by_cases h : 1 ≤ (p.length : Int) ∧ (p.length : Int) ≤ 7
  · refine (br_f (nd h)).trans ?_
    rw [if_pos h, r_iter]
    refine iter_err (fun i => ((i : Int), ())) (fun i => coE (gi p i)) p.length (by omega) (fun e => ((pcF p e, ()), ())) ?_ ?_ ?_
    · intro i hi _ hc
      simp only [T_number_CheckPoly_l1]
      have hn : ¬ (-1000000 ≤ gi p (i : Int) ∧ gi p (i : Int) ≤ 1000000) := fun h' => hc (if_pos h')
      refine (br_t (decide_eq_true (by omega))).trans ?_
      refine (q_of (inB_t' (by omega) (by omega))).trans ?_
      refine (r_bs (k_between _ _ _)).trans ?_
      refine (br_t (nd' hn)).trans ?_
      refine (r_ret _).trans ?_
      have : coE (gi p (i : Int)) = 2 := if_neg hn
      rw [this]; rfl
    · intro i hi _ hc
      simp only [T_number_CheckPoly_l1]
      have hn : -1000000 ≤ gi p (i : Int) ∧ gi p (i : Int) ≤ 1000000 := by
        by_cases h' : -1000000 ≤ gi p (i : Int) ∧ gi p (i : Int) ≤ 1000000
        · exact h'
        · unfold coE at hc; rw [if_neg h'] at hc; cases hc
      refine (br_t (decide_eq_true (by omega))).trans ?_
      refine (q_of (inB_t' (by omega) (by omega))).trans ?_
      refine (r_bs (k_between _ _ _)).trans ?_
      refine (br_f (nd hn)).trans ?_
      rw [w64' (x := (i : Int) + 1) (by omega) (by omega)]
      exact r_ret _
    · intro _
      simp only [T_number_CheckPoly_l1]
      rw [w64' (x := (p.length : Int) - 1) (by omega) (by omega)]
      refine (br_f (decide_eq_false (by omega))).trans ?_
      refine (q_of (inB_t' (by omega) (by omega))).trans ?_
      unfold pcF
      rw [if_pos rfl]
      by_cases hz : gi p ((p.length : Int) - 1) = 0
      · rw [if_pos hz]; exact (br_t (decide_eq_true hz)).trans (r_ret _)
      · rw [if_neg hz]; exact (br_f (decide_eq_false hz)).trans (r_ret _)
  · rw [if_neg h]
    exact (br_t (nd' h)).trans (r_ret _)
theorem k_rCheckPoly (p : List Int) : ref01xCheckPoly p = some ((pcE p, ()), ()) := by
  simp only [ref01xCheckPoly, T_ref01xCheckPoly, pcE]
  refine (r_bs (k_Within _ _ _)).trans ?_
  by_cases h : 1 ≤ (p.length : Int) ∧ (p.length : Int) ≤ 7
  · refine (br_f (nd h)).trans ?_
    rw [if_pos h, r_iter]
    refine iter_err (fun i => ((i : Int), ())) (fun i => coE (gi p i)) p.length (by omega) (fun e => ((pcF p e, ()), ())) ?_ ?_ ?_
    · intro i hi _ hc
      simp only [T_ref01xCheckPoly_l1]
      have hn : ¬ (-1000000 ≤ gi p (i : Int) ∧ gi p (i : Int) ≤ 1000000) := fun h' => hc (if_pos h')
      refine (br_t (decide_eq_true (by omega))).trans ?_
      refine (q_of (inB_t' (by omega) (by omega))).trans ?_
      refine (r_bs (k_Within _ _ _)).trans ?_
      refine (br_t (nd' hn)).trans ?_
      refine (r_ret _).trans ?_
      have : coE (gi p (i : Int)) = 2 := if_neg hn
      rw [this]; rfl
    · intro i hi _ hc
      simp only [T_ref01xCheckPoly_l1]
      have hn : -1000000 ≤ gi p (i : Int) ∧ gi p (i : Int) ≤ 1000000 := by
        by_cases h' : -1000000 ≤ gi p (i : Int) ∧ gi p (i : Int) ≤ 1000000
        · exact h'
        · unfold coE at hc; rw [if_neg h'] at hc; cases hc
      refine (br_t (decide_eq_true (by omega))).trans ?_
      refine (q_of (inB_t' (by omega) (by omega))).trans ?_
      refine (r_bs (k_Within _ _ _)).trans ?_
      refine (br_f (nd hn)).trans ?_
      rw [w64' (x := (i : Int) + 1) (by omega) (by omega)]
      exact r_ret _
    · intro _
      simp only [T_ref01xCheckPoly_l1]
      rw [w64' (x := (p.length : Int) - 1) (by omega) (by omega)]
      refine (br_f (decide_eq_false (by omega))).trans ?_
      refine (q_of (inB_t' (by omega) (by omega))).trans ?_
      unfold pcF
      rw [if_pos rfl]
      by_cases hz : gi p ((p.length : Int) - 1) = 0
      · rw [if_pos hz]; exact (br_t (decide_eq_true hz)).trans (r_ret _)
      · rw [if_neg hz]; exact (br_f (decide_eq_false hz)).trans (r_ret _)
  · rw [if_neg h]
    exact (br_t (nd' h)).trans (r_ret _)
theorem pcE_zero {p : List Int} (h : pcE p = 0) : 1 ≤ p.length ∧ p.length ≤ 7 ∧ (∀ i : Nat, i < p.length → -1000000 ≤ gi p (i : Int) ∧ gi p (i : Int) ≤ 1000000) ∧ gi p ((p.length : Int) - 1) ≠ 0 := by
  unfold pcE at h
  split at h
  · rename_i hl
    unfold pcF at h
    split at h
    · rename_i h0
      have h1 := firstErr_eq0 h0
      refine ⟨by omega, by omega, fun i hi => ?_, ?_⟩
      · have := h1 i hi
        by_cases h' : -1000000 ≤ gi p (i : Int) ∧ gi p (i : Int) ≤ 1000000
        · exact h'
        · unfold coE at this; rw [if_neg h'] at this; cases this
      · intro h'
        rw [if_pos h'] at h; cases h
    · contradiction
  · cases h
def toldV (p : List Int) : List Int × Int × Unit := (if pcE p = 0 then p else [], if pcE p = 0 then 0 else 8, ())
theorem k_told (p : List Int) : number_told p = some (toldV p, ()) := by
  simp only [number_told, T_number_told, toldV]
  refine (r_bs (k_CheckPoly p)).trans ?_
  by_cases h : pcE p = 0
  · rw [if_pos h, if_pos h]; exact (br_f (nd h)).trans (r_ret _)
  · rw [if_neg h, if_neg h]; exact (br_t (nd' h)).trans (r_ret _)
theorem k_CopyInts {l : List Int} (h : l.length ≤ 1048576) : base_CopyInts l = some ((l, ()), ()) := by
  simp only [base_CopyInts, T_base_CopyInts]
  exact (q_of (app_t' (by omega) (by omega))).trans (r_ret _)
theorem k_Ints {l : List Int} (h : l.length ≤ 1048576) : base_Ints l l = some ((true, ()), ()) := by
  show (T_base_Ints l l).run = _
  unfold T_base_Ints
  refine (br_f (nd (p := (l.length : Int) = l.length) rfl)).trans ?_
  rw [r_iter]
  refine iter_eq (fun i x => x = ((i : Int), ())) _ l.length (by omega) ?_ rfl
  rintro i x hi rfl
  by_cases hlt : i < l.length
  · left
    refine ⟨_, ?_, hlt, rfl⟩
    show (T_base_Ints_l0 l l _).run = _
    unfold T_base_Ints_l0
    refine (br_t (decide_eq_true (by omega))).trans ?_
    refine (q_of (inB_t' (by omega) (by omega))).trans ?_
    refine (q_of (inB_t' (by omega) (by omega))).trans ?_
    refine (br_f (nd (p := gi l (i : Int) = gi l (i : Int)) rfl)).trans ?_
    rw [w64' (x := (i : Int) + 1) (by omega) (by omega)]
    exact r_ret _
  · right
    show (T_base_Ints_l0 l l _).run = _
    unfold T_base_Ints_l0
    refine (br_f (decide_eq_false (by omega))).trans ?_
    exact r_ret _
theorem gi_app {α : Type} [Inhabited α] {l : List α} {i : Int} (h : 0 ≤ i) (h2 : i < l.length) (r : List α) : gi (l ++ r) i = gi l i := by
  have h3 : i.toNat < l.length := by omega
  simp [gi, List.getD, List.getElem?_append_left h3]
end Go.Ab
