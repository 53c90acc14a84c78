/- NumberRanges. -/
import Derived.Test.YtndppcmkaaebjaaF2
import Derived.Test.YtndppcmkaaebjaaQLNumberRanges
namespace Go.Ab
open Go
set_option maxRecDepth 1000000
set_option maxHeartbeats 1000000
set_option linter.unusedVariables false
set_option linter.unusedSimpArgs false
attribute [local congr] bindC iterC

/-- The error of a range. -/
def rgE (r : Int × Int) : Int := if -1000000000000000 ≤ r.1 ∧ r.1 ≤ 1000000000000000 then if -1000000000000000 ≤ r.2 ∧ r.2 ≤ 1000000000000000 then if r.2 < r.1 then 9 else 0 else 2 else 2
theorem k_CheckRange (r : Int × Int) : number_CheckRange r = some ((rgE r, ()), ()) := by
  simp only [number_CheckRange, T_number_CheckRange, rgE]
  refine (r_bs (k_between _ _ _)).trans ?_
  by_cases h1 : -1000000000000000 ≤ r.1 ∧ r.1 ≤ 1000000000000000
  · refine (br_f (nd h1)).trans ?_
    rw [if_pos h1]
    refine (r_bs (k_between _ _ _)).trans ?_
    by_cases h2 : -1000000000000000 ≤ r.2 ∧ r.2 ≤ 1000000000000000
    · refine (br_f (nd h2)).trans ?_
      rw [if_pos h2]
      by_cases h3 : r.2 < r.1
      · rw [if_pos h3]; exact (br_t (decide_eq_true h3)).trans (r_ret _)
      · rw [if_neg h3]; exact (br_f (decide_eq_false h3)).trans (r_ret _)
    · rw [if_neg h2]; exact (br_t (nd' h2)).trans (r_ret _)
  · rw [if_neg h1]; exact (br_t (nd' h1)).trans (r_ret _)
theorem k_rCheckRange (r : Int × Int) : ref01xCheckRange r = some ((rgE r, ()), ()) := by
  simp only [ref01xCheckRange, T_ref01xCheckRange, r_iter]
  refine iter_eq (fun i x => (i = 0 ∧ x = (0, ())) ∨ (i = 1 ∧ x = (1, ()) ∧ -1000000000000000 ≤ r.1 ∧ r.1 ≤ 1000000000000000) ∨ (i = 2 ∧ x = (2, ()) ∧ (-1000000000000000 ≤ r.1 ∧ r.1 ≤ 1000000000000000) ∧ -1000000000000000 ≤ r.2 ∧ r.2 ≤ 1000000000000000)) _ 2 (by omega) ?_ (.inl ⟨rfl, rfl⟩)
  rintro i x hi (⟨rfl, rfl⟩ | ⟨rfl, rfl, h1⟩ | ⟨rfl, rfl, h1, h2⟩)
  · simp only [T_ref01xCheckRange_l0]
    by_cases c1 : r.1 < -1000000000000000
    · right
      refine (br_t rfl).trans ((br_t rfl).trans ((br_t (decide_eq_true c1)).trans ((r_ret _).trans ?_)))
      unfold rgE; rw [if_neg (by omega)]
    · by_cases c2 : 1000000000000000 < r.1
      · right
        refine (br_t rfl).trans ((br_t rfl).trans ((br_f (decide_eq_false c1)).trans ((br_t (decide_eq_true c2)).trans ((r_ret _).trans ?_))))
        unfold rgE; rw [if_neg (by omega)]
      · left
        exact ⟨_, (br_t rfl).trans ((br_t rfl).trans ((br_f (decide_eq_false c1)).trans ((br_f (decide_eq_false c2)).trans (r_ret _)))), by omega, .inr (.inl ⟨by trivial, rfl, by omega, by omega⟩)⟩
  · simp only [T_ref01xCheckRange_l0]
    by_cases c1 : r.2 < -1000000000000000
    · right
      refine (br_t rfl).trans ((br_f rfl).trans ((br_t rfl).trans ((br_t (decide_eq_true c1)).trans ((r_ret _).trans ?_))))
      unfold rgE; rw [if_pos h1, if_neg (by omega)]
    · by_cases c2 : 1000000000000000 < r.2
      · right
        refine (br_t rfl).trans ((br_f rfl).trans ((br_t rfl).trans ((br_f (decide_eq_false c1)).trans ((br_t (decide_eq_true c2)).trans ((r_ret _).trans ?_)))))
        unfold rgE; rw [if_pos h1, if_neg (by omega)]
      · left
        exact ⟨_, (br_t rfl).trans ((br_f rfl).trans ((br_t rfl).trans ((br_f (decide_eq_false c1)).trans ((br_f (decide_eq_false c2)).trans (r_ret _))))), by omega, .inr (.inr ⟨by trivial, rfl, h1, by omega, by omega⟩)⟩
  · right
    simp only [T_ref01xCheckRange_l0]
    refine (br_f rfl).trans ?_
    unfold rgE; rw [if_pos h1, if_pos h2]
    by_cases h3 : r.2 < r.1
    · rw [if_pos h3]; exact (br_t (decide_eq_true h3)).trans (r_ret _)
    · rw [if_neg h3]; exact (br_f (decide_eq_false h3)).trans (r_ret _)
def rg2 (a b : Int × Int) : Int := if rgE a = 0 then rgE b else rgE a
theorem k_both (a b : Int × Int) : law01xboth a b = some ((rg2 a b, ()), ()) := by
  simp only [law01xboth, T_law01xboth, rg2]
  refine (r_bs (k_rCheckRange a)).trans ?_
  by_cases h : rgE a = 0
  · rw [if_pos h]
    refine (br_f (nd h)).trans ?_
    refine (r_bs (k_rCheckRange b)).trans ?_
    exact r_ret _
  · rw [if_neg h]
    exact (br_t (nd' h)).trans (r_ret _)
theorem k_checkRanges (a b : Int × Int) : number_checkRanges [a, b] = some ((rg2 a b, ()), ()) := by
  have hf : firstErr (fun i => rgE (gi [a, b] (i : Int))) 2 = rg2 a b := by
    show (if (if (0 : Int) ≠ 0 then (0 : Int) else rgE a) ≠ 0 then (if (0 : Int) ≠ 0 then (0 : Int) else rgE a) else rgE b) = _
    unfold rg2
    by_cases h : rgE a = 0 <;> simp [h]
  rw [← hf]
  simp only [number_checkRanges, T_number_checkRanges, r_iter]
  refine iter_err (fun i => ((i : Int), ())) (fun i => rgE (gi [a, b] i)) 2 (by omega) (fun e => ((e, ()), ())) ?_ ?_ ?_
  · intro i hi _ hc
    simp only [T_number_checkRanges_l0]
    refine (br_t (decide_eq_true (by simp only [List.length_cons, List.length_nil]; omega))).trans ?_
    refine (q_of (inB_t' (by omega) (by simp only [List.length_cons, List.length_nil]; omega))).trans ?_
    refine (r_bs (k_CheckRange _)).trans ?_
    exact (br_t (nd' hc)).trans (r_ret _)
  · intro i hi _ hc
    simp only [T_number_checkRanges_l0]
    refine (br_t (decide_eq_true (by simp only [List.length_cons, List.length_nil]; omega))).trans ?_
    refine (q_of (inB_t' (by omega) (by simp only [List.length_cons, List.length_nil]; omega))).trans ?_
    refine (r_bs (k_CheckRange _)).trans ?_
    refine (br_f (nd hc)).trans ?_
    rw [w64' (x := (i : Int) + 1) (by omega) (by omega)]
    exact r_ret _
  · intro _
    simp only [T_number_checkRanges_l0]
    exact (br_f rfl).trans (r_ret _)
def mkR (lo hi : Int) : (Int × Int) × Int × Unit := (if rgE (lo, hi) = 0 then (lo, hi) else (0, 0), if rgE (lo, hi) = 0 then 0 else 8, ())
theorem k_fits (lo hi : Int) : number_fits lo hi = some (mkR lo hi, ()) := by
  simp only [number_fits, T_number_fits, mkR]
  refine (r_bs (k_CheckRange _)).trans ?_
  by_cases h : rgE (lo, hi) = 0
  · rw [if_pos h, if_pos h]; exact (br_f (nd h)).trans (r_ret _)
  · rw [if_neg h, if_neg h]; exact (br_t (nd' h)).trans (r_ret _)
theorem k_rvalid (r : Int × Int) : ref01xvalid r = some (mkR r.1 r.2, ()) := by
  simp only [ref01xvalid, T_ref01xvalid, mkR]
  refine (r_bs (k_rCheckRange _)).trans ?_
  by_cases h : rgE (r.1, r.2) = 0
  · rw [if_pos h, if_pos h]; exact (br_f (nd h)).trans (r_ret _)
  · rw [if_neg h, if_neg h]; exact (br_t (nd' h)).trans (r_ret _)
theorem rgE_bd {r : Int × Int} (h : rgE r = 0) : (-1000000000000000 ≤ r.1 ∧ r.1 ≤ 1000000000000000) ∧ (-1000000000000000 ≤ r.2 ∧ r.2 ≤ 1000000000000000) ∧ r.1 ≤ r.2 := by
  unfold rgE at h
  split at h
  · split at h
    · split at h
      · cases h
      · exact ⟨by assumption, by assumption, by omega⟩
    · cases h
  · cases h
theorem rg2_zero {a b : Int × Int} (h : rg2 a b = 0) : rgE a = 0 ∧ rgE b = 0 := by
  unfold rg2 at h
  split at h
  · exact ⟨by assumption, h⟩
  · contradiction
def meetV (a b : Int × Int) : (Int × Int) × Int × Unit := if min a.2 b.2 < max a.1 b.1 then ((0, 0), 12, ()) else ((max a.1 b.1, min a.2 b.2), 0, ())

theorem k_NumberRanges {a : (Int × Int)} {b : (Int × Int)} (b0 : bulkT (.pair (.int .i64) (.int .i64)) a ≤ 1048576) (w0 : wfT (.pair (.int .i64) (.int .i64)) a) (b1 : bulkT (.pair (.int .i64) (.int .i64)) b ≤ 1048576) (w1 : wfT (.pair (.int .i64) (.int .i64)) b) : law01xNumberRanges a b = some ((true, ()), ()) := by
  show (T_law01xNumberRanges a b).run = _
  unfold T_law01xNumberRanges
  rw [r_bind, awake_ok, Option.bind_some]
  refine (br_f rfl).trans ?_
  by_cases h : rg2 a b = 0
  · obtain ⟨ha, hb⟩ := rg2_zero h
    have ha' := rgE_bd ha
    have hb' := rgE_bd hb
    have kP : number_Plus a b = some (mkR (a.1 + b.1) (a.2 + b.2), ()) := by
      simp only [number_Plus, T_number_Plus]
      rw [w64' (x := a.1 + b.1) (by omega) (by omega), w64' (x := a.2 + b.2) (by omega) (by omega)]
      refine (r_bs (k_checkRanges a b)).trans ?_
      refine (br_f (nd h)).trans ?_
      refine (r_bs (k_fits _ _)).trans ?_
      exact r_ret _
    have kM : number_Minus a b = some (mkR (a.1 - b.2) (a.2 - b.1), ()) := by
      simp only [number_Minus, T_number_Minus]
      rw [w64' (x := a.1 - b.2) (by omega) (by omega), w64' (x := a.2 - b.1) (by omega) (by omega)]
      refine (r_bs (k_checkRanges a b)).trans ?_
      refine (br_f (nd h)).trans ?_
      refine (r_bs (k_fits _ _)).trans ?_
      exact r_ret _
    have kX : number_Meet a b = some (meetV a b, ()) := by
      simp only [number_Meet, T_number_Meet, meetV]
      refine (r_bs (k_checkRanges a b)).trans ?_
      refine (br_f (nd h)).trans ?_
      by_cases c : min a.2 b.2 < max a.1 b.1
      · rw [if_pos c]; exact (br_t (decide_eq_true c)).trans (r_ret _)
      · rw [if_neg c]; exact (br_f (decide_eq_false c)).trans (r_ret _)
    have kH : number_Hull a b = some (((min a.1 b.1, max a.2 b.2), 0, ()), ()) := by
      simp only [number_Hull, T_number_Hull]
      refine (r_bs (k_checkRanges a b)).trans ?_
      exact (br_f (nd h)).trans (r_ret _)
    have kP' : ref01xPlus a b = some (mkR (a.1 + b.1) (a.2 + b.2), ()) := by
      simp only [ref01xPlus, T_ref01xPlus]
      rw [w64' (x := a.1 + b.1) (by omega) (by omega), w64' (x := a.2 + b.2) (by omega) (by omega)]
      refine (r_bs (k_rvalid _)).trans ?_
      exact r_ret _
    have kM' : ref01xMinus a b = some (mkR (a.1 - b.2) (a.2 - b.1), ()) := by
      simp only [ref01xMinus, T_ref01xMinus]
      rw [w64' (x := a.1 - b.2) (by omega) (by omega), w64' (x := a.2 - b.1) (by omega) (by omega)]
      refine (r_bs (k_rvalid _)).trans ?_
      exact r_ret _
    have kX' : ref01xMeet a b = some (meetV a b, ()) := by
      simp only [ref01xMeet, T_ref01xMeet, meetV]
      by_cases c : min a.2 b.2 < max a.1 b.1
      · rw [if_pos c]; exact (br_t (decide_eq_true c)).trans (r_ret _)
      · rw [if_neg c]; exact (br_f (decide_eq_false c)).trans (r_ret _)
    have kH' : ref01xHull a b = some (((min a.1 b.1, max a.2 b.2), ()), ()) := by
      simp only [ref01xHull, T_ref01xHull]
      exact r_ret _
    refine (r_bs kP).trans ?_
    refine (r_bs kM).trans ?_
    refine (r_bs kX).trans ?_
    refine (r_bs kH).trans ?_
    refine (r_bs (k_CheckRange _)).trans ?_
    refine (r_bs (k_rCheckRange _)).trans ?_
    refine (br_f (nd rfl)).trans ?_
    refine (r_bs (k_both _ _)).trans ?_
    refine (br_f (nd h)).trans ?_
    refine (r_bs kP').trans ?_
    refine (r_bs kM').trans ?_
    refine (r_bs kX').trans ?_
    refine (br_t (same2' _ _)).trans ?_
    refine (br_t (decide_eq_true rfl)).trans ?_
    refine (br_t (same2' _ _)).trans ?_
    refine (br_t (decide_eq_true rfl)).trans ?_
    refine (br_t (same2' _ _)).trans ?_
    refine (br_t (decide_eq_true rfl)).trans ?_
    refine (br_t rfl).trans ?_
    refine (r_bs kH').trans ?_
    refine (r_ret _).trans ?_
    rw [same2']
  · have kP : number_Plus a b = some (((0, 0), rg2 a b, ()), ()) := by
      simp only [number_Plus, T_number_Plus]
      refine (r_bs (k_checkRanges a b)).trans ?_
      exact (br_t (nd' h)).trans (r_ret _)
    have kM : number_Minus a b = some (((0, 0), rg2 a b, ()), ()) := by
      simp only [number_Minus, T_number_Minus]
      refine (r_bs (k_checkRanges a b)).trans ?_
      exact (br_t (nd' h)).trans (r_ret _)
    have kX : number_Meet a b = some (((0, 0), rg2 a b, ()), ()) := by
      simp only [number_Meet, T_number_Meet]
      refine (r_bs (k_checkRanges a b)).trans ?_
      exact (br_t (nd' h)).trans (r_ret _)
    have kH : number_Hull a b = some (((0, 0), rg2 a b, ()), ()) := by
      simp only [number_Hull, T_number_Hull]
      refine (r_bs (k_checkRanges a b)).trans ?_
      exact (br_t (nd' h)).trans (r_ret _)
    refine (r_bs kP).trans ?_
    refine (r_bs kM).trans ?_
    refine (r_bs kX).trans ?_
    refine (r_bs kH).trans ?_
    refine (r_bs (k_CheckRange _)).trans ?_
    refine (r_bs (k_rCheckRange _)).trans ?_
    refine (br_f (nd rfl)).trans ?_
    refine (r_bs (k_both _ _)).trans ?_
    refine (br_t (nd' h)).trans ?_
    refine (br_t (decide_eq_true rfl)).trans ?_
    refine (br_t (decide_eq_true rfl)).trans ?_
    refine (br_t (decide_eq_true rfl)).trans ?_
    refine (br_t (decide_eq_true rfl)).trans ?_
    refine (br_t rfl).trans ?_
    refine (br_t rfl).trans ?_
    refine (br_t rfl).trans ?_
    exact r_ret _
end Go.Ab
