/- BlankDemands answers true. -/
import Derived.Test.YtnkpnobdhoemoaaC1
import Derived.Test.YtnkpnobdhoemoaaQLBlankDemands
import Derived.Test.YtnkpnobdhoemoaaR1
namespace Go.Ab
open Go
set_option maxRecDepth 1000000
set_option maxHeartbeats 1000000
set_option linter.unusedVariables false
set_option linter.unusedSimpArgs false

theorem ceil_le {w n l : Int} (hn : 0 < n) : -(-w / n) ≤ l ↔ w ≤ l * n := by
  have := Int.le_ediv_iff_mul_le (a := -l) (b := -w) (c := n) hn
  rw [Int.neg_mul] at this
  omega
theorem lm_keeps {a : Ann} (h : An a) {i : Int} (h0 : 0 ≤ i) (hi : i < a.2.2.1.length) : -(-work a i / lm a i) ≤ (gi a.2.2.1 i).2.1 := by
  have h4 := h.at h0 hi
  have h5 := h.lm_bd h0 hi
  rw [ceil_le (by omega), Int.mul_comm, ← ceil_le (by omega)]
  unfold lm
  omega
theorem lm_less {a : Ann} (h : An a) {i : Int} (h0 : 0 ≤ i) (hi : i < a.2.2.1.length) (h1 : lm a i ≠ 1) : (gi a.2.2.1 i).2.1 < -(-work a i / (lm a i - 1)) := by
  have h4 := h.at h0 hi
  have h5 := h.lm_bd h0 hi
  have e : ¬ -(-work a i / (lm a i - 1)) ≤ (gi a.2.2.1 i).2.1 := fun q => by
    rw [ceil_le (by omega), Int.mul_comm, ← ceil_le (by omega)] at q
    have : lm a i = max 1 (-(-(work a i) / (gi a.2.2.1 i).2.1)) := rfl
    omega
  omega

theorem k_BlankDemands {a : (Int × (Int × (List ((Int × (Int × Int))) × List ((Int × (Int × Int))))))} {step : Int} {minutes : Int} (b0 : bulkT (.pair (.int .i64) (.pair (.int .i64) (.pair (.list (.pair (.int .i64) (.pair (.int .i64) (.int .i64)))) (.list (.pair (.int .i64) (.pair (.int .i64) (.int .i64))))))) a ≤ 1048576) (w0 : wfT (.pair (.int .i64) (.pair (.int .i64) (.pair (.list (.pair (.int .i64) (.pair (.int .i64) (.int .i64)))) (.list (.pair (.int .i64) (.pair (.int .i64) (.int .i64))))))) a) (b1 : bulkT (.int .i64) step ≤ 1048576) (w1 : wfT (.int .i64) step) (b2 : bulkT (.int .i64) minutes ≤ 1048576) (w2 : wfT (.int .i64) minutes) : law03xBlankDemands a step minutes = some ((true, ()), ()) := by
  simp only [law03xBlankDemands, T_law03xBlankDemands]
  rw [r_bind, awake_ok, Option.bind_some]
  refine (br_f rfl).trans ?_
  obtain ⟨b, hf, hb⟩ := k_Light a
  refine (r_bs hf).trans ?_
  cases b with
  | false => exact (br_t rfl).trans (r_ret _)
  | true =>
    obtain ⟨l1, l2⟩ := hb rfl
    have o := k_own l1 l2
    refine (br_f rfl).trans ?_
    refine (r_bs o).trans ?_
    refine (r_bs (k_StressOf a step minutes)).trans ?_
    refine (r_bs o).trans ?_
    refine (r_bs (k_LeastMinutes a step)).trans ?_
    refine (r_bs (k_rCheckAnnealing a)).trans ?_
    refine (r_bs o).trans ?_
    refine (r_bs (k_CheckAnnealing a)).trans ?_
    refine (br_f (nd rfl)).trans ?_
    by_cases h : annE a = 0
    · have ha := an_of h
      have hl := ha.len
      refine (br_t (decide_eq_true h)).trans ?_
      rw [w64' (x := (a.2.2.1.length : Int) - 1) (by omega) (by omega)]
      refine (r_bs (k_Within _ _ _)).trans ?_
      by_cases h2 : 0 ≤ step ∧ step ≤ (a.2.2.1.length : Int) - 1
      · have hE : atE a step = 0 := by unfold atE; rw [if_pos h, if_pos h2]
        refine (br_f (nd h2)).trans ?_
        refine (br_f (nd h)).trans ?_
        refine (br_f (nd hE)).trans ?_
        refine (r_bs (k_rLeast ha h2.1 (by omega))).trans ?_
        refine (br_f (nd (if_pos hE))).trans ?_
        refine (r_bs (k_Within _ _ _)).trans ?_
        by_cases h3 : 1 ≤ minutes ∧ minutes ≤ 10000000
        · have hs : strE a step minutes = 0 := by unfold strE; rw [if_pos hE, if_pos h3]
          have hv : strV a step minutes = (work a step / minutes, -(-work a step / minutes)) := by unfold strV; rw [if_pos hs]
          have hw := ha.work_bd h2.1 (show step < a.2.2.1.length by omega)
          refine (br_f (nd h3)).trans ?_
          refine (br_f (nd hs)).trans ?_
          refine (r_bs (k_Work ha h2.1 (by omega))).trans ?_
          refine (r_bs (k_Rounded (n := work a step) (b := minutes) (by omega) (by omega) (by omega) (by omega))).trans ?_
          refine (br_f (by rw [hv]; simp)).trans ?_
          refine (q_of (inB_t' (by omega) (by omega))).trans ?_
          dsimp only
          rw [if_pos hE]
          have lb := ha.lm_bd h2.1 (show step < a.2.2.1.length by omega)
          by_cases h4 : 10000000 < lm a step
          · exact (br_t (decide_eq_true h4)).trans (r_ret _)
          · refine (br_f (decide_eq_false h4)).trans ?_
            refine (r_bs o).trans ?_
            refine (r_bs (k_StressOf a step (lm a step))).trans ?_
            have hs2 : strE a step (lm a step) = 0 := by unfold strE; rw [if_pos hE, if_pos (by omega)]
            have hv2 : strV a step (lm a step) = (work a step / lm a step, -(-work a step / lm a step)) := by unfold strV; rw [if_pos hs2]
            refine (br_f (nd hs2)).trans ?_
            refine (br_f (decide_eq_false (by rw [hv2]; have := lm_keeps ha h2.1 (show step < a.2.2.1.length by omega); dsimp only; omega))).trans ?_
            by_cases h5 : lm a step = 1
            · exact (br_t (decide_eq_true h5)).trans (r_ret _)
            · refine (br_f (decide_eq_false h5)).trans ?_
              refine (r_bs o).trans ?_
              rw [w64' (x := lm a step - 1) (by omega) (by omega)]
              refine (r_bs (k_StressOf a step (lm a step - 1))).trans ?_
              have hs3 : strE a step (lm a step - 1) = 0 := by unfold strE; rw [if_pos hE, if_pos (by omega)]
              have hv3 : strV a step (lm a step - 1) = (work a step / (lm a step - 1), -(-work a step / (lm a step - 1))) := by unfold strV; rw [if_pos hs3]
              refine (br_t (decide_eq_true hs3)).trans ?_
              refine (r_ret _).trans ?_
              rw [hv3]
              have := lm_less ha h2.1 (show step < a.2.2.1.length by omega) h5
              rw [decide_eq_true this]
        · have hs : strE a step minutes = 2 := by unfold strE; rw [if_pos hE, if_neg h3]
          have hv : strV a step minutes = (0, 0) := by unfold strV; rw [hs]; rfl
          refine (br_t (nd' h3)).trans ?_
          refine (br_t (decide_eq_true hs)).trans ?_
          refine (r_ret _).trans ?_
          rw [hv]; rfl
      · have hE : atE a step = 6 := by unfold atE; rw [if_pos h, if_neg h2]
        have hs : strE a step minutes = 6 := by unfold strE; rw [hE]; rfl
        have hv : strV a step minutes = (0, 0) := by unfold strV; rw [hs]; rfl
        refine (br_t (nd' h2)).trans ?_
        refine (br_t rfl).trans ?_
        refine (br_t (decide_eq_true hs)).trans ?_
        refine (br_t (decide_eq_true hE)).trans ?_
        refine (br_t (by rw [hv]; rfl)).trans ?_
        refine (r_ret _).trans ?_
        rw [hE]; rfl
    · have hE : atE a step = annE a := by unfold atE; rw [if_neg h]
      have hs : strE a step minutes = annE a := by unfold strE; rw [hE, if_neg h]
      have hv : strV a step minutes = (0, 0) := by unfold strV; rw [hs, if_neg h]
      refine (br_f (decide_eq_false h)).trans ?_
      refine (br_t (nd' h)).trans ?_
      refine (br_t (decide_eq_true hs)).trans ?_
      refine (br_t (decide_eq_true hE)).trans ?_
      refine (br_t (by rw [hv]; rfl)).trans ?_
      refine (r_ret _).trans ?_
      rw [hE, if_neg h]; rfl
end Go.Ab
