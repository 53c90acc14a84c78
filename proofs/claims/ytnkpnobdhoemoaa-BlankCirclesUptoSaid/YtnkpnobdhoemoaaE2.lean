/- BlankCircles answers true. -/
import Derived.Test.YtnkpnobdhoemoaaE1
import Derived.Test.YtnkpnobdhoemoaaQLBlankCircles
namespace Go.Ab
open Go
set_option maxRecDepth 1000000
set_option maxHeartbeats 1000000
set_option linter.unusedVariables false
set_option linter.unusedSimpArgs false

theorem k_BlankCircles {a : (Int × (Int × (List ((Int × (Int × Int))) × List ((Int × (Int × Int))))))} {circle : List (Int)} (b0 : bulkT (.pair (.int .i64) (.pair (.int .i64) (.pair (.list (.pair (.int .i64) (.pair (.int .i64) (.int .i64)))) (.list (.pair (.int .i64) (.pair (.int .i64) (.int .i64))))))) a ≤ 1048576) (w0 : wfT (.pair (.int .i64) (.pair (.int .i64) (.pair (.list (.pair (.int .i64) (.pair (.int .i64) (.int .i64)))) (.list (.pair (.int .i64) (.pair (.int .i64) (.int .i64))))))) a) (b1 : bulkT (.list (.int .i64)) circle ≤ 1048576) (w1 : wfT (.list (.int .i64)) circle) : law03xBlankCircles a circle = some ((true, ()), ()) := by
  simp only [law03xBlankCircles, T_law03xBlankCircles]
  rw [r_bind, awake_ok, Option.bind_some]
  refine (br_f rfl).trans ?_
  obtain ⟨b, hf, hb⟩ := k_Light a
  refine (r_bs hf).trans ?_
  cases b with
  | false => exact (br_t rfl).trans (r_ret _)
  | true =>
    obtain ⟨l1, l2⟩ := hb rfl
    have o := k_own l1 l2
    refine (br_f rfl).trans ?_
    by_cases h30 : 30 < circle.length
    · refine (br_t (decide_eq_true (by omega))).trans ?_
      by_cases h200 : circle.length ≤ 200
      · exact (br_t (decide_eq_true (by omega))).trans (r_ret _)
      · refine (br_f (decide_eq_false (by omega))).trans ?_
        by_cases h203 : 203 < circle.length
        · exact (br_t (decide_eq_true (by omega))).trans (r_ret _)
        · refine (br_f (decide_eq_false (by omega))).trans ?_
          refine (r_bs o).trans ?_
          refine (r_bs (k_CopyInts (l := circle) (by omega))).trans ?_
          refine (r_bs (k_CheckCircle a circle)).trans ?_
          refine (r_bs (k_rCheckAnnealing a)).trans ?_
          by_cases h0 : annE a = 0
          · have h := an_of h0
            refine (br_f (nd h0)).trans ?_
            refine (r_bs (k_rCheckCircle h circle)).trans ?_
            rw [if_pos h0]
            refine (br_f (nd rfl)).trans ?_
            refine (br_f (nd rfl)).trans ?_
            by_cases hc : ccE (sysL a) circle = 0
            · refine (br_f (nd hc)).trans ?_
              refine (r_bs o).trans ?_
              obtain ⟨t, c, er, k1, o1⟩ := k_Earliest h0
              refine (r_bs k1).trans ?_
              rcases o1 with ⟨_, _, _, q2, _⟩ | ⟨rfl, rfl, q1⟩
              · exact absurd (cc_none hc q2) id
              · have hl := (ccE_0 q1).1
                refine (br_t rfl).trans ?_
                refine (r_ret _).trans ?_
                dsimp only
                rw [decide_eq_true (show (0 : Int) < (c.length : Int) by omega)]
            · refine (br_t (nd' hc)).trans ?_
              exact r_ret _
          · refine (br_t (nd' h0)).trans ?_
            rw [if_neg h0]
            refine (br_t (decide_eq_true rfl)).trans ?_
            exact r_ret _
    · refine (br_f (decide_eq_false (by omega))).trans ?_
      refine (br_f (decide_eq_false (by omega))).trans ?_
      refine (r_bs o).trans ?_
      refine (r_bs (k_CopyInts (l := circle) (by omega))).trans ?_
      refine (r_bs (k_CheckCircle a circle)).trans ?_
      refine (r_bs (k_rCheckAnnealing a)).trans ?_
      by_cases h0 : annE a = 0
      · have h := an_of h0
        refine (br_f (nd h0)).trans ?_
        refine (r_bs (k_rCheckCircle h circle)).trans ?_
        rw [if_pos h0]
        refine (br_f (nd rfl)).trans ?_
        refine (br_f (nd rfl)).trans ?_
        by_cases hc : ccE (sysL a) circle = 0
        · refine (br_f (nd hc)).trans ?_
          refine (r_bs o).trans ?_
          obtain ⟨t, c, er, k1, o1⟩ := k_Earliest h0
          refine (r_bs k1).trans ?_
          rcases o1 with ⟨_, _, _, q2, _⟩ | ⟨rfl, rfl, q1⟩
          · exact absurd (cc_none hc q2) id
          · have hl := (ccE_0 q1).1
            refine (br_t rfl).trans ?_
            refine (r_ret _).trans ?_
            dsimp only
            rw [decide_eq_true (show (0 : Int) < (c.length : Int) by omega)]
        · refine (br_t (nd' hc)).trans ?_
          exact r_ret _
      · refine (br_t (nd' h0)).trans ?_
        rw [if_neg h0]
        refine (br_t (decide_eq_true rfl)).trans ?_
        exact r_ret _
end Go.Ab
