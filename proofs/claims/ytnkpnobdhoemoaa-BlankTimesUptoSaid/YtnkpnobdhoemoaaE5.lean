/- BlankTimes answers true. -/
import Derived.Test.YtnkpnobdhoemoaaE4
import Derived.Test.YtnkpnobdhoemoaaQLBlankTimes
namespace Go.Ab
open Go
set_option maxRecDepth 1000000
set_option maxHeartbeats 1000000
set_option linter.unusedVariables false
set_option linter.unusedSimpArgs false

theorem k_BlankTimes {a : (Int × (Int × (List ((Int × (Int × Int))) × List ((Int × (Int × Int))))))} {times : List (Int)} (b0 : bulkT (.pair (.int .i64) (.pair (.int .i64) (.pair (.list (.pair (.int .i64) (.pair (.int .i64) (.int .i64)))) (.list (.pair (.int .i64) (.pair (.int .i64) (.int .i64))))))) a ≤ 1048576) (w0 : wfT (.pair (.int .i64) (.pair (.int .i64) (.pair (.list (.pair (.int .i64) (.pair (.int .i64) (.int .i64)))) (.list (.pair (.int .i64) (.pair (.int .i64) (.int .i64))))))) a) (b1 : bulkT (.list (.int .i64)) times ≤ 1048576) (w1 : wfT (.list (.int .i64)) times) : law03xBlankTimes a times = some ((true, ()), ()) := by
  simp only [law03xBlankTimes, T_law03xBlankTimes]
  rw [r_bind, awake_ok, Option.bind_some]
  refine (br_f rfl).trans ?_
  obtain ⟨b, hf, hb⟩ := k_Light a
  refine (r_bs hf).trans ?_
  cases b with
  | false => exact (br_t rfl).trans (r_ret _)
  | true =>
    obtain ⟨l1, l2⟩ := hb rfl
    have o := k_own l1 l2
    refine (br_f rfl).trans ?_
    by_cases h12 : 12 < times.length
    · exact (br_t (decide_eq_true (by omega))).trans (r_ret _)
    · refine (br_f (decide_eq_false (by omega))).trans ?_
      have oc := k_CopyInts (l := times) (by omega)
      refine (r_bs o).trans ?_
      refine (r_bs oc).trans ?_
      refine (r_bs (k_CheckTimes a times)).trans ?_
      refine (r_bs o).trans ?_
      refine (r_bs oc).trans ?_
      by_cases h0 : annE a = 0
      · have h := an_of h0
        have hl := h.len
        rw [if_pos h0]
        by_cases hc : (ctR a times).1.2.1 = 0
        · have c := ct_of hc
          have hn := c.len
          rw [ct_all c]
          refine (r_bs (k_Worst h0 c)).trans ?_
          refine (r_bs (k_rCheckAnnealing a)).trans ?_
          refine (br_f (nd h0)).trans ?_
          refine (r_bs (k_rCheckTimes h times)).trans ?_
          rw [ct_all c]
          refine (br_f rfl).trans ?_
          refine (br_f rfl).trans ?_
          refine (br_f rfl).trans ?_
          refine (r_bs (k_rWorst h c)).trans ?_
          have wb := wrstS_bd h times
          have wk := h.work_bd wb.1 wb.2
          have mb := c.mt_bd h wb.1 wb.2
          have e1 : gi times (wrstS a times + 1) - gi times (wrstS a times) = mt times (wrstS a times) := rfl
          refine (br_f rfl).trans ?_
          refine (br_f (nd rfl)).trans ?_
          refine (r_bs (k_Work h wb.1 wb.2)).trans ?_
          dsimp only
          rw [w64' (x := wrstS a times + 1) (by omega) (by omega), e1, w64' (x := mt times (wrstS a times)) (by omega) (by omega)]
          refine (q_of (inB_t' (by omega) (by omega))).trans ?_
          refine (q_of (inB_t' (by omega) (by omega))).trans ?_
          refine (r_bs (k_Rounded (n := work a (wrstS a times)) (b := mt times (wrstS a times)) (by omega) (by omega) (by omega) (by omega))).trans ?_
          refine (br_f (by simp [wrR])).trans ?_
          refine (r_bs o).trans ?_
          obtain ⟨t, cc, er, k1, o1⟩ := k_Earliest h0
          refine (r_bs k1).trans ?_
          have F := ct_fs h c
          rcases o1 with ⟨rfl, rfl, q1, q2, q3⟩ | ⟨_, _, q1⟩
          · refine (br_f rfl).trans ?_
            refine (br_f rfl).trans ?_
            refine (br_f (nd (by dsimp only; omega))).trans ?_
            rw [r_iter]
            refine iter_eq (fun k y => y = ((k : Int), ())) _ t.length (by omega) ?_ rfl
            rintro k y hk rfl
            dsimp only
            unfold T_law03xBlankTimes_l15
            dsimp only
            by_cases e : k < t.length
            · left
              have le := q3 _ F k (by omega)
              refine ⟨(((k + 1 : Nat) : Int), ()), ?_, e, rfl⟩
              refine (br_t (decide_eq_true (by omega))).trans ?_
              refine (q_of (inB_t' (by omega) (by omega))).trans ?_
              refine (q_of (inB_t' (by omega) (by omega))).trans ?_
              refine (br_f (decide_eq_false (by omega))).trans ?_
              rw [w64' (x := (k : Int) + 1) (by omega) (by omega)]
              exact r_ret _
            · right
              refine (br_f (decide_eq_false (by omega))).trans ?_
              exact r_ret _
          · exact absurd (cc_none q1 F) id
        · have kt : blank_CheckTimes a times = some (ie (ctR a times).1.1 (ctR a times).1.2.1) := by
            rw [k_CheckTimes, if_pos h0]; rfl
          refine (r_bs (k_Worst_E hc kt)).trans ?_
          refine (r_bs (k_rCheckAnnealing a)).trans ?_
          refine (br_f (nd h0)).trans ?_
          refine (r_bs (k_rCheckTimes h times)).trans ?_
          refine (br_f (nd rfl)).trans ?_
          refine (br_f (nd rfl)).trans ?_
          refine (br_t (nd' hc)).trans ?_
          refine (br_t (decide_eq_true rfl)).trans ?_
          refine (br_t rfl).trans ?_
          exact r_ret _
      · have kt : blank_CheckTimes a times = some (ie 0 (annE a)) := by rw [k_CheckTimes, if_neg h0]
        rw [if_neg h0]
        refine (r_bs (k_Worst_E h0 kt)).trans ?_
        refine (r_bs (k_rCheckAnnealing a)).trans ?_
        refine (br_t (nd' h0)).trans ?_
        refine (br_t (decide_eq_true rfl)).trans ?_
        refine (br_t (decide_eq_true rfl)).trans ?_
        refine (br_t rfl).trans ?_
        refine (br_t rfl).trans ?_
        exact r_ret _
end Go.Ab
