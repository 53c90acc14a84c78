/- NumberSigns. -/
import Derived.Test.YtndppcmkaaebjaaR1
import Derived.Test.YtndppcmkaaebjaaW8
import Derived.Test.YtndppcmkaaebjaaQLNumberSigns
namespace Go.Ab
open Go
set_option maxRecDepth 1000000
set_option maxHeartbeats 1000000
set_option linter.unusedVariables false
set_option linter.unusedSimpArgs false

theorem k_NumberSigns {p : List (Int)} {x : (Int × Int)} (b0 : bulkT (.list (.int .i64)) p ≤ 1048576) (w0 : wfT (.list (.int .i64)) p) (b1 : bulkT (.pair (.int .i64) (.int .i64)) x ≤ 1048576) (w1 : wfT (.pair (.int .i64) (.int .i64)) x) : law01xNumberSigns p x = some ((true, ()), ()) := by
  have hp : p.length ≤ 1048576 := by
    exact Nat.le_trans (bulk_len (a := .int .i64) (by decide)) b0
  have h1 : I64 x.1 := w1.1
  have h2 : I64 x.2 := w1.2
  show (T_law01xNumberSigns p x).run = _
  unfold T_law01xNumberSigns
  rw [r_bind, awake_ok, Option.bind_some]
  refine (br_f rfl).trans ?_
  by_cases hl : 10 < (p.length : Int)
  · exact (br_t (decide_eq_true hl)).trans (r_ret _)
  refine (br_f (decide_eq_false hl)).trans ?_
  refine (r_bs (k_CopyInts hp)).trans ?_
  by_cases h : pcE p = 0
  · by_cases hc : cfE x = 0
    · have hx := cfE_zero.1 hc
      refine (r_bs (k_SignAt h hx)).trans ?_
      refine (r_bs (k_rCheckPoly p)).trans ?_
      refine (br_t (decide_eq_true h)).trans ?_
      refine (r_bs (k_fr1 h1 h2)).trans ?_
      refine (br_f (nd hc)).trans ?_
      refine (br_t rfl).trans ?_
      refine (r_bs (k_rSignAt h hx)).trans ?_
      refine (r_ret _).trans ?_
      have : decide (sgn (hz p x.1 x.2) = sgn (hz p x.1 x.2)) = true := decide_eq_true rfl
      rw [this]
    · have k : number_SignAt p x = some ((0, cfE x, ()), ()) := by
        simp only [number_SignAt, T_number_SignAt]
        refine (r_bs (k_CheckPoly p)).trans ?_
        refine (br_f (nd h)).trans ?_
        refine (r_bs (k_CheckFrac h1 h2)).trans ?_
        exact (br_t (nd' hc)).trans (r_ret _)
      refine (r_bs k).trans ?_
      refine (r_bs (k_rCheckPoly p)).trans ?_
      refine (br_t (decide_eq_true h)).trans ?_
      refine (r_bs (k_fr1 h1 h2)).trans ?_
      refine (br_t (nd' hc)).trans ?_
      refine (br_t (decide_eq_true rfl)).trans ?_
      exact r_ret _
  · have k : number_SignAt p x = some ((0, pcE p, ()), ()) := by
      simp only [number_SignAt, T_number_SignAt]
      refine (r_bs (k_CheckPoly p)).trans ?_
      exact (br_t (nd' h)).trans (r_ret _)
    refine (r_bs k).trans ?_
    refine (r_bs (k_rCheckPoly p)).trans ?_
    refine (br_f (decide_eq_false h)).trans ?_
    refine (br_t (nd' h)).trans ?_
    refine (br_t (decide_eq_true rfl)).trans ?_
    exact r_ret _
end Go.Ab
