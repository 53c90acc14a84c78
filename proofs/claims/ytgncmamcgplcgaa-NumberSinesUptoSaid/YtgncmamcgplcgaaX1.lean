/- NumberSines. -/
import Derived.Test.YtgncmamcgplcgaaR1
import Derived.Test.YtgncmamcgplcgaaZC
import Derived.Test.YtgncmamcgplcgaaQLNumberSines
namespace Go.Ab
open Go
set_option maxRecDepth 1000000
set_option maxHeartbeats 1000000
set_option linter.unusedVariables false
set_option linter.unusedSimpArgs false

theorem k_NumberSines {angle : Int} {times : Int} (b0 : bulkT (.int .i64) angle ≤ 1048576) (w0 : wfT (.int .i64) angle) (b1 : bulkT (.int .i64) times ≤ 1048576) (w1 : wfT (.int .i64) times) : law01xNumberSines angle times = some ((true, ()), ()) := by
  show (T_law01xNumberSines angle times).run = _
  unfold T_law01xNumberSines
  rw [r_bind, awake_ok, Option.bind_some]
  refine (br_f rfl).trans ?_
  by_cases h : (-1000000000 ≤ angle ∧ angle ≤ 1000000000) ∧ 1 ≤ times ∧ times ≤ 1000000
  · obtain ⟨⟨a1, a2⟩, t1, t2⟩ := h
    have p1 := PQ_b' angle
    have p2 := PQ_b' (angle + 324000)
    refine (r_bs (k_Sine a1 a2 t1 t2)).trans ?_
    refine (r_bs (k_Cosine a1 a2 t1 t2)).trans ?_
    refine (r_bs (k_Within _ _ _)).trans ?_
    refine (br_f (nd ⟨a1, a2⟩)).trans ?_
    refine (r_bs (k_Within _ _ _)).trans ?_
    refine (br_f (nd ⟨t1, t2⟩)).trans ?_
    refine (br_t rfl).trans ?_
    refine (br_t rfl).trans ?_
    refine (r_bs (k_rSine (by omega) (by omega))).trans ?_
    refine (r_bs (k_Holds t1 t2 p1.1 p1.2 (PR angle))).trans ?_
    refine (br_t rfl).trans ?_
    refine (r_bs (k_rCosine (by omega) (by omega))).trans ?_
    refine (r_bs (k_Holds t1 t2 p2.1 p2.2 (PR (angle + 324000)))).trans ?_
    exact r_ret _
  · refine (r_bs (k_Sine_e h)).trans ?_
    refine (r_bs (k_Cosine_e h)).trans ?_
    refine (r_bs (k_Within _ _ _)).trans ?_
    by_cases h1 : -1000000000 ≤ angle ∧ angle ≤ 1000000000
    · refine (br_f (nd h1)).trans ?_
      refine (r_bs (k_Within _ _ _)).trans ?_
      refine (br_t (nd' (fun h2 => h ⟨h1, h2⟩))).trans ?_
      refine (br_t rfl).trans ?_
      refine (br_t rfl).trans ?_
      refine (br_t rfl).trans ?_
      exact r_ret _
    · refine (br_t (nd' h1)).trans ?_
      refine (br_t rfl).trans ?_
      refine (br_t rfl).trans ?_
      refine (br_t rfl).trans ?_
      exact r_ret _
end Go.Ab
