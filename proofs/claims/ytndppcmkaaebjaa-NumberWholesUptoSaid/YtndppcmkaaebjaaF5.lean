/- NumberWholes. -/
import Derived.Test.YtndppcmkaaebjaaF4
import Derived.Test.YtndppcmkaaebjaaQLNumberWholes
namespace Go.Ab
open Go
set_option maxRecDepth 1000000
set_option maxHeartbeats 1000000
set_option linter.unusedVariables false
set_option linter.unusedSimpArgs false
attribute [local congr] bindC iterC


def whV (f : Int × Int) (t : Int) : Int × Int := (t * f.1 / f.2, -(-(t * f.1) / f.2))
theorem whole_bd {f : Int × Int} {t : Int} (hf : Small f) (ht : 1 ≤ t ∧ t ≤ 1000000) : -1000000000000000 ≤ t * f.1 ∧ t * f.1 ≤ 1000000000000000 := by
  obtain ⟨_, h1, h2, h3⟩ := hf
  have := mul_bd (a := t) (b := f.1) (m := 1000000) (n := 1000000000) (by omega) (by omega) (by omega) (by omega)
  omega
theorem k_Whole {f : Int × Int} {t : Int} (hf : Small f) (ht : 1 ≤ t ∧ t ≤ 1000000) : number_Whole f t = some ((whV f t, 0, ()), ()) := by
  have hb := whole_bd hf ht
  have h0 := hf.1.1
  have h3 := hf.2.2.2
  simp only [number_Whole, T_number_Whole]
  rw [w64' (x := t * f.1) (by omega) (by omega)]
  refine (r_bs (k_CheckFrac hf.i1 hf.i2)).trans ?_
  refine (br_f (nd (cfE_of hf))).trans ?_
  refine (r_bs (k_between _ _ _)).trans ?_
  refine (br_f (nd ht)).trans ?_
  refine (r_bs (k_down h0 (by omega) (by omega) (by omega))).trans ?_
  refine (r_bs (k_up h0 (by omega) (by omega) (by omega))).trans ?_
  exact r_ret _
theorem k_rWhole {f : Int × Int} {t : Int} (hf : Small f) (ht : 1 ≤ t ∧ t ≤ 1000000) : ref01xWhole f t = some ((whV f t, ()), ()) := by
  have hb := whole_bd hf ht
  have h0 := hf.1.1
  have h3 := hf.2.2.2
  simp only [ref01xWhole, T_ref01xWhole]
  rw [Int.mul_comm f.1 t, w64' (x := t * f.1) (by omega) (by omega)]
  refine (r_bs (k_Floor h0 (by omega) (by omega) (by omega))).trans ?_
  refine (r_bs (k_Ceil h0 (by omega) (by omega) (by omega))).trans ?_
  exact r_ret _

theorem k_NumberWholes {f : (Int × Int)} {times : Int} (b0 : bulkT (.pair (.int .i64) (.int .i64)) f ≤ 1048576) (w0 : wfT (.pair (.int .i64) (.int .i64)) f) (b1 : bulkT (.int .i64) times ≤ 1048576) (w1 : wfT (.int .i64) times) : law01xNumberWholes f times = some ((true, ()), ()) := by
  have h1 : I64 f.1 := w0.1
  have h2 : I64 f.2 := w0.2
  show (T_law01xNumberWholes f times).run = _
  unfold T_law01xNumberWholes
  rw [r_bind, awake_ok, Option.bind_some]
  refine (br_f rfl).trans ?_
  by_cases h : cfE f = 0
  · have hf := cfE_zero.1 h
    by_cases ht : 1 ≤ times ∧ times ≤ 1000000
    · refine (r_bs (k_Whole hf ht)).trans ?_
      refine (r_bs (k_fr1 h1 h2)).trans ?_
      refine (br_t (decide_eq_true h)).trans ?_
      refine (r_bs (k_Within _ _ _)).trans ?_
      refine (br_f (nd ht)).trans ?_
      refine (br_f (nd h)).trans ?_
      refine (br_t rfl).trans ?_
      refine (r_bs (k_rWhole hf ht)).trans ?_
      refine (br_t (same2' _ _)).trans ?_
      have hb := whole_bd hf ht
      have hd := fl_ce (n := times * f.1) hf.1.1
      have e : IntKind.i64.wrap ((whV f times).2 - (whV f times).1) = (whV f times).2 - (whV f times).1 := w64' (by unfold whV; dsimp only; omega) (by unfold whV; dsimp only; omega)
      rw [show (((whV f times, (0, ())), ()) : ((Int × Int) × Int × Unit) × Unit).fst.fst.snd = (whV f times).2 from rfl, show (((whV f times, (0, ())), ()) : ((Int × Int) × Int × Unit) × Unit).fst.fst.fst = (whV f times).1 from rfl, e]
      refine (r_bs (k_Within _ _ _)).trans ?_
      refine (r_ret _).trans ?_
      have : decide (0 ≤ (whV f times).2 - (whV f times).1 ∧ (whV f times).2 - (whV f times).1 ≤ 1) = true := decide_eq_true hd
      rw [this]
    · have k : number_Whole f times = some (((0, 0), 2, ()), ()) := by
        simp only [number_Whole, T_number_Whole]
        refine (r_bs (k_CheckFrac h1 h2)).trans ?_
        refine (br_f (nd h)).trans ?_
        refine (r_bs (k_between _ _ _)).trans ?_
        exact (br_t (nd' ht)).trans (r_ret _)
      refine (r_bs k).trans ?_
      refine (r_bs (k_fr1 h1 h2)).trans ?_
      refine (br_t (decide_eq_true h)).trans ?_
      refine (r_bs (k_Within _ _ _)).trans ?_
      refine (br_t (nd' ht)).trans ?_
      refine (br_t rfl).trans ?_
      refine (br_t rfl).trans ?_
      exact r_ret _
  · have k : number_Whole f times = some (((0, 0), cfE f, ()), ()) := by
      simp only [number_Whole, T_number_Whole]
      refine (r_bs (k_CheckFrac h1 h2)).trans ?_
      exact (br_t (nd' h)).trans (r_ret _)
    refine (r_bs k).trans ?_
    refine (r_bs (k_fr1 h1 h2)).trans ?_
    refine (br_f (decide_eq_false h)).trans ?_
    refine (br_t (nd' h)).trans ?_
    refine (br_t (decide_eq_true rfl)).trans ?_
    exact r_ret _
end Go.Ab
