/- The law OpticsReads: the design of any text, or the mark and the error; blanks and comments change nothing. -/
import Derived.Test.YtpghhfnlfmlakaaGreatDoorNE1
import Derived.Test.YtpghhfnlfmlakaaGreatDoorQLOpticsReads
namespace Go.Ab
open Go
set_option maxRecDepth 1000000
set_option maxHeartbeats 4000000
set_option linter.unusedVariables false
set_option linter.unusedSimpArgs false

theorem k_OpticsReads {t : List UInt8} (b0 : bulkT .str t ≤ 1048576) (w0 : wfT .str t) : law02xOpticsReads t = some ((true, ()), ()) := by
  show (T_law02xOpticsReads t).run = _
  unfold T_law02xOpticsReads
  rw [r_bind, awake_ok, Option.bind_some]
  refine (br_f rfl).trans ?_
  by_cases h1 : 600 < t.length
  · refine (br_t (decide_eq_true (by omega))).trans ?_
    by_cases h2 : t.length ≤ 60000
    · refine (br_t (decide_eq_true (by omega))).trans ?_
      exact r_ret _
    refine (br_f (decide_eq_false (by omega))).trans ?_
    by_cases h3 : 60100 < t.length
    · refine (br_t (decide_eq_true (by omega))).trans ?_
      exact r_ret _
    refine (br_f (decide_eq_false (by omega))).trans ?_
    have hp : parS t = (([], []), ((0, 0), 8)) := by unfold parS; rw [if_pos (by omega)]
    have kp := k_Parse (t := t) (by omega)
    have kr := k_rParse (t := t) (by omega)
    rw [hp] at kp kr
    refine (r_bs kp).trans ?_
    refine (r_bs kr).trans ?_
    refine (br_f rfl).trans ?_
    refine (br_f rfl).trans ?_
    refine (r_bs (k_same (d := ([], [])) (by simp))).trans ?_
    refine (br_f rfl).trans ?_
    refine (br_t rfl).trans ?_
    exact r_ret _
  · refine (br_f (decide_eq_false (by omega))).trans ?_
    refine (br_f (decide_eq_false (by omega))).trans ?_
    have kp := k_Parse (t := t) (by omega)
    have kr := k_rParse (t := t) (by omega)
    have hlen := parS_len t
    have hwrap := fun d m => parS_wrap (d := d) (m := m) (t := t) (by omega)
    generalize parS t = a at *
    obtain ⟨d, m, e⟩ := a
    have hlen : d.2.length ≤ 12 := hlen
    refine (r_bs kp).trans ?_
    refine (r_bs kr).trans ?_
    refine (br_f (nd rfl)).trans ?_
    refine (br_f (by simp)).trans ?_
    refine (r_bs (k_same (d := d) (by omega))).trans ?_
    refine (br_f rfl).trans ?_
    by_cases he : e = 0
    · subst he
      have hw := hwrap d m rfl
      have kw := k_Parse (t := wrapT t) (by simp only [wrapT, List.length_append, List.length_cons, List.length_nil]; omega)
      rw [hw] at kw
      refine (br_f (nd rfl)).trans ?_
      refine (br_f (decide_eq_false (by omega))).trans ?_
      refine (q_of (str_t' (by omega))).trans ?_
      refine (q_of (str_t' (by simp only [List.length_append, List.length_cons, List.length_nil]; omega))).trans ?_
      refine (r_bs kw).trans ?_
      refine (br_t rfl).trans ?_
      refine (r_bs (k_same (d := d) (by omega))).trans ?_
      exact r_ret _
    · refine (br_t (nd' he)).trans ?_
      exact r_ret _
end Go.Ab
