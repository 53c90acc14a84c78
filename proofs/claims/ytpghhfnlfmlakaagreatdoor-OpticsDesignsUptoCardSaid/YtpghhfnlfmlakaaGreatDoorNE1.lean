/- What blanks and comments change; designs that are equal. -/
import Derived.Test.YtpghhfnlfmlakaaGreatDoorNB
namespace Go.Ab
open Go
set_option maxRecDepth 1000000
set_option maxHeartbeats 4000000
set_option linter.unusedVariables false
set_option linter.unusedSimpArgs false

theorem cutL_app (c : UInt8) : ∀ (a b : List UInt8), cutL c (a ++ c :: b) = cutL c a ++ cutL c b
  | [], b => cutL_hit c b
  | x :: r, b => by
    have ih := cutL_app c r b
    by_cases h : x = c
    · subst h
      rw [List.cons_append, cutL_hit, cutL_hit, ih]; rfl
    · cases e : cutL c r with
      | nil =>
        exfalso
        cases r with
        | nil => simp [cutL] at e
        | cons y r => rw [cutL] at e; split at e
                      · cases e
                      · split at e <;> cases e
      | cons p ps =>
        rw [e] at ih
        rw [List.cons_append, cutL_ne h e]
        exact cutL_ne h ih
theorem k_same {d : Dsg} (h : d.2.length ≤ 1048576) : law02xsame d d = some ((true, ()), ()) := by
  show (T_law02xsame d d).run = _
  unfold T_law02xsame
  refine (br_f (nd rfl)).trans ?_
  refine (br_f (nd rfl)).trans ?_
  rw [r_iter]
  refine iter_eq (fun i st => st = ((i : Int), ())) _ d.2.length (by omega) ?_ rfl
  rintro i st hi rfl
  show (∃ x', (T_law02xsame_l0 d d (i : Int)).run = _ ∧ _) ∨ (T_law02xsame_l0 d d (i : Int)).run = _
  unfold T_law02xsame_l0
  by_cases hl : i < d.2.length
  · left
    refine ⟨_, ?_, hl, rfl⟩
    rw [← w1 i (by omega)]
    refine (br_t (decide_eq_true (by omega))).trans ?_
    refine (q_of (inB_t' (by omega) (by omega))).trans ?_
    refine (q_of (inB_t' (by omega) (by omega))).trans ?_
    refine (br_f (by simp)).trans ?_
    exact r_ret _
  · right
    refine (br_f (decide_eq_false (by omega))).trans ?_
    exact r_ret _
end Go.Ab
