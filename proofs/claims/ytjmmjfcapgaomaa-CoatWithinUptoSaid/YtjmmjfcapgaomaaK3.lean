/- Names; materials; layers. -/
import Derived.Test.YtjmmjfcapgaomaaK1
import Derived.Test.YtjmmjfcapgaomaaR1
namespace Go.Ab
open Go
set_option maxRecDepth 1000000
set_option maxHeartbeats 1000000
set_option linter.unusedVariables false
set_option linter.unusedSimpArgs false

abbrev isLet (c : Int) : Prop := (97 ≤ c ∧ c ≤ 122) ∨ (65 ≤ c ∧ c ≤ 90)
abbrev isDig (c : Int) : Prop := 48 ≤ c ∧ c ≤ 57
abbrev nmAt (s : List UInt8) (j : Nat) : Prop := isLet ((gi s (j : Int)).toNat : Int) ∨ (j ≠ 0 ∧ (((gi s (j : Int)).toNat : Int) = 45 ∨ isDig ((gi s (j : Int)).toNat : Int)))
def isNm (s : List UInt8) : Prop := s ≠ [] ∧ s.length ≤ 12 ∧ ∀ j, j < s.length → nmAt s j
instance (s : List UInt8) : Decidable (isNm s) := by unfold isNm; infer_instance

theorem isName_body {s : List UInt8} {i : Nat} (hl : s.length ≤ 1099511627776) (hi : i < s.length) : (T_coat_isName_l0 s i).run = if nmAt s i then some (.inl ((i : Int) + 1, ())) else some (.inr ((false, ()), ())) := by
  simp only [T_coat_isName_l0]
  simp (maxSteps := 1000000) (disch := first | omega | assumption) only [r_ret, r_br, decide_eq_true_eq, Bool.not_eq_eq_eq_not, decide_eq_false_iff_not, ite_not, q_true, r_bind, r_iter, q_inB, q_nz, q_app, q_eq, q_bnd, q_str, w64', Option.bind_some, Option.bind_none, List.length_cons, List.length_nil, List.length_append, Nat.zero_add, if_pos, if_neg, decide_true, decide_false, if_true, if_false, Bool.not_true, Bool.not_false, Bool.false_eq_true, Bool.true_eq_false, not_true_eq_false, not_false_eq_true, reduceIte, List.nil_append, ]
  repeat' split
  all_goals first | rfl | (exfalso; omega)

theorem k_isName {s : List UInt8} (hl : s.length ≤ 1099511627776) : coat_isName s = some ((decide (isNm s), ()), ()) := by
  simp only [coat_isName, T_coat_isName]
  rw [r_iter]
  refine iter_eq (fun i x => x = ((i : Int), ()) ∧ ∀ j, j < i → nmAt s j) _ s.length (by omega) ?_ ⟨rfl, fun j hj => by omega⟩
  rintro i x hi ⟨rfl, hp⟩
  by_cases hlt : i < s.length
  · show (∃ x', (T_coat_isName_l0 s i).run = _ ∧ _) ∨ (T_coat_isName_l0 s i).run = _
    rw [isName_body hl hlt]
    by_cases h : nmAt s i
    · left
      refine ⟨_, if_pos h, hlt, rfl, fun j hj => ?_⟩
      by_cases e : j = i
      · subst e; exact h
      · exact hp j (by omega)
    · right
      rw [if_neg h]
      have : ¬ isNm s := fun hn => h (hn.2.2 i hlt)
      simp [this]
  · right
    have : i = s.length := by omega
    subst this
    simp only [T_coat_isName_l0]
    simp (maxSteps := 1000000) (disch := first | omega | assumption) only [r_ret, r_br, decide_eq_true_eq, Bool.not_eq_eq_eq_not, decide_eq_false_iff_not, ite_not, q_true, r_bind, r_iter, q_inB, q_nz, q_app, q_eq, q_bnd, q_str, w64', Option.bind_some, Option.bind_none, List.length_cons, List.length_nil, List.length_append, Nat.zero_add, if_pos, if_neg, decide_true, decide_false, if_true, if_false, Bool.not_true, Bool.not_false, Bool.false_eq_true, Bool.true_eq_false, not_true_eq_false, not_false_eq_true, reduceIte, List.nil_append, ]
    by_cases h0 : s = []
    · subst h0; simp [isNm]
    · simp only [h0, not_false_eq_true, if_true, if_false]
      have : isNm s ↔ (s.length : Int) ≤ 12 := ⟨fun h => by have := h.2.1; omega, fun h => ⟨h0, by omega, fun j hj => hp j (by omega)⟩⟩
      simp [this]

theorem k_isLetter (c : Int) : base_isLetter c = some ((decide (isLet c), ()), ()) := by
  simp only [base_isLetter, T_base_isLetter]
  simp (maxSteps := 1000000) (disch := first | omega | assumption) only [r_ret, r_br, decide_eq_true_eq, Bool.not_eq_eq_eq_not, decide_eq_false_iff_not, ite_not, q_true, r_bind, r_iter, q_inB, q_nz, q_app, q_eq, q_bnd, q_str, w64', Option.bind_some, Option.bind_none, List.length_cons, List.length_nil, List.length_append, Nat.zero_add, if_pos, if_neg, decide_true, decide_false, if_true, if_false, Bool.not_true, Bool.not_false, Bool.false_eq_true, Bool.true_eq_false, not_true_eq_false, not_false_eq_true, reduceIte, List.nil_append, ]
  repeat' split
  all_goals first | (congr 3; rw [decide_eq_decide]; omega) | (simp; omega)
theorem k_isDigit (c : Int) : base_isDigit c = some ((decide (isDig c), ()), ()) := by
  simp only [base_isDigit, T_base_isDigit]
  simp (maxSteps := 1000000) (disch := first | omega | assumption) only [r_ret, r_br, decide_eq_true_eq, Bool.not_eq_eq_eq_not, decide_eq_false_iff_not, ite_not, q_true, r_bind, r_iter, q_inB, q_nz, q_app, q_eq, q_bnd, q_str, w64', Option.bind_some, Option.bind_none, List.length_cons, List.length_nil, List.length_append, Nat.zero_add, if_pos, if_neg, decide_true, decide_false, if_true, if_false, Bool.not_true, Bool.not_false, Bool.false_eq_true, Bool.true_eq_false, not_true_eq_false, not_false_eq_true, reduceIte, List.nil_append, ]
  repeat' split
  all_goals first | (congr 3; rw [decide_eq_decide]; omega) | (simp; omega)
end Go.Ab
