/- Names, events, layers, numbers of texts. -/
import Derived.Test.YthhidmnlhocigaaGreatDoorM2
namespace Go.Ab
open Go Go.Proofs
set_option maxRecDepth 1000000
set_option maxHeartbeats 4000000
set_option linter.unusedVariables false
set_option linter.unusedSimpArgs false
attribute [local congr] bindC iterC

theorem awake_ok : law08xawake = some ((true, ()), ()) := by kernel_rfl
theorem k_within (n lo hi : Int) : coat_within n lo hi = some ((decide (lo ≤ n ∧ n ≤ hi), ()), ()) := by
  simp only [coat_within, T_coat_within, r_br, r_ret]
  by_cases h : lo ≤ n <;> simp [h]
theorem k_Within (n lo hi : Int) : base_Within n lo hi = some ((decide (lo ≤ n ∧ n ≤ hi), ()), ()) := by
  simp only [base_Within, T_base_Within, r_br, r_ret]
  by_cases h : lo ≤ n <;> simp [h]
/-- Two lists are equal as far as i. -/
abbrev isLet (c : Int) : Prop := (97 ≤ c ∧ c ≤ 122) ∨ (65 ≤ c ∧ c ≤ 90)
abbrev isDig (c : Int) : Prop := 48 ≤ c ∧ c ≤ 57
abbrev nmAt (s : List UInt8) (j : Nat) : Prop := isLet ((gi s (j : Int)).toNat : Int) ∨ (j ≠ 0 ∧ (((gi s (j : Int)).toNat : Int) = 45 ∨ isDig ((gi s (j : Int)).toNat : Int)))
def isNm (s : List UInt8) : Prop := s ≠ [] ∧ s.length ≤ 12 ∧ ∀ j, j < s.length → nmAt s j
instance (s : List UInt8) : Decidable (isNm s) := by unfold isNm; infer_instance
theorem isName_body {s : List UInt8} {i : Nat} (hl : s.length ≤ 1099511627776) (hi : i < s.length) : (T_coat_isName_l0 s i).run = if nmAt s i then some (.inl ((i : Int) + 1, ())) else some (.inr ((false, ()), ())) := by
  simp only [T_coat_isName_l0]
  simp (maxSteps := 1000000) (disch := first | omega | assumption) only [r_ret, r_br, decide_eq_true_eq, Bool.not_eq_eq_eq_not, decide_eq_false_iff_not, ite_not, q_true, r_bind, r_iter, q_inB, q_nz, q_app, q_eq, q_bnd, q_str, w64', Option.bind_some, Option.bind_none, List.length_cons, List.length_nil, List.length_append, Nat.zero_add, if_pos, if_neg, decide_true, decide_false, if_true, if_false, Bool.not_true, Bool.not_false, Bool.false_eq_true, Bool.true_eq_false, not_true_eq_false, not_false_eq_true, reduceIte, List.nil_append, ]
  repeat' split
  all_goals first | rfl | (exfalso; omega)
theorem k_isName {s : List UInt8} (hl : s.length ≤ 1099511627776) : coat_isName s = some ((decide (isNm s), ()), ()) := by
  simp only [coat_isName, T_coat_isName]
  rw [r_iter]
  refine iter_eq (fun i x => x = ((i : Int), ()) ∧ ∀ j, j < i → nmAt s j) _ s.length (by omega) ?_ ⟨rfl, fun j hj => by omega⟩
  rintro i x hi ⟨rfl, hp⟩
  by_cases hlt : i < s.length
  · show (∃ x', (T_coat_isName_l0 s i).run = _ ∧ _) ∨ (T_coat_isName_l0 s i).run = _
    rw [isName_body hl hlt]
    by_cases h : nmAt s i
    · left
      refine ⟨_, if_pos h, hlt, rfl, fun j hj => ?_⟩
      by_cases e : j = i
      · subst e; exact h
      · exact hp j (by omega)
    · right
      rw [if_neg h]
      have : ¬ isNm s := fun hn => h (hn.2.2 i hlt)
      simp [this]
  · right
    have : i = s.length := by omega
    subst this
    simp only [T_coat_isName_l0]
    simp (maxSteps := 1000000) (disch := first | omega | assumption) only [r_ret, r_br, decide_eq_true_eq, Bool.not_eq_eq_eq_not, decide_eq_false_iff_not, ite_not, q_true, r_bind, r_iter, q_inB, q_nz, q_app, q_eq, q_bnd, q_str, w64', Option.bind_some, Option.bind_none, List.length_cons, List.length_nil, List.length_append, Nat.zero_add, if_pos, if_neg, decide_true, decide_false, if_true, if_false, Bool.not_true, Bool.not_false, Bool.false_eq_true, Bool.true_eq_false, not_true_eq_false, not_false_eq_true, reduceIte, List.nil_append, ]
    by_cases h0 : s = []
    · subst h0; simp [isNm]
    · simp only [h0, not_false_eq_true, if_true, if_false]
      have : isNm s ↔ (s.length : Int) ≤ 12 := ⟨fun h => by have := h.2.1; omega, fun h => ⟨h0, by omega, fun j hj => hp j (by omega)⟩⟩
      simp [this]
theorem k_isLetter (c : Int) : base_isLetter c = some ((decide (isLet c), ()), ()) := by
  simp only [base_isLetter, T_base_isLetter]
  simp (maxSteps := 1000000) (disch := first | omega | assumption) only [r_ret, r_br, decide_eq_true_eq, Bool.not_eq_eq_eq_not, decide_eq_false_iff_not, ite_not, q_true, r_bind, r_iter, q_inB, q_nz, q_app, q_eq, q_bnd, q_str, w64', Option.bind_some, Option.bind_none, List.length_cons, List.length_nil, List.length_append, Nat.zero_add, if_pos, if_neg, decide_true, decide_false, if_true, if_false, Bool.not_true, Bool.not_false, Bool.false_eq_true, Bool.true_eq_false, not_true_eq_false, not_false_eq_true, reduceIte, List.nil_append, ]
  repeat' split
  all_goals first | (congr 3; rw [decide_eq_decide]; omega) | (simp; omega)
theorem k_isDigitN (c : Int) : base_isDigit c = some ((decide (isDig c), ()), ()) := by
  simp only [base_isDigit, T_base_isDigit]
  simp (maxSteps := 1000000) (disch := first | omega | assumption) only [r_ret, r_br, decide_eq_true_eq, Bool.not_eq_eq_eq_not, decide_eq_false_iff_not, ite_not, q_true, r_bind, r_iter, q_inB, q_nz, q_app, q_eq, q_bnd, q_str, w64', Option.bind_some, Option.bind_none, List.length_cons, List.length_nil, List.length_append, Nat.zero_add, if_pos, if_neg, decide_true, decide_false, if_true, if_false, Bool.not_true, Bool.not_false, Bool.false_eq_true, Bool.true_eq_false, not_true_eq_false, not_false_eq_true, reduceIte, List.nil_append, ]
  repeat' split
  all_goals first | (congr 3; rw [decide_eq_decide]; omega) | (simp; omega)
theorem k_IsName {s : List UInt8} (hl : s.length ≤ 1099511627776) : base_IsName s = some ((decide (isNm s), ()), ()) := by
  simp only [base_IsName, T_base_IsName]
  by_cases h0 : s.length = 0
  · have : ¬ isNm s := fun h => h.1 (List.eq_nil_of_length_eq_zero h0)
    simp (maxSteps := 1000000) (disch := first | omega | assumption) only [r_ret, r_br, decide_eq_true_eq, Bool.not_eq_eq_eq_not, decide_eq_false_iff_not, ite_not, q_true, r_bind, r_iter, q_inB, q_nz, q_app, q_eq, q_bnd, q_str, w64', Option.bind_some, Option.bind_none, List.length_cons, List.length_nil, List.length_append, Nat.zero_add, if_pos, if_neg, decide_true, decide_false, if_true, if_false, Bool.not_true, Bool.not_false, Bool.false_eq_true, Bool.true_eq_false, not_true_eq_false, not_false_eq_true, reduceIte, List.nil_append, h0, this]
  have hne : s ≠ [] := fun e => h0 (by rw [e]; rfl)
  by_cases h1 : (12 : Int) < s.length
  · have : ¬ isNm s := fun h => by have := h.2.1; omega
    simp (maxSteps := 1000000) (disch := first | omega | assumption) only [r_ret, r_br, decide_eq_true_eq, Bool.not_eq_eq_eq_not, decide_eq_false_iff_not, ite_not, q_true, r_bind, r_iter, q_inB, q_nz, q_app, q_eq, q_bnd, q_str, w64', Option.bind_some, Option.bind_none, List.length_cons, List.length_nil, List.length_append, Nat.zero_add, if_pos, if_neg, decide_true, decide_false, if_true, if_false, Bool.not_true, Bool.not_false, Bool.false_eq_true, Bool.true_eq_false, not_true_eq_false, not_false_eq_true, reduceIte, List.nil_append, h1, this]
  by_cases h2 : isLet ((gi s (0 : Int)).toNat : Int)
  · simp (maxSteps := 1000000) (disch := first | omega | assumption) only [r_ret, r_br, decide_eq_true_eq, Bool.not_eq_eq_eq_not, decide_eq_false_iff_not, ite_not, q_true, r_bind, r_iter, q_inB, q_nz, q_app, q_eq, q_bnd, q_str, w64', Option.bind_some, Option.bind_none, List.length_cons, List.length_nil, List.length_append, Nat.zero_add, if_pos, if_neg, decide_true, decide_false, if_true, if_false, Bool.not_true, Bool.not_false, Bool.false_eq_true, Bool.true_eq_false, not_true_eq_false, not_false_eq_true, reduceIte, List.nil_append, k_isLetter, h1, h2]
    refine iter_eq (fun i x => x = ((i : Int), ()) ∧ ∀ j, j < i → nmAt s j) _ s.length (by omega) ?_ ⟨rfl, fun j hj => by omega⟩
    rintro i x hi ⟨rfl, hp⟩
    simp only [T_base_IsName_l1]
    by_cases hlt : i < s.length
    · by_cases h : nmAt s i
      · left
        refine ⟨((i : Int) + 1, ()), ?_, hlt, rfl, fun j hj => ?_⟩
        · by_cases a : isLet ((gi s (i : Int)).toNat : Int)
          · simp (maxSteps := 1000000) (disch := first | omega | assumption) only [r_ret, r_br, decide_eq_true_eq, Bool.not_eq_eq_eq_not, decide_eq_false_iff_not, ite_not, q_true, r_bind, r_iter, q_inB, q_nz, q_app, q_eq, q_bnd, q_str, w64', Option.bind_some, Option.bind_none, List.length_cons, List.length_nil, List.length_append, Nat.zero_add, if_pos, if_neg, decide_true, decide_false, if_true, if_false, Bool.not_true, Bool.not_false, Bool.false_eq_true, Bool.true_eq_false, not_true_eq_false, not_false_eq_true, reduceIte, List.nil_append, k_isLetter, k_isDigitN, a]
          · by_cases c : isDig ((gi s (i : Int)).toNat : Int)
            · simp (maxSteps := 1000000) (disch := first | omega | assumption) only [r_ret, r_br, decide_eq_true_eq, Bool.not_eq_eq_eq_not, decide_eq_false_iff_not, ite_not, q_true, r_bind, r_iter, q_inB, q_nz, q_app, q_eq, q_bnd, q_str, w64', Option.bind_some, Option.bind_none, List.length_cons, List.length_nil, List.length_append, Nat.zero_add, if_pos, if_neg, decide_true, decide_false, if_true, if_false, Bool.not_true, Bool.not_false, Bool.false_eq_true, Bool.true_eq_false, not_true_eq_false, not_false_eq_true, reduceIte, List.nil_append, k_isLetter, k_isDigitN, a, c]
            · have e : ((gi s (i : Int)).toNat : Int) = 45 := by omega
              simp (maxSteps := 1000000) (disch := first | omega | assumption) only [r_ret, r_br, decide_eq_true_eq, Bool.not_eq_eq_eq_not, decide_eq_false_iff_not, ite_not, q_true, r_bind, r_iter, q_inB, q_nz, q_app, q_eq, q_bnd, q_str, w64', Option.bind_some, Option.bind_none, List.length_cons, List.length_nil, List.length_append, Nat.zero_add, if_pos, if_neg, decide_true, decide_false, if_true, if_false, Bool.not_true, Bool.not_false, Bool.false_eq_true, Bool.true_eq_false, not_true_eq_false, not_false_eq_true, reduceIte, List.nil_append, k_isLetter, k_isDigitN, a, c, e]
        · by_cases e : j = i
          · subst e; exact h
          · exact hp j (by omega)
      · right
        have hn : ¬ isNm s := fun hn => h (hn.2.2 i hlt)
        have h' : ¬ isLet ((gi s (i : Int)).toNat : Int) ∧ (i ≠ 0 → ¬ ((gi s (i : Int)).toNat : Int) = 45 ∧ ¬ isDig ((gi s (i : Int)).toNat : Int)) := by
          constructor
          · exact fun a => h (.inl a)
          · intro hi0
            exact ⟨fun a => h (.inr ⟨hi0, .inl a⟩), fun a => h (.inr ⟨hi0, .inr a⟩)⟩
        have hi0 : i ≠ 0 := fun e => by subst e; exact h'.1 h2
        obtain ⟨a, b⟩ := h'
        obtain ⟨c, d⟩ := b hi0
        simp (maxSteps := 1000000) (disch := first | omega | assumption) only [r_ret, r_br, decide_eq_true_eq, Bool.not_eq_eq_eq_not, decide_eq_false_iff_not, ite_not, q_true, r_bind, r_iter, q_inB, q_nz, q_app, q_eq, q_bnd, q_str, w64', Option.bind_some, Option.bind_none, List.length_cons, List.length_nil, List.length_append, Nat.zero_add, if_pos, if_neg, decide_true, decide_false, if_true, if_false, Bool.not_true, Bool.not_false, Bool.false_eq_true, Bool.true_eq_false, not_true_eq_false, not_false_eq_true, reduceIte, List.nil_append, k_isLetter, k_isDigitN, a, c, d, hn]
    · right
      have : i = s.length := by omega
      subst this
      have hn : isNm s := ⟨hne, by omega, fun j hj => hp j hj⟩
      simp (maxSteps := 1000000) (disch := first | omega | assumption) only [r_ret, r_br, decide_eq_true_eq, Bool.not_eq_eq_eq_not, decide_eq_false_iff_not, ite_not, q_true, r_bind, r_iter, q_inB, q_nz, q_app, q_eq, q_bnd, q_str, w64', Option.bind_some, Option.bind_none, List.length_cons, List.length_nil, List.length_append, Nat.zero_add, if_pos, if_neg, decide_true, decide_false, if_true, if_false, Bool.not_true, Bool.not_false, Bool.false_eq_true, Bool.true_eq_false, not_true_eq_false, not_false_eq_true, reduceIte, List.nil_append, hn]
  · have : ¬ isNm s := fun h => by
      have := h.2.2 0 (by omega)
      simp only [nmAt, ne_eq, not_true_eq_false, false_and, or_false] at this
      exact h2 this
    simp (maxSteps := 1000000) (disch := first | omega | assumption) only [r_ret, r_br, decide_eq_true_eq, Bool.not_eq_eq_eq_not, decide_eq_false_iff_not, ite_not, q_true, r_bind, r_iter, q_inB, q_nz, q_app, q_eq, q_bnd, q_str, w64', Option.bind_some, Option.bind_none, List.length_cons, List.length_nil, List.length_append, Nat.zero_add, if_pos, if_neg, decide_true, decide_false, if_true, if_false, Bool.not_true, Bool.not_false, Bool.false_eq_true, Bool.true_eq_false, not_true_eq_false, not_false_eq_true, reduceIte, List.nil_append, k_isLetter, h1, h2, this]
abbrev Ev := List UInt8 × (Int × Int)
def evE (x : Ev) : Int := if isNm x.1 then (if 0 ≤ x.2.1 ∧ x.2.1 ≤ 100000 then (if 0 ≤ x.2.2 ∧ x.2.2 ≤ 2 then 0 else 15) else 2) else 4
theorem k_isDay (n : Int) : coat_isDay n = some ((decide (0 ≤ n ∧ n ≤ 100000), ()), ()) := by
  simp only [coat_isDay, T_coat_isDay]
  simp (maxSteps := 1000000) (disch := first | omega | assumption) only [r_ret, r_br, decide_eq_true_eq, Bool.not_eq_eq_eq_not, decide_eq_false_iff_not, ite_not, q_true, r_bind, r_iter, q_inB, q_nz, q_app, q_eq, q_bnd, q_str, w64', Option.bind_some, Option.bind_none, List.length_cons, List.length_nil, List.length_append, Nat.zero_add, if_pos, if_neg, decide_true, decide_false, if_true, if_false, Bool.not_true, Bool.not_false, Bool.false_eq_true, Bool.true_eq_false, not_true_eq_false, not_false_eq_true, reduceIte, List.nil_append, k_within]
theorem k_checkEvent {x : Ev} (hl : x.1.length ≤ 1048576) : coat_checkEvent x = some ((evE x, ()), ()) := by
  simp only [coat_checkEvent, T_coat_checkEvent, evE]
  by_cases c1 : isNm x.1
  · by_cases c2 : 0 ≤ x.2.1 ∧ x.2.1 ≤ 100000
    · by_cases c3 : 0 ≤ x.2.2 ∧ x.2.2 ≤ 2
      · simp (maxSteps := 1000000) (disch := first | omega | assumption) only [r_ret, r_br, decide_eq_true_eq, Bool.not_eq_eq_eq_not, decide_eq_false_iff_not, ite_not, q_true, r_bind, r_iter, q_inB, q_nz, q_app, q_eq, q_bnd, q_str, w64', Option.bind_some, Option.bind_none, List.length_cons, List.length_nil, List.length_append, Nat.zero_add, if_pos, if_neg, decide_true, decide_false, if_true, if_false, Bool.not_true, Bool.not_false, Bool.false_eq_true, Bool.true_eq_false, not_true_eq_false, not_false_eq_true, reduceIte, List.nil_append, k_isName, c1, k_isDay, c2, k_within, c3, and_self]
      · simp (maxSteps := 1000000) (disch := first | omega | assumption) only [r_ret, r_br, decide_eq_true_eq, Bool.not_eq_eq_eq_not, decide_eq_false_iff_not, ite_not, q_true, r_bind, r_iter, q_inB, q_nz, q_app, q_eq, q_bnd, q_str, w64', Option.bind_some, Option.bind_none, List.length_cons, List.length_nil, List.length_append, Nat.zero_add, if_pos, if_neg, decide_true, decide_false, if_true, if_false, Bool.not_true, Bool.not_false, Bool.false_eq_true, Bool.true_eq_false, not_true_eq_false, not_false_eq_true, reduceIte, List.nil_append, k_isName, c1, k_isDay, c2, k_within, c3, and_self]
    · simp (maxSteps := 1000000) (disch := first | omega | assumption) only [r_ret, r_br, decide_eq_true_eq, Bool.not_eq_eq_eq_not, decide_eq_false_iff_not, ite_not, q_true, r_bind, r_iter, q_inB, q_nz, q_app, q_eq, q_bnd, q_str, w64', Option.bind_some, Option.bind_none, List.length_cons, List.length_nil, List.length_append, Nat.zero_add, if_pos, if_neg, decide_true, decide_false, if_true, if_false, Bool.not_true, Bool.not_false, Bool.false_eq_true, Bool.true_eq_false, not_true_eq_false, not_false_eq_true, reduceIte, List.nil_append, k_isName, c1, k_isDay, c2]
  · simp (maxSteps := 1000000) (disch := first | omega | assumption) only [r_ret, r_br, decide_eq_true_eq, Bool.not_eq_eq_eq_not, decide_eq_false_iff_not, ite_not, q_true, r_bind, r_iter, q_inB, q_nz, q_app, q_eq, q_bnd, q_str, w64', Option.bind_some, Option.bind_none, List.length_cons, List.length_nil, List.length_append, Nat.zero_add, if_pos, if_neg, decide_true, decide_false, if_true, if_false, Bool.not_true, Bool.not_false, Bool.false_eq_true, Bool.true_eq_false, not_true_eq_false, not_false_eq_true, reduceIte, List.nil_append, k_isName, c1]
theorem k_rCheckEvent {x : Ev} (hl : x.1.length ≤ 1048576) : ref08xCheckEvent x = some ((evE x, ()), ()) := by
  simp only [ref08xCheckEvent, T_ref08xCheckEvent, evE]
  by_cases c1 : isNm x.1
  · by_cases c2 : 0 ≤ x.2.1 ∧ x.2.1 ≤ 100000
    · by_cases c3 : 0 ≤ x.2.2 ∧ x.2.2 ≤ 2
      · simp (maxSteps := 1000000) (disch := first | omega | assumption) only [r_ret, r_br, decide_eq_true_eq, Bool.not_eq_eq_eq_not, decide_eq_false_iff_not, ite_not, q_true, r_bind, r_iter, q_inB, q_nz, q_app, q_eq, q_bnd, q_str, w64', Option.bind_some, Option.bind_none, List.length_cons, List.length_nil, List.length_append, Nat.zero_add, if_pos, if_neg, decide_true, decide_false, if_true, if_false, Bool.not_true, Bool.not_false, Bool.false_eq_true, Bool.true_eq_false, not_true_eq_false, not_false_eq_true, reduceIte, List.nil_append, k_IsName, c1, k_Within, c2, c3, and_self]
      · simp (maxSteps := 1000000) (disch := first | omega | assumption) only [r_ret, r_br, decide_eq_true_eq, Bool.not_eq_eq_eq_not, decide_eq_false_iff_not, ite_not, q_true, r_bind, r_iter, q_inB, q_nz, q_app, q_eq, q_bnd, q_str, w64', Option.bind_some, Option.bind_none, List.length_cons, List.length_nil, List.length_append, Nat.zero_add, if_pos, if_neg, decide_true, decide_false, if_true, if_false, Bool.not_true, Bool.not_false, Bool.false_eq_true, Bool.true_eq_false, not_true_eq_false, not_false_eq_true, reduceIte, List.nil_append, k_IsName, c1, k_Within, c2, c3, and_self]
    · simp (maxSteps := 1000000) (disch := first | omega | assumption) only [r_ret, r_br, decide_eq_true_eq, Bool.not_eq_eq_eq_not, decide_eq_false_iff_not, ite_not, q_true, r_bind, r_iter, q_inB, q_nz, q_app, q_eq, q_bnd, q_str, w64', Option.bind_some, Option.bind_none, List.length_cons, List.length_nil, List.length_append, Nat.zero_add, if_pos, if_neg, decide_true, decide_false, if_true, if_false, Bool.not_true, Bool.not_false, Bool.false_eq_true, Bool.true_eq_false, not_true_eq_false, not_false_eq_true, reduceIte, List.nil_append, k_IsName, c1, k_Within, c2]
  · simp (maxSteps := 1000000) (disch := first | omega | assumption) only [r_ret, r_br, decide_eq_true_eq, Bool.not_eq_eq_eq_not, decide_eq_false_iff_not, ite_not, q_true, r_bind, r_iter, q_inB, q_nz, q_app, q_eq, q_bnd, q_str, w64', Option.bind_some, Option.bind_none, List.length_cons, List.length_nil, List.length_append, Nat.zero_add, if_pos, if_neg, decide_true, decide_false, if_true, if_false, Bool.not_true, Bool.not_false, Bool.false_eq_true, Bool.true_eq_false, not_true_eq_false, not_false_eq_true, reduceIte, List.nil_append, k_IsName, c1]

theorem numS_why {s : List UInt8} : (∃ v, Lib.atoiAll s = .ok v ∧ numS s = if Lib.itoa v = s ∧ (Lib.trimPrefix s [45]).length ≤ 7 then some v else none) ∨ ((∀ v, Lib.atoiAll s ≠ .ok v) ∧ numS s = none) := by
  unfold numS
  cases ha : Lib.atoiAll s with
  | ok v => exact .inl ⟨v, rfl, rfl⟩
  | _ => exact .inr ⟨fun v e => (by cases e), rfl⟩
theorem atoi_bad {s : List UInt8} (h : ∀ v, Lib.atoiAll s ≠ .ok v) (hs : s.length ≤ 1048576) : ∃ v, strconv_Atoi s = some ((v, false, ()), ()) := by
  unfold strconv_Atoi
  rw [if_pos (by omega)]
  cases ha : Lib.atoiAll s with
  | ok v => exact absurd ha (h v)
  | range => exact ⟨_, rfl⟩
  | _ => exact ⟨_, rfl⟩
theorem k_count {s : List UInt8} (hs : s.length ≤ 1048576) : ∃ w b, coat_count s = some ((w, b, ()), ()) ∧ Got (numS s) w b := by
  rcases numS_why (s := s) with ⟨v, hv, hn⟩ | ⟨hb, hn⟩
  · by_cases h1 : Lib.itoa v = s
    · by_cases h2 : (Lib.trimPrefix s [45]).length ≤ 7
      · refine ⟨v, true, ?_, by rw [hn, if_pos ⟨h1, h2⟩]; exact got_some⟩
        show (T_coat_count s).run = _
        unfold T_coat_count
        refine (r_bs (atoi_ok hv hs)).trans ?_
        refine (br_t rfl).trans ?_
        refine (r_bs (k_Itoa (n := v) (atoiAll_bd hv))).trans ?_
        refine (br_t (decide_eq_true h1)).trans ?_
        refine (r_bs (k_trim s)).trans ?_
        refine (r_ret _).trans ?_
        show some ((v, (decide (((Lib.trimPrefix s [45]).length : Int) ≤ 7), ())), ()) = _
        rw [decide_eq_true (by omega)]
      · refine ⟨v, false, ?_, by rw [hn, if_neg (by rintro ⟨_, h⟩; exact h2 h)]; exact got_none⟩
        show (T_coat_count s).run = _
        unfold T_coat_count
        refine (r_bs (atoi_ok hv hs)).trans ?_
        refine (br_t rfl).trans ?_
        refine (r_bs (k_Itoa (n := v) (atoiAll_bd hv))).trans ?_
        refine (br_t (decide_eq_true h1)).trans ?_
        refine (r_bs (k_trim s)).trans ?_
        refine (r_ret _).trans ?_
        show some ((v, (decide (((Lib.trimPrefix s [45]).length : Int) ≤ 7), ())), ()) = _
        rw [decide_eq_false (by omega)]
    · refine ⟨v, false, ?_, by rw [hn, if_neg (by rintro ⟨h, _⟩; exact h1 h)]; exact got_none⟩
      show (T_coat_count s).run = _
      unfold T_coat_count
      refine (r_bs (atoi_ok hv hs)).trans ?_
      refine (br_t rfl).trans ?_
      refine (r_bs (k_Itoa (n := v) (atoiAll_bd hv))).trans ?_
      refine (br_f (decide_eq_false h1)).trans ?_
      exact r_ret _
  · obtain ⟨v, h⟩ := atoi_bad hb hs
    refine ⟨v, false, ?_, by rw [hn]; exact got_none⟩
    show (T_coat_count s).run = _
    unfold T_coat_count
    refine (r_bs h).trans ?_
    refine (br_f rfl).trans ?_
    exact r_ret _

abbrev Lay := List UInt8 × Int
def lyE (x : Lay) : Int := if isNm x.1 then (if 1 ≤ x.2 ∧ x.2 ≤ 100000 then 0 else 2) else 4
def lyL (l : List Lay) : Int := firstErr (fun k => lyE (gi l (k : Int))) l.length
def layE (l : List Lay) : Int := if 40 < l.length then 8 else lyL l
abbrev NmL (l : List Lay) : Prop := ∀ x ∈ l, x.1.length ≤ 1048576
theorem gi_memL {l : List Lay} {i : Nat} (h : i < l.length) : gi l (i : Int) ∈ l := by rw [gi_nat h]; exact List.getElem_mem h
theorem k_checkLayers {l : List Lay} (hl : l.length ≤ 1048576) (hn : NmL l) : coat_checkLayers l = some ((layE l, ()), ()) := by
  show (T_coat_checkLayers l).run = _
  unfold T_coat_checkLayers layE
  by_cases h1 : 40 < l.length
  · refine (br_t (decide_eq_true (by omega))).trans ?_
    rw [if_pos h1]; exact r_ret _
  · refine (br_f (decide_eq_false (by omega))).trans ?_
    rw [if_neg h1, r_iter]
    refine (iter_err (fun i => ((i : Int), ())) (fun k => lyE (gi l (k : Int))) l.length (by omega) (fun e => (((e, ()), ()) : (Int × Unit) × Unit)) (fun i hi _ he => ?_) (fun i hi _ he => ?_) (fun _ => ?_))
    · unfold T_coat_checkLayers_l0
      have hq := hn _ (gi_memL hi)
      refine (br_t (decide_eq_true (by omega))).trans ?_
      refine (q_of (inB_t' (by omega) (by omega))).trans ?_
      refine (r_bs (k_isName (s := (gi l (i : Int)).1) (by omega))).trans ?_
      unfold lyE at he ⊢
      by_cases c1 : isNm (gi l (i : Int)).1
      · rw [if_pos c1] at he ⊢
        refine (br_f (nd c1)).trans ?_
        refine (r_bs (k_within _ _ _)).trans ?_
        by_cases c2 : 1 ≤ (gi l (i : Int)).2 ∧ (gi l (i : Int)).2 ≤ 100000
        · rw [if_pos c2] at he; exact absurd rfl he
        · rw [if_neg c2]
          refine (br_t (nd' c2)).trans ?_
          exact r_ret _
      · rw [if_neg c1]
        refine (br_t (nd' c1)).trans ?_
        exact r_ret _
    · unfold T_coat_checkLayers_l0
      have hq := hn _ (gi_memL hi)
      refine (br_t (decide_eq_true (by omega))).trans ?_
      refine (q_of (inB_t' (by omega) (by omega))).trans ?_
      refine (r_bs (k_isName (s := (gi l (i : Int)).1) (by omega))).trans ?_
      unfold lyE at he
      by_cases c1 : isNm (gi l (i : Int)).1
      · rw [if_pos c1] at he
        refine (br_f (nd c1)).trans ?_
        refine (r_bs (k_within _ _ _)).trans ?_
        by_cases c2 : 1 ≤ (gi l (i : Int)).2 ∧ (gi l (i : Int)).2 ≤ 100000
        · refine (br_f (nd c2)).trans ?_
          rw [w1 i (by omega)]
          exact r_ret _
        · rw [if_neg c2] at he; cases he
      · rw [if_neg c1] at he; cases he
    · unfold T_coat_checkLayers_l0
      refine (br_f (decide_eq_false (by omega))).trans ?_
      exact r_ret _
theorem k_rCheckPrinted {l : List Lay} (hl : l.length ≤ 1048576) (hn : NmL l) : ref08xCheckPrinted l = some ((layE l, ()), ()) := by
  show (T_ref08xCheckPrinted l).run = _
  unfold T_ref08xCheckPrinted layE
  by_cases h1 : 40 < l.length
  · refine (br_t (decide_eq_true (by omega))).trans ?_
    rw [if_pos h1]; exact r_ret _
  · refine (br_f (decide_eq_false (by omega))).trans ?_
    rw [if_neg h1, r_iter]
    refine (iter_err (fun i => ((i : Int), ())) (fun k => lyE (gi l (k : Int))) l.length (by omega) (fun e => (((e, ()), ()) : (Int × Unit) × Unit)) (fun i hi _ he => ?_) (fun i hi _ he => ?_) (fun _ => ?_))
    · unfold T_ref08xCheckPrinted_l0
      have hq := hn _ (gi_memL hi)
      refine (br_t (decide_eq_true (by omega))).trans ?_
      refine (q_of (inB_t' (by omega) (by omega))).trans ?_
      refine (r_bs (k_IsName (s := (gi l (i : Int)).1) (by omega))).trans ?_
      unfold lyE at he ⊢
      by_cases c1 : isNm (gi l (i : Int)).1
      · rw [if_pos c1] at he ⊢
        refine (br_f (nd c1)).trans ?_
        refine (q_of (inB_t' (by omega) (by omega))).trans ?_
        refine (r_bs (k_Within _ _ _)).trans ?_
        by_cases c2 : 1 ≤ (gi l (i : Int)).2 ∧ (gi l (i : Int)).2 ≤ 100000
        · rw [if_pos c2] at he; exact absurd rfl he
        · rw [if_neg c2]
          refine (br_t (nd' c2)).trans ?_
          exact r_ret _
      · rw [if_neg c1]
        refine (br_t (nd' c1)).trans ?_
        exact r_ret _
    · unfold T_ref08xCheckPrinted_l0
      have hq := hn _ (gi_memL hi)
      refine (br_t (decide_eq_true (by omega))).trans ?_
      refine (q_of (inB_t' (by omega) (by omega))).trans ?_
      refine (r_bs (k_IsName (s := (gi l (i : Int)).1) (by omega))).trans ?_
      unfold lyE at he
      by_cases c1 : isNm (gi l (i : Int)).1
      · rw [if_pos c1] at he
        refine (br_f (nd c1)).trans ?_
        refine (q_of (inB_t' (by omega) (by omega))).trans ?_
        refine (r_bs (k_Within _ _ _)).trans ?_
        by_cases c2 : 1 ≤ (gi l (i : Int)).2 ∧ (gi l (i : Int)).2 ≤ 100000
        · refine (br_f (nd c2)).trans ?_
          rw [w1 i (by omega)]
          exact r_ret _
        · rw [if_neg c2] at he; cases he
      · rw [if_neg c1] at he; cases he
    · unfold T_ref08xCheckPrinted_l0
      refine (br_f (decide_eq_false (by omega))).trans ?_
      exact r_ret _
end Go.Ab
