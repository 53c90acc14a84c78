/- Names; histories of coatings: CheckAging, CheckHistory, read of the program and of the reference. -/
import Derived.Test.YtpnpehoebfdcoaaQ0
import Derived.Test.YtpnpehoebfdcoaaB1
import Derived.Test.YtpnpehoebfdcoaaR1
namespace Go.Ab
open Go
set_option maxRecDepth 1000000
set_option maxHeartbeats 1000000
set_option linter.unusedVariables false
set_option linter.unusedSimpArgs false
attribute [local congr] bindC iterC

theorem awake_ok : law08xawake = some ((true, ()), ()) := by kernel_rfl
theorem k_within (n lo hi : Int) : coat_within n lo hi = some ((decide (lo ≤ n ∧ n ≤ hi), ()), ()) := by
  simp only [coat_within, T_coat_within, r_br, r_ret]
  by_cases h : lo ≤ n <;> simp [h]
theorem k_Within (n lo hi : Int) : base_Within n lo hi = some ((decide (lo ≤ n ∧ n ≤ hi), ()), ()) := by
  simp only [base_Within, T_base_Within, r_br, r_ret]
  by_cases h : lo ≤ n <;> simp [h]
/-- Two lists are equal as far as i. -/
theorem list_eq {a b : List Int} (h : a.length = b.length) (h2 : ∀ j : Nat, j < a.length → gi a j = gi b j) : a = b := by
  refine List.ext_getElem h fun i h1 h3 => ?_
  have := h2 i h1
  simpa [gi, List.getD, List.getElem?_eq_getElem h1, List.getElem?_eq_getElem h3] using this
theorem k_Ints {a b : List Int} (ha : a.length ≤ 1099511627776) : base_Ints a b = some ((decide (a = b), ()), ()) := by
  simp only [base_Ints, T_base_Ints, r_br, r_ret, r_iter]
  by_cases hl : (a.length : Int) = b.length
  · simp only [hl, decide_true, Bool.not_true, Bool.false_eq_true, if_false]
    have hl' : a.length = b.length := by omega
    refine iter_eq (fun i x => x = ((i : Int), ()) ∧ ∀ j : Nat, j < i → gi a j = gi b j) _ a.length (by omega) ?_ ⟨rfl, fun j hj => by omega⟩
    rintro i x hi ⟨rfl, hp⟩
    simp only [T_base_Ints_l0, r_br, r_req, r_ret]
    by_cases hlt : i < a.length
    · rw [if_pos (by simp; omega), if_pos (inB_t (by omega)), if_pos (inB_t (by omega))]
      by_cases he : gi a i = gi b i
      · left
        refine ⟨_, if_neg (by simp [he]), hlt, ?_, ?_⟩
        · rw [w64 (by omega)]; rfl
        · intro j hj
          by_cases e : j = i
          · subst e; exact he
          · exact hp j (by omega)
      · right
        rw [if_pos (by simp [he])]
        have : a ≠ b := fun e => he (by rw [e])
        simp [this]
    · right
      rw [if_neg (by simp; omega)]
      have : a = b := list_eq hl' fun j hj => hp j (by omega)
      simp [this]
  · have : a ≠ b := fun e => hl (by rw [e])
    simp [hl, this]
abbrev isLet (c : Int) : Prop := (97 ≤ c ∧ c ≤ 122) ∨ (65 ≤ c ∧ c ≤ 90)
abbrev isDig (c : Int) : Prop := 48 ≤ c ∧ c ≤ 57
abbrev nmAt (s : List UInt8) (j : Nat) : Prop := isLet ((gi s (j : Int)).toNat : Int) ∨ (j ≠ 0 ∧ (((gi s (j : Int)).toNat : Int) = 45 ∨ isDig ((gi s (j : Int)).toNat : Int)))
def isNm (s : List UInt8) : Prop := s ≠ [] ∧ s.length ≤ 12 ∧ ∀ j, j < s.length → nmAt s j
instance (s : List UInt8) : Decidable (isNm s) := by unfold isNm; infer_instance
theorem isName_body {s : List UInt8} {i : Nat} (hl : s.length ≤ 1099511627776) (hi : i < s.length) : (T_coat_isName_l0 s i).run = if nmAt s i then some (.inl ((i : Int) + 1, ())) else some (.inr ((false, ()), ())) := by
  simp only [T_coat_isName_l0]
  simp (maxSteps := 1000000) (disch := first | omega | assumption) only [r_ret, r_br, decide_eq_true_eq, Bool.not_eq_eq_eq_not, decide_eq_false_iff_not, ite_not, q_true, r_bind, r_iter, q_inB, q_nz, q_app, q_eq, q_bnd, q_str, w64', Option.bind_some, Option.bind_none, List.length_cons, List.length_nil, List.length_append, Nat.zero_add, if_pos, if_neg, decide_true, decide_false, if_true, if_false, Bool.not_true, Bool.not_false, Bool.false_eq_true, Bool.true_eq_false, not_true_eq_false, not_false_eq_true, reduceIte, List.nil_append, ]
  repeat' split
  all_goals first | rfl | (exfalso; omega)
theorem k_isName {s : List UInt8} (hl : s.length ≤ 1099511627776) : coat_isName s = some ((decide (isNm s), ()), ()) := by
  simp only [coat_isName, T_coat_isName]
  rw [r_iter]
  refine iter_eq (fun i x => x = ((i : Int), ()) ∧ ∀ j, j < i → nmAt s j) _ s.length (by omega) ?_ ⟨rfl, fun j hj => by omega⟩
  rintro i x hi ⟨rfl, hp⟩
  by_cases hlt : i < s.length
  · show (∃ x', (T_coat_isName_l0 s i).run = _ ∧ _) ∨ (T_coat_isName_l0 s i).run = _
    rw [isName_body hl hlt]
    by_cases h : nmAt s i
    · left
      refine ⟨_, if_pos h, hlt, rfl, fun j hj => ?_⟩
      by_cases e : j = i
      · subst e; exact h
      · exact hp j (by omega)
    · right
      rw [if_neg h]
      have : ¬ isNm s := fun hn => h (hn.2.2 i hlt)
      simp [this]
  · right
    have : i = s.length := by omega
    subst this
    simp only [T_coat_isName_l0]
    simp (maxSteps := 1000000) (disch := first | omega | assumption) only [r_ret, r_br, decide_eq_true_eq, Bool.not_eq_eq_eq_not, decide_eq_false_iff_not, ite_not, q_true, r_bind, r_iter, q_inB, q_nz, q_app, q_eq, q_bnd, q_str, w64', Option.bind_some, Option.bind_none, List.length_cons, List.length_nil, List.length_append, Nat.zero_add, if_pos, if_neg, decide_true, decide_false, if_true, if_false, Bool.not_true, Bool.not_false, Bool.false_eq_true, Bool.true_eq_false, not_true_eq_false, not_false_eq_true, reduceIte, List.nil_append, ]
    by_cases h0 : s = []
    · subst h0; simp [isNm]
    · simp only [h0, not_false_eq_true, if_true, if_false]
      have : isNm s ↔ (s.length : Int) ≤ 12 := ⟨fun h => by have := h.2.1; omega, fun h => ⟨h0, by omega, fun j hj => hp j (by omega)⟩⟩
      simp [this]
theorem k_isLetter (c : Int) : base_isLetter c = some ((decide (isLet c), ()), ()) := by
  simp only [base_isLetter, T_base_isLetter]
  simp (maxSteps := 1000000) (disch := first | omega | assumption) only [r_ret, r_br, decide_eq_true_eq, Bool.not_eq_eq_eq_not, decide_eq_false_iff_not, ite_not, q_true, r_bind, r_iter, q_inB, q_nz, q_app, q_eq, q_bnd, q_str, w64', Option.bind_some, Option.bind_none, List.length_cons, List.length_nil, List.length_append, Nat.zero_add, if_pos, if_neg, decide_true, decide_false, if_true, if_false, Bool.not_true, Bool.not_false, Bool.false_eq_true, Bool.true_eq_false, not_true_eq_false, not_false_eq_true, reduceIte, List.nil_append, ]
  repeat' split
  all_goals first | (congr 3; rw [decide_eq_decide]; omega) | (simp; omega)
theorem k_isDigit (c : Int) : base_isDigit c = some ((decide (isDig c), ()), ()) := by
  simp only [base_isDigit, T_base_isDigit]
  simp (maxSteps := 1000000) (disch := first | omega | assumption) only [r_ret, r_br, decide_eq_true_eq, Bool.not_eq_eq_eq_not, decide_eq_false_iff_not, ite_not, q_true, r_bind, r_iter, q_inB, q_nz, q_app, q_eq, q_bnd, q_str, w64', Option.bind_some, Option.bind_none, List.length_cons, List.length_nil, List.length_append, Nat.zero_add, if_pos, if_neg, decide_true, decide_false, if_true, if_false, Bool.not_true, Bool.not_false, Bool.false_eq_true, Bool.true_eq_false, not_true_eq_false, not_false_eq_true, reduceIte, List.nil_append, ]
  repeat' split
  all_goals first | (congr 3; rw [decide_eq_decide]; omega) | (simp; omega)
theorem k_IsName {s : List UInt8} (hl : s.length ≤ 1099511627776) : base_IsName s = some ((decide (isNm s), ()), ()) := by
  simp only [base_IsName, T_base_IsName]
  by_cases h0 : s.length = 0
  · have : ¬ isNm s := fun h => h.1 (List.eq_nil_of_length_eq_zero h0)
    simp (maxSteps := 1000000) (disch := first | omega | assumption) only [r_ret, r_br, decide_eq_true_eq, Bool.not_eq_eq_eq_not, decide_eq_false_iff_not, ite_not, q_true, r_bind, r_iter, q_inB, q_nz, q_app, q_eq, q_bnd, q_str, w64', Option.bind_some, Option.bind_none, List.length_cons, List.length_nil, List.length_append, Nat.zero_add, if_pos, if_neg, decide_true, decide_false, if_true, if_false, Bool.not_true, Bool.not_false, Bool.false_eq_true, Bool.true_eq_false, not_true_eq_false, not_false_eq_true, reduceIte, List.nil_append, h0, this]
  have hne : s ≠ [] := fun e => h0 (by rw [e]; rfl)
  by_cases h1 : (12 : Int) < s.length
  · have : ¬ isNm s := fun h => by have := h.2.1; omega
    simp (maxSteps := 1000000) (disch := first | omega | assumption) only [r_ret, r_br, decide_eq_true_eq, Bool.not_eq_eq_eq_not, decide_eq_false_iff_not, ite_not, q_true, r_bind, r_iter, q_inB, q_nz, q_app, q_eq, q_bnd, q_str, w64', Option.bind_some, Option.bind_none, List.length_cons, List.length_nil, List.length_append, Nat.zero_add, if_pos, if_neg, decide_true, decide_false, if_true, if_false, Bool.not_true, Bool.not_false, Bool.false_eq_true, Bool.true_eq_false, not_true_eq_false, not_false_eq_true, reduceIte, List.nil_append, h1, this]
  by_cases h2 : isLet ((gi s (0 : Int)).toNat : Int)
  · simp (maxSteps := 1000000) (disch := first | omega | assumption) only [r_ret, r_br, decide_eq_true_eq, Bool.not_eq_eq_eq_not, decide_eq_false_iff_not, ite_not, q_true, r_bind, r_iter, q_inB, q_nz, q_app, q_eq, q_bnd, q_str, w64', Option.bind_some, Option.bind_none, List.length_cons, List.length_nil, List.length_append, Nat.zero_add, if_pos, if_neg, decide_true, decide_false, if_true, if_false, Bool.not_true, Bool.not_false, Bool.false_eq_true, Bool.true_eq_false, not_true_eq_false, not_false_eq_true, reduceIte, List.nil_append, k_isLetter, h1, h2]
    refine iter_eq (fun i x => x = ((i : Int), ()) ∧ ∀ j, j < i → nmAt s j) _ s.length (by omega) ?_ ⟨rfl, fun j hj => by omega⟩
    rintro i x hi ⟨rfl, hp⟩
    simp only [T_base_IsName_l1]
    by_cases hlt : i < s.length
    · by_cases h : nmAt s i
      · left
        refine ⟨((i : Int) + 1, ()), ?_, hlt, rfl, fun j hj => ?_⟩
        · by_cases a : isLet ((gi s (i : Int)).toNat : Int)
          · simp (maxSteps := 1000000) (disch := first | omega | assumption) only [r_ret, r_br, decide_eq_true_eq, Bool.not_eq_eq_eq_not, decide_eq_false_iff_not, ite_not, q_true, r_bind, r_iter, q_inB, q_nz, q_app, q_eq, q_bnd, q_str, w64', Option.bind_some, Option.bind_none, List.length_cons, List.length_nil, List.length_append, Nat.zero_add, if_pos, if_neg, decide_true, decide_false, if_true, if_false, Bool.not_true, Bool.not_false, Bool.false_eq_true, Bool.true_eq_false, not_true_eq_false, not_false_eq_true, reduceIte, List.nil_append, k_isLetter, k_isDigit, a]
          · by_cases c : isDig ((gi s (i : Int)).toNat : Int)
            · simp (maxSteps := 1000000) (disch := first | omega | assumption) only [r_ret, r_br, decide_eq_true_eq, Bool.not_eq_eq_eq_not, decide_eq_false_iff_not, ite_not, q_true, r_bind, r_iter, q_inB, q_nz, q_app, q_eq, q_bnd, q_str, w64', Option.bind_some, Option.bind_none, List.length_cons, List.length_nil, List.length_append, Nat.zero_add, if_pos, if_neg, decide_true, decide_false, if_true, if_false, Bool.not_true, Bool.not_false, Bool.false_eq_true, Bool.true_eq_false, not_true_eq_false, not_false_eq_true, reduceIte, List.nil_append, k_isLetter, k_isDigit, a, c]
            · have e : ((gi s (i : Int)).toNat : Int) = 45 := by omega
              simp (maxSteps := 1000000) (disch := first | omega | assumption) only [r_ret, r_br, decide_eq_true_eq, Bool.not_eq_eq_eq_not, decide_eq_false_iff_not, ite_not, q_true, r_bind, r_iter, q_inB, q_nz, q_app, q_eq, q_bnd, q_str, w64', Option.bind_some, Option.bind_none, List.length_cons, List.length_nil, List.length_append, Nat.zero_add, if_pos, if_neg, decide_true, decide_false, if_true, if_false, Bool.not_true, Bool.not_false, Bool.false_eq_true, Bool.true_eq_false, not_true_eq_false, not_false_eq_true, reduceIte, List.nil_append, k_isLetter, k_isDigit, a, c, e]
        · by_cases e : j = i
          · subst e; exact h
          · exact hp j (by omega)
      · right
        have hn : ¬ isNm s := fun hn => h (hn.2.2 i hlt)
        have h' : ¬ isLet ((gi s (i : Int)).toNat : Int) ∧ (i ≠ 0 → ¬ ((gi s (i : Int)).toNat : Int) = 45 ∧ ¬ isDig ((gi s (i : Int)).toNat : Int)) := by
          constructor
          · exact fun a => h (.inl a)
          · intro hi0
            exact ⟨fun a => h (.inr ⟨hi0, .inl a⟩), fun a => h (.inr ⟨hi0, .inr a⟩)⟩
        have hi0 : i ≠ 0 := fun e => by subst e; exact h'.1 h2
        obtain ⟨a, b⟩ := h'
        obtain ⟨c, d⟩ := b hi0
        simp (maxSteps := 1000000) (disch := first | omega | assumption) only [r_ret, r_br, decide_eq_true_eq, Bool.not_eq_eq_eq_not, decide_eq_false_iff_not, ite_not, q_true, r_bind, r_iter, q_inB, q_nz, q_app, q_eq, q_bnd, q_str, w64', Option.bind_some, Option.bind_none, List.length_cons, List.length_nil, List.length_append, Nat.zero_add, if_pos, if_neg, decide_true, decide_false, if_true, if_false, Bool.not_true, Bool.not_false, Bool.false_eq_true, Bool.true_eq_false, not_true_eq_false, not_false_eq_true, reduceIte, List.nil_append, k_isLetter, k_isDigit, a, c, d, hn]
    · right
      have : i = s.length := by omega
      subst this
      have hn : isNm s := ⟨hne, by omega, fun j hj => hp j hj⟩
      simp (maxSteps := 1000000) (disch := first | omega | assumption) only [r_ret, r_br, decide_eq_true_eq, Bool.not_eq_eq_eq_not, decide_eq_false_iff_not, ite_not, q_true, r_bind, r_iter, q_inB, q_nz, q_app, q_eq, q_bnd, q_str, w64', Option.bind_some, Option.bind_none, List.length_cons, List.length_nil, List.length_append, Nat.zero_add, if_pos, if_neg, decide_true, decide_false, if_true, if_false, Bool.not_true, Bool.not_false, Bool.false_eq_true, Bool.true_eq_false, not_true_eq_false, not_false_eq_true, reduceIte, List.nil_append, hn]
  · have : ¬ isNm s := fun h => by
      have := h.2.2 0 (by omega)
      simp only [nmAt, ne_eq, not_true_eq_false, false_and, or_false] at this
      exact h2 this
    simp (maxSteps := 1000000) (disch := first | omega | assumption) only [r_ret, r_br, decide_eq_true_eq, Bool.not_eq_eq_eq_not, decide_eq_false_iff_not, ite_not, q_true, r_bind, r_iter, q_inB, q_nz, q_app, q_eq, q_bnd, q_str, w64', Option.bind_some, Option.bind_none, List.length_cons, List.length_nil, List.length_append, Nat.zero_add, if_pos, if_neg, decide_true, decide_false, if_true, if_false, Bool.not_true, Bool.not_false, Bool.false_eq_true, Bool.true_eq_false, not_true_eq_false, not_false_eq_true, reduceIte, List.nil_append, k_isLetter, h1, h2, this]
abbrev Mat := List UInt8 × Int × Int
/-- Names are short enough for any machine. -/
abbrev NmOk (l : List Mat) : Prop := ∀ i : Nat, i < l.length → (gi l (i : Int)).1.length ≤ 1048576
theorem gi_part {α : Type} [Inhabited α] {l : List α} {i j : Nat} (h : j < i) : gi (part l 0 i) (j : Int) = gi l (j : Int) := by
  simp [gi, part, List.getD, List.getElem?_take, h]
theorem part_len {α : Type} {l : List α} {i : Nat} (h : i ≤ l.length) : (part l 0 (i : Int)).length = i := by
  simp [part]; omega
theorem giM {α : Type} [Inhabited α] {l : List α} {i : Nat} (h : i < l.length) : gi l (i : Int) ∈ l := by
  simp [gi, List.getD, List.getElem?_eq_getElem h]
theorem bulk_mem {a : Ty} {l : List a.T} {x : a.T} (h : x ∈ l) : bulkT a x ≤ bulkT (.list a) l := by
  simp only [bulkT]
  induction l with
  | nil => cases h
  | cons y l ih =>
    simp only [List.map_cons, List.sum_cons]
    rcases List.mem_cons.1 h with e | e
    · subst e; omega
    · have := ih e; omega
theorem mats_in {l : List Mat} (b : bulkT (.list (.pair .str (.pair (.int .i64) (.int .i64)))) l ≤ 1048576) : l.length ≤ 1048576 ∧ NmOk l := by
  refine ⟨Nat.le_trans (bulk_len (a := .pair .str (.pair (.int .i64) (.int .i64))) (by decide)) b, fun i hi => ?_⟩
  have := bulk_mem (a := .pair .str (.pair (.int .i64) (.int .i64))) (giM hi)
  simp only [bulkT] at this b
  omega
theorem fdiv_bd {a b m : Int} (hb : 0 < b) (h : -m ≤ a) (h2 : a ≤ m) (hm : 0 ≤ m) : -m ≤ a / b ∧ a / b ≤ m := by
  constructor
  · rcases Int.le_total 0 a with h3 | h3
    · have := Int.ediv_nonneg h3 (Int.le_of_lt hb); omega
    · have h4 : -m * b ≤ a := Int.le_trans (by rw [Int.neg_mul]; have : m * 1 ≤ m * b := Int.mul_le_mul_of_nonneg_left (by omega) hm; omega) h
      exact (Int.le_ediv_iff_mul_le hb).2 h4
  · rcases Int.le_total 0 a with h3 | h3
    · have := Int.ediv_le_self b h3; omega
    · have := Int.ediv_neg_of_neg_of_pos (a := a) (b := b)
      rcases Int.lt_or_eq_of_le h3 with h4 | h4
      · have := this h4 hb; omega
      · subst h4; simp; omega
theorem k_floor {a b : Int} (hb : 0 < b) (h : -9000000000000000000 ≤ a) (h2 : a ≤ 9000000000000000000) : coat_floor a b = some ((a / b, ()), ()) := by
  have hd := tdiv_bd hb h h2
  have e := fdiv_eq' (a := a) hb
  simp only [coat_floor, T_coat_floor]
  by_cases c : a.tmod b < 0
  · rw [if_pos c] at e
    simp (maxSteps := 1000000) (disch := first | omega | assumption) only [r_ret, r_br, decide_eq_true_eq, Bool.not_eq_eq_eq_not, decide_eq_false_iff_not, ite_not, q_true, r_bind, r_iter, q_inB, q_nz, q_app, q_eq, q_bnd, q_str, w64', Option.bind_some, Option.bind_none, List.length_cons, List.length_nil, List.length_append, Nat.zero_add, if_pos, if_neg, decide_true, decide_false, if_true, if_false, Bool.not_true, Bool.not_false, Bool.false_eq_true, Bool.true_eq_false, not_true_eq_false, not_false_eq_true, reduceIte, List.nil_append, c, e]
  · rw [if_neg c] at e
    simp (maxSteps := 1000000) (disch := first | omega | assumption) only [r_ret, r_br, decide_eq_true_eq, Bool.not_eq_eq_eq_not, decide_eq_false_iff_not, ite_not, q_true, r_bind, r_iter, q_inB, q_nz, q_app, q_eq, q_bnd, q_str, w64', Option.bind_some, Option.bind_none, List.length_cons, List.length_nil, List.length_append, Nat.zero_add, if_pos, if_neg, decide_true, decide_false, if_true, if_false, Bool.not_true, Bool.not_false, Bool.false_eq_true, Bool.true_eq_false, not_true_eq_false, not_false_eq_true, reduceIte, List.nil_append, c, e]
/-- Division, rounded up. -/
def cdiv (a b : Int) : Int := 0 - (0 - a) / b
theorem k_ceil {a b : Int} (hb : 0 < b) (h : -9000000000000000000 ≤ a) (h2 : a ≤ 9000000000000000000) : coat_ceil a b = some ((cdiv a b, ()), ()) := by
  have := fdiv_bd (a := 0 - a) hb (m := 9000000000000000000) (by omega) (by omega) (by omega)
  simp only [coat_ceil, T_coat_ceil, cdiv]
  simp (maxSteps := 1000000) (disch := first | omega | assumption) only [r_ret, r_br, decide_eq_true_eq, Bool.not_eq_eq_eq_not, decide_eq_false_iff_not, ite_not, q_true, r_bind, r_iter, q_inB, q_nz, q_app, q_eq, q_bnd, q_str, w64', Option.bind_some, Option.bind_none, List.length_cons, List.length_nil, List.length_append, Nat.zero_add, if_pos, if_neg, decide_true, decide_false, if_true, if_false, Bool.not_true, Bool.not_false, Bool.false_eq_true, Bool.true_eq_false, not_true_eq_false, not_false_eq_true, reduceIte, List.nil_append, k_floor]
abbrev Ag := (Int × Int) × ((Int × Int) × ((Int × Int) × Int))
abbrev Ev := List UInt8 × (Int × Int)
abbrev Sf := Bool × (Int × (Int × (Int × Int)))
/-- The number of the first error, or 0. -/
def firstIx (f : Nat → Int) : Nat → Int
  | 0 => 0
  | n + 1 => if firstErr f n ≠ 0 then firstIx f n else if f n = 0 then 0 else (n : Int)
theorem firstIx_0 {f : Nat → Int} : ∀ {n : Nat}, (∀ j, j < n → f j = 0) → firstIx f n = 0
  | 0, _ => rfl
  | n + 1, h => by rw [firstIx, firstErr_0 (fun j hj => h j (by omega)), if_neg (by decide), if_pos (h n (by omega))]
theorem firstIx_at {f : Nat → Int} {i : Nat} (h : ∀ j, j < i → f j = 0) (hi : f i ≠ 0) : ∀ {n : Nat}, i < n → firstIx f n = i
  | 0, hn => by omega
  | n + 1, hn => by
    rw [firstIx]
    by_cases e : i = n
    · subst e; rw [firstErr_0 h, if_neg (by decide), if_neg hi]
    · rw [firstErr_at h hi (n := n) (by omega), if_pos hi, firstIx_at h hi (n := n) (by omega)]
/-- A loop that stops at the first error, and tells its number. -/
theorem iter_errI {σ ρ : Type} {b : σ → Option (σ ⊕ ρ)} (st : Nat → σ) (f : Nat → Int) (n : Nat) (hn : n ≤ 1099511627776) (F : Int → Int → ρ)
    (h1 : ∀ i : Nat, i < n → (∀ j, j < i → f j = 0) → f i ≠ 0 → b (st i) = some (.inr (F i (f i)))) (h2 : ∀ i : Nat, i < n → (∀ j, j < i → f j = 0) → f i = 0 → b (st i) = some (.inl (st (i + 1))))
    (h3 : (∀ j, j < n → f j = 0) → b (st n) = some (.inr (F 0 0))) : iterF b FUEL (st 0) = some (F (firstIx f n) (firstErr f n)) := by
  refine iter_eq (fun i x => x = st i ∧ ∀ j, j < i → f j = 0) _ n (by omega) ?_ ⟨rfl, fun j hj => by omega⟩
  rintro i x hi ⟨rfl, hp⟩
  by_cases hlt : i < n
  · by_cases q : f i = 0
    · left
      refine ⟨_, h2 i hlt hp q, hlt, rfl, fun j hj => ?_⟩
      by_cases e : j = i
      · subst e; exact q
      · exact hp j (by omega)
    · right; rw [h1 i hlt hp q, firstErr_at hp q hlt, firstIx_at hp q hlt]
  · right
    have : i = n := by omega
    subst this
    rw [h3 hp, firstErr_0 hp, firstIx_0 hp]
def rgE (r : Int × Int) : Int := if (0 ≤ r.1 ∧ r.1 ≤ r.2) ∧ r.2 ≤ 1000 then 0 else 2
def wsE (w : Int) : Int := if 0 ≤ w ∧ w ≤ 100 then 0 else 2
def agI (a : Ag) (i : Nat) : Int := if i = 0 then rgE a.1 else if i = 1 then rgE a.2.1 else rgE a.2.2.1
def agE (a : Ag) : Int := if firstErr (agI a) 3 = 0 then wsE a.2.2.2 else firstErr (agI a) 3
theorem rgE_0 {r : Int × Int} (h : rgE r = 0) : 0 ≤ r.1 ∧ r.1 ≤ r.2 ∧ r.2 ≤ 1000 := by
  unfold rgE at h
  split at h
  · omega
  · cases h
theorem rgE_2 {r : Int × Int} (h : rgE r ≠ 0) : rgE r = 2 := by
  unfold rgE at *
  split
  · rename_i c; exact absurd (if_pos c) h
  · rfl
theorem agE_0 {a : Ag} (h : agE a = 0) : (0 ≤ a.1.1 ∧ a.1.1 ≤ a.1.2 ∧ a.1.2 ≤ 1000) ∧ (0 ≤ a.2.1.1 ∧ a.2.1.1 ≤ a.2.1.2 ∧ a.2.1.2 ≤ 1000) ∧ (0 ≤ a.2.2.1.1 ∧ a.2.2.1.1 ≤ a.2.2.1.2 ∧ a.2.2.1.2 ≤ 1000) ∧ (0 ≤ a.2.2.2 ∧ a.2.2.2 ≤ 100) := by
  unfold agE at h
  split at h
  · rename_i h0
    have q := firstErr_eq0 h0
    refine ⟨rgE_0 (q 0 (by omega)), rgE_0 (q 1 (by omega)), rgE_0 (q 2 (by omega)), ?_⟩
    unfold wsE at h
    split at h
    · assumption
    · cases h
  · contradiction
theorem k_CheckAging (a : Ag) : coat_CheckAging a = some ((agE a, ()), ()) := by
  simp only [coat_CheckAging, T_coat_CheckAging, agE]
  rw [r_iter]
  refine (iter_err (fun i => ((i : Int), ())) (agI a) 3 (by omega) (fun e => ((((if e = 0 then wsE a.2.2.2 else e) : Int), ()), ())) ?_ ?_ ?_)
  all_goals simp only [T_coat_CheckAging_l0]
  · intro i hi hp hb
    have : i = 0 ∨ i = 1 ∨ i = 2 := by omega
    rcases this with rfl | rfl | rfl
    · have e : agI a 0 = 2 := rgE_2 hb
      by_cases c1 : 0 ≤ a.1.1 ∧ a.1.1 ≤ a.1.2
      · by_cases c2 : (1000 : Int) < a.1.2
        · simp (maxSteps := 1000000) (disch := first | omega | assumption) only [r_ret, r_br, decide_eq_true_eq, Bool.not_eq_eq_eq_not, decide_eq_false_iff_not, ite_not, q_true, r_bind, r_iter, q_inB, q_nz, q_app, q_eq, q_bnd, q_str, w64', Option.bind_some, Option.bind_none, List.length_cons, List.length_nil, List.length_append, Nat.zero_add, if_pos, if_neg, decide_true, decide_false, if_true, if_false, Bool.not_true, Bool.not_false, Bool.false_eq_true, Bool.true_eq_false, not_true_eq_false, not_false_eq_true, reduceIte, List.nil_append, k_within, c1, c2, and_self, e]
        · exact absurd (show rgE a.1 = 0 from if_pos ⟨c1, by omega⟩) hb
      · simp (maxSteps := 1000000) (disch := first | omega | assumption) only [r_ret, r_br, decide_eq_true_eq, Bool.not_eq_eq_eq_not, decide_eq_false_iff_not, ite_not, q_true, r_bind, r_iter, q_inB, q_nz, q_app, q_eq, q_bnd, q_str, w64', Option.bind_some, Option.bind_none, List.length_cons, List.length_nil, List.length_append, Nat.zero_add, if_pos, if_neg, decide_true, decide_false, if_true, if_false, Bool.not_true, Bool.not_false, Bool.false_eq_true, Bool.true_eq_false, not_true_eq_false, not_false_eq_true, reduceIte, List.nil_append, k_within, c1, e]
    · have e : agI a 1 = 2 := rgE_2 hb
      by_cases c1 : 0 ≤ a.2.1.1 ∧ a.2.1.1 ≤ a.2.1.2
      · by_cases c2 : (1000 : Int) < a.2.1.2
        · simp (maxSteps := 1000000) (disch := first | omega | assumption) only [r_ret, r_br, decide_eq_true_eq, Bool.not_eq_eq_eq_not, decide_eq_false_iff_not, ite_not, q_true, r_bind, r_iter, q_inB, q_nz, q_app, q_eq, q_bnd, q_str, w64', Option.bind_some, Option.bind_none, List.length_cons, List.length_nil, List.length_append, Nat.zero_add, if_pos, if_neg, decide_true, decide_false, if_true, if_false, Bool.not_true, Bool.not_false, Bool.false_eq_true, Bool.true_eq_false, not_true_eq_false, not_false_eq_true, reduceIte, List.nil_append, k_within, c1, c2, and_self, e]
        · exact absurd (show rgE a.2.1 = 0 from if_pos ⟨c1, by omega⟩) hb
      · simp (maxSteps := 1000000) (disch := first | omega | assumption) only [r_ret, r_br, decide_eq_true_eq, Bool.not_eq_eq_eq_not, decide_eq_false_iff_not, ite_not, q_true, r_bind, r_iter, q_inB, q_nz, q_app, q_eq, q_bnd, q_str, w64', Option.bind_some, Option.bind_none, List.length_cons, List.length_nil, List.length_append, Nat.zero_add, if_pos, if_neg, decide_true, decide_false, if_true, if_false, Bool.not_true, Bool.not_false, Bool.false_eq_true, Bool.true_eq_false, not_true_eq_false, not_false_eq_true, reduceIte, List.nil_append, k_within, c1, e]
    · have e : agI a 2 = 2 := rgE_2 hb
      by_cases c1 : 0 ≤ a.2.2.1.1 ∧ a.2.2.1.1 ≤ a.2.2.1.2
      · by_cases c2 : (1000 : Int) < a.2.2.1.2
        · simp (maxSteps := 1000000) (disch := first | omega | assumption) only [r_ret, r_br, decide_eq_true_eq, Bool.not_eq_eq_eq_not, decide_eq_false_iff_not, ite_not, q_true, r_bind, r_iter, q_inB, q_nz, q_app, q_eq, q_bnd, q_str, w64', Option.bind_some, Option.bind_none, List.length_cons, List.length_nil, List.length_append, Nat.zero_add, if_pos, if_neg, decide_true, decide_false, if_true, if_false, Bool.not_true, Bool.not_false, Bool.false_eq_true, Bool.true_eq_false, not_true_eq_false, not_false_eq_true, reduceIte, List.nil_append, k_within, c1, c2, and_self, e]
        · exact absurd (show rgE a.2.2.1 = 0 from if_pos ⟨c1, by omega⟩) hb
      · simp (maxSteps := 1000000) (disch := first | omega | assumption) only [r_ret, r_br, decide_eq_true_eq, Bool.not_eq_eq_eq_not, decide_eq_false_iff_not, ite_not, q_true, r_bind, r_iter, q_inB, q_nz, q_app, q_eq, q_bnd, q_str, w64', Option.bind_some, Option.bind_none, List.length_cons, List.length_nil, List.length_append, Nat.zero_add, if_pos, if_neg, decide_true, decide_false, if_true, if_false, Bool.not_true, Bool.not_false, Bool.false_eq_true, Bool.true_eq_false, not_true_eq_false, not_false_eq_true, reduceIte, List.nil_append, k_within, c1, e]
  · intro i hi hp hb
    have : i = 0 ∨ i = 1 ∨ i = 2 := by omega
    rcases this with rfl | rfl | rfl
    · have q : rgE a.1 = 0 := hb
      have := rgE_0 q
      have c1 : 0 ≤ a.1.1 ∧ a.1.1 ≤ a.1.2 := by omega
      simp (maxSteps := 1000000) (disch := first | omega | assumption) only [r_ret, r_br, decide_eq_true_eq, Bool.not_eq_eq_eq_not, decide_eq_false_iff_not, ite_not, q_true, r_bind, r_iter, q_inB, q_nz, q_app, q_eq, q_bnd, q_str, w64', Option.bind_some, Option.bind_none, List.length_cons, List.length_nil, List.length_append, Nat.zero_add, if_pos, if_neg, decide_true, decide_false, if_true, if_false, Bool.not_true, Bool.not_false, Bool.false_eq_true, Bool.true_eq_false, not_true_eq_false, not_false_eq_true, reduceIte, List.nil_append, k_within, c1, and_self]
      all_goals rfl
    · have q : rgE a.2.1 = 0 := hb
      have := rgE_0 q
      have c1 : 0 ≤ a.2.1.1 ∧ a.2.1.1 ≤ a.2.1.2 := by omega
      simp (maxSteps := 1000000) (disch := first | omega | assumption) only [r_ret, r_br, decide_eq_true_eq, Bool.not_eq_eq_eq_not, decide_eq_false_iff_not, ite_not, q_true, r_bind, r_iter, q_inB, q_nz, q_app, q_eq, q_bnd, q_str, w64', Option.bind_some, Option.bind_none, List.length_cons, List.length_nil, List.length_append, Nat.zero_add, if_pos, if_neg, decide_true, decide_false, if_true, if_false, Bool.not_true, Bool.not_false, Bool.false_eq_true, Bool.true_eq_false, not_true_eq_false, not_false_eq_true, reduceIte, List.nil_append, k_within, c1, and_self]
      all_goals rfl
    · have q : rgE a.2.2.1 = 0 := hb
      have := rgE_0 q
      have c1 : 0 ≤ a.2.2.1.1 ∧ a.2.2.1.1 ≤ a.2.2.1.2 := by omega
      simp (maxSteps := 1000000) (disch := first | omega | assumption) only [r_ret, r_br, decide_eq_true_eq, Bool.not_eq_eq_eq_not, decide_eq_false_iff_not, ite_not, q_true, r_bind, r_iter, q_inB, q_nz, q_app, q_eq, q_bnd, q_str, w64', Option.bind_some, Option.bind_none, List.length_cons, List.length_nil, List.length_append, Nat.zero_add, if_pos, if_neg, decide_true, decide_false, if_true, if_false, Bool.not_true, Bool.not_false, Bool.false_eq_true, Bool.true_eq_false, not_true_eq_false, not_false_eq_true, reduceIte, List.nil_append, k_within, c1, and_self]
      all_goals rfl
  · intro hp
    unfold wsE
    by_cases c1 : 0 ≤ a.2.2.2 ∧ a.2.2.2 ≤ 100
    · simp (maxSteps := 1000000) (disch := first | omega | assumption) only [r_ret, r_br, decide_eq_true_eq, Bool.not_eq_eq_eq_not, decide_eq_false_iff_not, ite_not, q_true, r_bind, r_iter, q_inB, q_nz, q_app, q_eq, q_bnd, q_str, w64', Option.bind_some, Option.bind_none, List.length_cons, List.length_nil, List.length_append, Nat.zero_add, if_pos, if_neg, decide_true, decide_false, if_true, if_false, Bool.not_true, Bool.not_false, Bool.false_eq_true, Bool.true_eq_false, not_true_eq_false, not_false_eq_true, reduceIte, List.nil_append, k_within, c1, and_self]
    · simp (maxSteps := 1000000) (disch := first | omega | assumption) only [r_ret, r_br, decide_eq_true_eq, Bool.not_eq_eq_eq_not, decide_eq_false_iff_not, ite_not, q_true, r_bind, r_iter, q_inB, q_nz, q_app, q_eq, q_bnd, q_str, w64', Option.bind_some, Option.bind_none, List.length_cons, List.length_nil, List.length_append, Nat.zero_add, if_pos, if_neg, decide_true, decide_false, if_true, if_false, Bool.not_true, Bool.not_false, Bool.false_eq_true, Bool.true_eq_false, not_true_eq_false, not_false_eq_true, reduceIte, List.nil_append, k_within, c1]
theorem k_rCheckAging (a : Ag) : ref08xCheckAging a = some ((agE a, ()), ()) := by
  simp only [ref08xCheckAging, T_ref08xCheckAging, agE]
  rw [r_iter]
  refine (iter_err (fun i => ((i : Int), ())) (agI a) 3 (by omega) (fun e => ((((if e = 0 then wsE a.2.2.2 else e) : Int), ()), ())) ?_ ?_ ?_)
  all_goals simp only [T_ref08xCheckAging_l0]
  · intro i hi hp hb
    have : i = 0 ∨ i = 1 ∨ i = 2 := by omega
    rcases this with rfl | rfl | rfl
    · have e : agI a 0 = 2 := rgE_2 hb
      by_cases c1 : 0 ≤ a.1.1 ∧ a.1.1 ≤ a.1.2
      · by_cases c2 : (1000 : Int) < a.1.2
        · simp (maxSteps := 1000000) (disch := first | omega | assumption) only [r_ret, r_br, decide_eq_true_eq, Bool.not_eq_eq_eq_not, decide_eq_false_iff_not, ite_not, q_true, r_bind, r_iter, q_inB, q_nz, q_app, q_eq, q_bnd, q_str, w64', Option.bind_some, Option.bind_none, List.length_cons, List.length_nil, List.length_append, Nat.zero_add, if_pos, if_neg, decide_true, decide_false, if_true, if_false, Bool.not_true, Bool.not_false, Bool.false_eq_true, Bool.true_eq_false, not_true_eq_false, not_false_eq_true, reduceIte, List.nil_append, k_Within, c1, c2, and_self, e]
        · exact absurd (show rgE a.1 = 0 from if_pos ⟨c1, by omega⟩) hb
      · simp (maxSteps := 1000000) (disch := first | omega | assumption) only [r_ret, r_br, decide_eq_true_eq, Bool.not_eq_eq_eq_not, decide_eq_false_iff_not, ite_not, q_true, r_bind, r_iter, q_inB, q_nz, q_app, q_eq, q_bnd, q_str, w64', Option.bind_some, Option.bind_none, List.length_cons, List.length_nil, List.length_append, Nat.zero_add, if_pos, if_neg, decide_true, decide_false, if_true, if_false, Bool.not_true, Bool.not_false, Bool.false_eq_true, Bool.true_eq_false, not_true_eq_false, not_false_eq_true, reduceIte, List.nil_append, k_Within, c1, e]
    · have e : agI a 1 = 2 := rgE_2 hb
      by_cases c1 : 0 ≤ a.2.1.1 ∧ a.2.1.1 ≤ a.2.1.2
      · by_cases c2 : (1000 : Int) < a.2.1.2
        · simp (maxSteps := 1000000) (disch := first | omega | assumption) only [r_ret, r_br, decide_eq_true_eq, Bool.not_eq_eq_eq_not, decide_eq_false_iff_not, ite_not, q_true, r_bind, r_iter, q_inB, q_nz, q_app, q_eq, q_bnd, q_str, w64', Option.bind_some, Option.bind_none, List.length_cons, List.length_nil, List.length_append, Nat.zero_add, if_pos, if_neg, decide_true, decide_false, if_true, if_false, Bool.not_true, Bool.not_false, Bool.false_eq_true, Bool.true_eq_false, not_true_eq_false, not_false_eq_true, reduceIte, List.nil_append, k_Within, c1, c2, and_self, e]
        · exact absurd (show rgE a.2.1 = 0 from if_pos ⟨c1, by omega⟩) hb
      · simp (maxSteps := 1000000) (disch := first | omega | assumption) only [r_ret, r_br, decide_eq_true_eq, Bool.not_eq_eq_eq_not, decide_eq_false_iff_not, ite_not, q_true, r_bind, r_iter, q_inB, q_nz, q_app, q_eq, q_bnd, q_str, w64', Option.bind_some, Option.bind_none, List.length_cons, List.length_nil, List.length_append, Nat.zero_add, if_pos, if_neg, decide_true, decide_false, if_true, if_false, Bool.not_true, Bool.not_false, Bool.false_eq_true, Bool.true_eq_false, not_true_eq_false, not_false_eq_true, reduceIte, List.nil_append, k_Within, c1, e]
    · have e : agI a 2 = 2 := rgE_2 hb
      by_cases c1 : 0 ≤ a.2.2.1.1 ∧ a.2.2.1.1 ≤ a.2.2.1.2
      · by_cases c2 : (1000 : Int) < a.2.2.1.2
        · simp (maxSteps := 1000000) (disch := first | omega | assumption) only [r_ret, r_br, decide_eq_true_eq, Bool.not_eq_eq_eq_not, decide_eq_false_iff_not, ite_not, q_true, r_bind, r_iter, q_inB, q_nz, q_app, q_eq, q_bnd, q_str, w64', Option.bind_some, Option.bind_none, List.length_cons, List.length_nil, List.length_append, Nat.zero_add, if_pos, if_neg, decide_true, decide_false, if_true, if_false, Bool.not_true, Bool.not_false, Bool.false_eq_true, Bool.true_eq_false, not_true_eq_false, not_false_eq_true, reduceIte, List.nil_append, k_Within, c1, c2, and_self, e]
        · exact absurd (show rgE a.2.2.1 = 0 from if_pos ⟨c1, by omega⟩) hb
      · simp (maxSteps := 1000000) (disch := first | omega | assumption) only [r_ret, r_br, decide_eq_true_eq, Bool.not_eq_eq_eq_not, decide_eq_false_iff_not, ite_not, q_true, r_bind, r_iter, q_inB, q_nz, q_app, q_eq, q_bnd, q_str, w64', Option.bind_some, Option.bind_none, List.length_cons, List.length_nil, List.length_append, Nat.zero_add, if_pos, if_neg, decide_true, decide_false, if_true, if_false, Bool.not_true, Bool.not_false, Bool.false_eq_true, Bool.true_eq_false, not_true_eq_false, not_false_eq_true, reduceIte, List.nil_append, k_Within, c1, e]
  · intro i hi hp hb
    have : i = 0 ∨ i = 1 ∨ i = 2 := by omega
    rcases this with rfl | rfl | rfl
    · have q : rgE a.1 = 0 := hb
      have := rgE_0 q
      have c1 : 0 ≤ a.1.1 ∧ a.1.1 ≤ a.1.2 := by omega
      simp (maxSteps := 1000000) (disch := first | omega | assumption) only [r_ret, r_br, decide_eq_true_eq, Bool.not_eq_eq_eq_not, decide_eq_false_iff_not, ite_not, q_true, r_bind, r_iter, q_inB, q_nz, q_app, q_eq, q_bnd, q_str, w64', Option.bind_some, Option.bind_none, List.length_cons, List.length_nil, List.length_append, Nat.zero_add, if_pos, if_neg, decide_true, decide_false, if_true, if_false, Bool.not_true, Bool.not_false, Bool.false_eq_true, Bool.true_eq_false, not_true_eq_false, not_false_eq_true, reduceIte, List.nil_append, k_Within, c1, and_self]
      all_goals rfl
    · have q : rgE a.2.1 = 0 := hb
      have := rgE_0 q
      have c1 : 0 ≤ a.2.1.1 ∧ a.2.1.1 ≤ a.2.1.2 := by omega
      simp (maxSteps := 1000000) (disch := first | omega | assumption) only [r_ret, r_br, decide_eq_true_eq, Bool.not_eq_eq_eq_not, decide_eq_false_iff_not, ite_not, q_true, r_bind, r_iter, q_inB, q_nz, q_app, q_eq, q_bnd, q_str, w64', Option.bind_some, Option.bind_none, List.length_cons, List.length_nil, List.length_append, Nat.zero_add, if_pos, if_neg, decide_true, decide_false, if_true, if_false, Bool.not_true, Bool.not_false, Bool.false_eq_true, Bool.true_eq_false, not_true_eq_false, not_false_eq_true, reduceIte, List.nil_append, k_Within, c1, and_self]
      all_goals rfl
    · have q : rgE a.2.2.1 = 0 := hb
      have := rgE_0 q
      have c1 : 0 ≤ a.2.2.1.1 ∧ a.2.2.1.1 ≤ a.2.2.1.2 := by omega
      simp (maxSteps := 1000000) (disch := first | omega | assumption) only [r_ret, r_br, decide_eq_true_eq, Bool.not_eq_eq_eq_not, decide_eq_false_iff_not, ite_not, q_true, r_bind, r_iter, q_inB, q_nz, q_app, q_eq, q_bnd, q_str, w64', Option.bind_some, Option.bind_none, List.length_cons, List.length_nil, List.length_append, Nat.zero_add, if_pos, if_neg, decide_true, decide_false, if_true, if_false, Bool.not_true, Bool.not_false, Bool.false_eq_true, Bool.true_eq_false, not_true_eq_false, not_false_eq_true, reduceIte, List.nil_append, k_Within, c1, and_self]
      all_goals rfl
  · intro hp
    unfold wsE
    by_cases c1 : 0 ≤ a.2.2.2 ∧ a.2.2.2 ≤ 100
    · simp (maxSteps := 1000000) (disch := first | omega | assumption) only [r_ret, r_br, decide_eq_true_eq, Bool.not_eq_eq_eq_not, decide_eq_false_iff_not, ite_not, q_true, r_bind, r_iter, q_inB, q_nz, q_app, q_eq, q_bnd, q_str, w64', Option.bind_some, Option.bind_none, List.length_cons, List.length_nil, List.length_append, Nat.zero_add, if_pos, if_neg, decide_true, decide_false, if_true, if_false, Bool.not_true, Bool.not_false, Bool.false_eq_true, Bool.true_eq_false, not_true_eq_false, not_false_eq_true, reduceIte, List.nil_append, k_Within, c1, and_self]
    · simp (maxSteps := 1000000) (disch := first | omega | assumption) only [r_ret, r_br, decide_eq_true_eq, Bool.not_eq_eq_eq_not, decide_eq_false_iff_not, ite_not, q_true, r_bind, r_iter, q_inB, q_nz, q_app, q_eq, q_bnd, q_str, w64', Option.bind_some, Option.bind_none, List.length_cons, List.length_nil, List.length_append, Nat.zero_add, if_pos, if_neg, decide_true, decide_false, if_true, if_false, Bool.not_true, Bool.not_false, Bool.false_eq_true, Bool.true_eq_false, not_true_eq_false, not_false_eq_true, reduceIte, List.nil_append, k_Within, c1]
def evE (x : Ev) : Int := if isNm x.1 then (if 0 ≤ x.2.1 ∧ x.2.1 ≤ 100000 then (if 0 ≤ x.2.2 ∧ x.2.2 ≤ 2 then 0 else 15) else 2) else 4
theorem k_isDay (n : Int) : coat_isDay n = some ((decide (0 ≤ n ∧ n ≤ 100000), ()), ()) := by
  simp only [coat_isDay, T_coat_isDay]
  simp (maxSteps := 1000000) (disch := first | omega | assumption) only [r_ret, r_br, decide_eq_true_eq, Bool.not_eq_eq_eq_not, decide_eq_false_iff_not, ite_not, q_true, r_bind, r_iter, q_inB, q_nz, q_app, q_eq, q_bnd, q_str, w64', Option.bind_some, Option.bind_none, List.length_cons, List.length_nil, List.length_append, Nat.zero_add, if_pos, if_neg, decide_true, decide_false, if_true, if_false, Bool.not_true, Bool.not_false, Bool.false_eq_true, Bool.true_eq_false, not_true_eq_false, not_false_eq_true, reduceIte, List.nil_append, k_within]
theorem k_checkEvent {x : Ev} (hl : x.1.length ≤ 1048576) : coat_checkEvent x = some ((evE x, ()), ()) := by
  simp only [coat_checkEvent, T_coat_checkEvent, evE]
  by_cases c1 : isNm x.1
  · by_cases c2 : 0 ≤ x.2.1 ∧ x.2.1 ≤ 100000
    · by_cases c3 : 0 ≤ x.2.2 ∧ x.2.2 ≤ 2
      · simp (maxSteps := 1000000) (disch := first | omega | assumption) only [r_ret, r_br, decide_eq_true_eq, Bool.not_eq_eq_eq_not, decide_eq_false_iff_not, ite_not, q_true, r_bind, r_iter, q_inB, q_nz, q_app, q_eq, q_bnd, q_str, w64', Option.bind_some, Option.bind_none, List.length_cons, List.length_nil, List.length_append, Nat.zero_add, if_pos, if_neg, decide_true, decide_false, if_true, if_false, Bool.not_true, Bool.not_false, Bool.false_eq_true, Bool.true_eq_false, not_true_eq_false, not_false_eq_true, reduceIte, List.nil_append, k_isName, c1, k_isDay, c2, k_within, c3, and_self]
      · simp (maxSteps := 1000000) (disch := first | omega | assumption) only [r_ret, r_br, decide_eq_true_eq, Bool.not_eq_eq_eq_not, decide_eq_false_iff_not, ite_not, q_true, r_bind, r_iter, q_inB, q_nz, q_app, q_eq, q_bnd, q_str, w64', Option.bind_some, Option.bind_none, List.length_cons, List.length_nil, List.length_append, Nat.zero_add, if_pos, if_neg, decide_true, decide_false, if_true, if_false, Bool.not_true, Bool.not_false, Bool.false_eq_true, Bool.true_eq_false, not_true_eq_false, not_false_eq_true, reduceIte, List.nil_append, k_isName, c1, k_isDay, c2, k_within, c3, and_self]
    · simp (maxSteps := 1000000) (disch := first | omega | assumption) only [r_ret, r_br, decide_eq_true_eq, Bool.not_eq_eq_eq_not, decide_eq_false_iff_not, ite_not, q_true, r_bind, r_iter, q_inB, q_nz, q_app, q_eq, q_bnd, q_str, w64', Option.bind_some, Option.bind_none, List.length_cons, List.length_nil, List.length_append, Nat.zero_add, if_pos, if_neg, decide_true, decide_false, if_true, if_false, Bool.not_true, Bool.not_false, Bool.false_eq_true, Bool.true_eq_false, not_true_eq_false, not_false_eq_true, reduceIte, List.nil_append, k_isName, c1, k_isDay, c2]
  · simp (maxSteps := 1000000) (disch := first | omega | assumption) only [r_ret, r_br, decide_eq_true_eq, Bool.not_eq_eq_eq_not, decide_eq_false_iff_not, ite_not, q_true, r_bind, r_iter, q_inB, q_nz, q_app, q_eq, q_bnd, q_str, w64', Option.bind_some, Option.bind_none, List.length_cons, List.length_nil, List.length_append, Nat.zero_add, if_pos, if_neg, decide_true, decide_false, if_true, if_false, Bool.not_true, Bool.not_false, Bool.false_eq_true, Bool.true_eq_false, not_true_eq_false, not_false_eq_true, reduceIte, List.nil_append, k_isName, c1]
theorem k_rCheckEvent {x : Ev} (hl : x.1.length ≤ 1048576) : ref08xCheckEvent x = some ((evE x, ()), ()) := by
  simp only [ref08xCheckEvent, T_ref08xCheckEvent, evE]
  by_cases c1 : isNm x.1
  · by_cases c2 : 0 ≤ x.2.1 ∧ x.2.1 ≤ 100000
    · by_cases c3 : 0 ≤ x.2.2 ∧ x.2.2 ≤ 2
      · simp (maxSteps := 1000000) (disch := first | omega | assumption) only [r_ret, r_br, decide_eq_true_eq, Bool.not_eq_eq_eq_not, decide_eq_false_iff_not, ite_not, q_true, r_bind, r_iter, q_inB, q_nz, q_app, q_eq, q_bnd, q_str, w64', Option.bind_some, Option.bind_none, List.length_cons, List.length_nil, List.length_append, Nat.zero_add, if_pos, if_neg, decide_true, decide_false, if_true, if_false, Bool.not_true, Bool.not_false, Bool.false_eq_true, Bool.true_eq_false, not_true_eq_false, not_false_eq_true, reduceIte, List.nil_append, k_IsName, c1, k_Within, c2, c3, and_self]
      · simp (maxSteps := 1000000) (disch := first | omega | assumption) only [r_ret, r_br, decide_eq_true_eq, Bool.not_eq_eq_eq_not, decide_eq_false_iff_not, ite_not, q_true, r_bind, r_iter, q_inB, q_nz, q_app, q_eq, q_bnd, q_str, w64', Option.bind_some, Option.bind_none, List.length_cons, List.length_nil, List.length_append, Nat.zero_add, if_pos, if_neg, decide_true, decide_false, if_true, if_false, Bool.not_true, Bool.not_false, Bool.false_eq_true, Bool.true_eq_false, not_true_eq_false, not_false_eq_true, reduceIte, List.nil_append, k_IsName, c1, k_Within, c2, c3, and_self]
    · simp (maxSteps := 1000000) (disch := first | omega | assumption) only [r_ret, r_br, decide_eq_true_eq, Bool.not_eq_eq_eq_not, decide_eq_false_iff_not, ite_not, q_true, r_bind, r_iter, q_inB, q_nz, q_app, q_eq, q_bnd, q_str, w64', Option.bind_some, Option.bind_none, List.length_cons, List.length_nil, List.length_append, Nat.zero_add, if_pos, if_neg, decide_true, decide_false, if_true, if_false, Bool.not_true, Bool.not_false, Bool.false_eq_true, Bool.true_eq_false, not_true_eq_false, not_false_eq_true, reduceIte, List.nil_append, k_IsName, c1, k_Within, c2]
  · simp (maxSteps := 1000000) (disch := first | omega | assumption) only [r_ret, r_br, decide_eq_true_eq, Bool.not_eq_eq_eq_not, decide_eq_false_iff_not, ite_not, q_true, r_bind, r_iter, q_inB, q_nz, q_app, q_eq, q_bnd, q_str, w64', Option.bind_some, Option.bind_none, List.length_cons, List.length_nil, List.length_append, Nat.zero_add, if_pos, if_neg, decide_true, decide_false, if_true, if_false, Bool.not_true, Bool.not_false, Bool.false_eq_true, Bool.true_eq_false, not_true_eq_false, not_false_eq_true, reduceIte, List.nil_append, k_IsName, c1]
theorem evE_0 {x : Ev} (h : evE x = 0) : (0 ≤ x.2.1 ∧ x.2.1 ≤ 100000) ∧ (x.2.2 = 0 ∨ x.2.2 = 1 ∨ x.2.2 = 2) := by
  unfold evE at h
  split at h
  · split at h
    · split at h
      · omega
      · cases h
    · cases h
  · cases h
def agd (a : Ag) (r : Int × Int) (d : Int) : Int × Int := (max 0 (r.1 - cdiv (a.2.1.2 * d) 1000), max 0 (r.2 - a.2.1.1 * d / 1000))
def stp (a : Ag) (s : Sf) (x : Ev) : Sf :=
  if x.2.2 = 0 then (true, 0, x.2.1, a.1)
  else if x.2.2 = 1 then (s.1, s.2.1 + 1, x.2.1, (min a.1.1 ((agd a s.2.2.2 (x.2.1 - s.2.2.1)).1 + a.2.2.1.1), min a.1.2 ((agd a s.2.2.2 (x.2.1 - s.2.2.1)).2 + a.2.2.1.2)))
  else (false, s.2)
def posE (w : Int) (s : Sf) (kind : Int) : Int := if s.1 = decide (kind = 0) then 24 else if kind = 1 ∧ w ≤ s.2.1 then 16 else 0
def sf0 : Sf := (false, 0, 0, 0, 0)
def flm (a : Ag) (l : List Ev) : Nat → Sf
  | 0 => sf0
  | i + 1 => stp a (flm a l i) (gi l (i : Int))
def thn (a : Ag) (l : List Ev) (day : Int) : Nat → Sf
  | 0 => sf0
  | i + 1 => if (gi l (i : Int)).2.1 ≤ day then flm a l (i + 1) else thn a l day i
/-- The bounds of a film. -/
def SfOk (a : Ag) (s : Sf) : Prop := (0 ≤ s.2.1 ∧ s.2.1 ≤ a.2.2.2) ∧ (0 ≤ s.2.2.1 ∧ s.2.2.1 ≤ 100000) ∧ (0 ≤ s.2.2.2.1 ∧ s.2.2.2.1 ≤ s.2.2.2.2 ∧ s.2.2.2.2 ≤ 1000)
theorem mul_rg {x d : Int} (h : 0 ≤ x ∧ x ≤ 1000) (hd : -100000 ≤ d ∧ d ≤ 100000) : -100000000 ≤ x * d ∧ x * d ≤ 100000000 := by
  rcases Int.le_total 0 d with h2 | h2
  · have := Int.mul_le_mul h.2 hd.2 h2 (by omega)
    have := Int.mul_nonneg h.1 h2
    omega
  · have := Int.mul_le_mul h.2 (b := -d) (d := 100000) (by omega) (by omega) (by omega)
    have := Int.mul_nonneg h.1 (b := -d) (by omega)
    rw [Int.mul_neg] at *
    omega
theorem cdiv_bd {a b m : Int} (hb : 0 < b) (h : -m ≤ a) (h2 : a ≤ m) (hm : 0 ≤ m) : -m ≤ cdiv a b ∧ cdiv a b ≤ m := by
  have := fdiv_bd (a := 0 - a) hb (m := m) (by omega) (by omega) hm
  unfold cdiv; omega
theorem agd_bd {a : Ag} (ha : agE a = 0) {r : Int × Int} (hr : 0 ≤ r.1 ∧ r.1 ≤ r.2 ∧ r.2 ≤ 1000) {d : Int} (hd : -100000 ≤ d ∧ d ≤ 100000) :
    (-100000000 ≤ a.2.1.2 * d ∧ a.2.1.2 * d ≤ 100000000) ∧ (-100000000 ≤ a.2.1.1 * d ∧ a.2.1.1 * d ≤ 100000000) ∧ (-100000000 ≤ cdiv (a.2.1.2 * d) 1000 ∧ cdiv (a.2.1.2 * d) 1000 ≤ 100000000) ∧ (-100000000 ≤ a.2.1.1 * d / 1000 ∧ a.2.1.1 * d / 1000 ≤ 100000000) := by
  obtain ⟨-, h, -, -⟩ := agE_0 ha
  have m1 := mul_rg (x := a.2.1.2) (d := d) (by omega) hd
  have m2 := mul_rg (x := a.2.1.1) (d := d) (by omega) hd
  exact ⟨m1, m2, cdiv_bd (by omega) m1.1 m1.2 (by omega), fdiv_bd (by omega) m2.1 m2.2 (by omega)⟩
/-- What days take is at least as much at the greater loss. -/
theorem agd_rg {a : Ag} (ha : agE a = 0) {r : Int × Int} (hr : 0 ≤ r.1 ∧ r.1 ≤ r.2 ∧ r.2 ≤ 1000) {d : Int} (hd : 0 ≤ d) : 0 ≤ (agd a r d).1 ∧ (agd a r d).1 ≤ (agd a r d).2 ∧ (agd a r d).2 ≤ r.2 := by
  obtain ⟨-, h, -, -⟩ := agE_0 ha
  have m1 : a.2.1.1 * d ≤ a.2.1.2 * d := Int.mul_le_mul_of_nonneg_right h.2.1 hd
  have m2 : 0 ≤ a.2.1.1 * d := Int.mul_nonneg h.1 hd
  unfold agd cdiv
  generalize a.2.1.1 * d = u at *
  generalize a.2.1.2 * d = v at *
  simp only
  omega
theorem k_film_on {a : Ag} {s : Sf} {day : Int} (ha : agE a = 0) (hs : SfOk a s) (hd : 0 ≤ day ∧ day ≤ 100000) : coat_film_on day (a, s) = some ((agd a s.2.2.2 (day - s.2.2.1), ()), ((a, s), ())) := by
  obtain ⟨h1, h2, h3⟩ := hs
  obtain ⟨m1, m2, m3, m4⟩ := agd_bd ha h3 (d := day - s.2.2.1) (by omega)
  simp only [coat_film_on, T_coat_film_on, agd]
  simp (maxSteps := 1000000) (disch := first | omega | assumption) only [r_ret, r_br, decide_eq_true_eq, Bool.not_eq_eq_eq_not, decide_eq_false_iff_not, ite_not, q_true, r_bind, r_iter, q_inB, q_nz, q_app, q_eq, q_bnd, q_str, w64', Option.bind_some, Option.bind_none, List.length_cons, List.length_nil, List.length_append, Nat.zero_add, if_pos, if_neg, decide_true, decide_false, if_true, if_false, Bool.not_true, Bool.not_false, Bool.false_eq_true, Bool.true_eq_false, not_true_eq_false, not_false_eq_true, reduceIte, List.nil_append, k_ceil, k_floor]
  all_goals rfl
theorem k_possible (a : Ag) (s : Sf) (kind : Int) : coat_film_possible kind (a, s) = some ((posE a.2.2.2 s kind, ()), ((a, s), ())) := by
  simp only [coat_film_possible, T_coat_film_possible, posE]
  generalize decide (kind = 0) = k
  by_cases c1 : s.1 = k
  · have c1' : (s.1 == k) = true := by simpa using c1
    rw [if_pos c1]
    simp (maxSteps := 1000000) (disch := first | omega | assumption) only [r_ret, r_br, decide_eq_true_eq, Bool.not_eq_eq_eq_not, decide_eq_false_iff_not, ite_not, q_true, r_bind, r_iter, q_inB, q_nz, q_app, q_eq, q_bnd, q_str, w64', Option.bind_some, Option.bind_none, List.length_cons, List.length_nil, List.length_append, Nat.zero_add, if_pos, if_neg, decide_true, decide_false, if_true, if_false, Bool.not_true, Bool.not_false, Bool.false_eq_true, Bool.true_eq_false, not_true_eq_false, not_false_eq_true, reduceIte, List.nil_append, c1']
    all_goals rfl
  · have c1' : (s.1 == k) = false := by simpa using c1
    rw [if_neg c1]
    by_cases c2 : kind = 1
    · by_cases c3 : a.2.2.2 ≤ s.2.1
      · rw [if_pos ⟨c2, c3⟩]
        simp (maxSteps := 1000000) (disch := first | omega | assumption) only [r_ret, r_br, decide_eq_true_eq, Bool.not_eq_eq_eq_not, decide_eq_false_iff_not, ite_not, q_true, r_bind, r_iter, q_inB, q_nz, q_app, q_eq, q_bnd, q_str, w64', Option.bind_some, Option.bind_none, List.length_cons, List.length_nil, List.length_append, Nat.zero_add, if_pos, if_neg, decide_true, decide_false, if_true, if_false, Bool.not_true, Bool.not_false, Bool.false_eq_true, Bool.true_eq_false, not_true_eq_false, not_false_eq_true, reduceIte, List.nil_append, c1', c2, c3]
        all_goals rfl
      · rw [if_neg (fun h => c3 h.2)]
        simp (maxSteps := 1000000) (disch := first | omega | assumption) only [r_ret, r_br, decide_eq_true_eq, Bool.not_eq_eq_eq_not, decide_eq_false_iff_not, ite_not, q_true, r_bind, r_iter, q_inB, q_nz, q_app, q_eq, q_bnd, q_str, w64', Option.bind_some, Option.bind_none, List.length_cons, List.length_nil, List.length_append, Nat.zero_add, if_pos, if_neg, decide_true, decide_false, if_true, if_false, Bool.not_true, Bool.not_false, Bool.false_eq_true, Bool.true_eq_false, not_true_eq_false, not_false_eq_true, reduceIte, List.nil_append, c1', c2, c3]
        all_goals rfl
    · rw [if_neg (fun h => c2 h.1)]
      simp (maxSteps := 1000000) (disch := first | omega | assumption) only [r_ret, r_br, decide_eq_true_eq, Bool.not_eq_eq_eq_not, decide_eq_false_iff_not, ite_not, q_true, r_bind, r_iter, q_inB, q_nz, q_app, q_eq, q_bnd, q_str, w64', Option.bind_some, Option.bind_none, List.length_cons, List.length_nil, List.length_append, Nat.zero_add, if_pos, if_neg, decide_true, decide_false, if_true, if_false, Bool.not_true, Bool.not_false, Bool.false_eq_true, Bool.true_eq_false, not_true_eq_false, not_false_eq_true, reduceIte, List.nil_append, c1', c2]
      all_goals rfl
theorem k_take {a : Ag} {s : Sf} {x : Ev} (ha : agE a = 0) (hs : SfOk a s) (hx : 0 ≤ x.2.1 ∧ x.2.1 ≤ 100000) : coat_film_take x (a, s) = some ((), ((a, stp a s x), ())) := by
  have hon := k_film_on ha hs hx
  obtain ⟨g1, -, g3, g4⟩ := agE_0 ha
  have hs' := hs
  obtain ⟨h1, h2, h3⟩ := hs'
  obtain ⟨m1, m2, m3, m4⟩ := agd_bd ha h3 (d := x.2.1 - s.2.2.1) (by omega)
  simp only [coat_film_take, T_coat_film_take, stp]
  by_cases c1 : x.2.2 = 0
  · simp (maxSteps := 1000000) (disch := first | omega | assumption) only [r_ret, r_br, decide_eq_true_eq, Bool.not_eq_eq_eq_not, decide_eq_false_iff_not, ite_not, q_true, r_bind, r_iter, q_inB, q_nz, q_app, q_eq, q_bnd, q_str, w64', Option.bind_some, Option.bind_none, List.length_cons, List.length_nil, List.length_append, Nat.zero_add, if_pos, if_neg, decide_true, decide_false, if_true, if_false, Bool.not_true, Bool.not_false, Bool.false_eq_true, Bool.true_eq_false, not_true_eq_false, not_false_eq_true, reduceIte, List.nil_append, c1]
    all_goals rfl
  · by_cases c2 : x.2.2 = 1
    · have b1 : 0 ≤ (agd a s.2.2.2 (x.2.1 - s.2.2.1)).1 ∧ (agd a s.2.2.2 (x.2.1 - s.2.2.1)).1 ≤ 1000000000 := by simp only [agd]; omega
      have b2 : 0 ≤ (agd a s.2.2.2 (x.2.1 - s.2.2.1)).2 ∧ (agd a s.2.2.2 (x.2.1 - s.2.2.1)).2 ≤ 1000000000 := by simp only [agd]; omega
      clear m1 m2 m3 m4
      generalize agd a s.2.2.2 (x.2.1 - s.2.2.1) = r at *
      simp (maxSteps := 1000000) (disch := first | omega | assumption) only [r_ret, r_br, decide_eq_true_eq, Bool.not_eq_eq_eq_not, decide_eq_false_iff_not, ite_not, q_true, r_bind, r_iter, q_inB, q_nz, q_app, q_eq, q_bnd, q_str, w64', Option.bind_some, Option.bind_none, List.length_cons, List.length_nil, List.length_append, Nat.zero_add, if_pos, if_neg, decide_true, decide_false, if_true, if_false, Bool.not_true, Bool.not_false, Bool.false_eq_true, Bool.true_eq_false, not_true_eq_false, not_false_eq_true, reduceIte, List.nil_append, c1, c2, hon]
      all_goals rfl
    · simp (maxSteps := 1000000) (disch := first | omega | assumption) only [r_ret, r_br, decide_eq_true_eq, Bool.not_eq_eq_eq_not, decide_eq_false_iff_not, ite_not, q_true, r_bind, r_iter, q_inB, q_nz, q_app, q_eq, q_bnd, q_str, w64', Option.bind_some, Option.bind_none, List.length_cons, List.length_nil, List.length_append, Nat.zero_add, if_pos, if_neg, decide_true, decide_false, if_true, if_false, Bool.not_true, Bool.not_false, Bool.false_eq_true, Bool.true_eq_false, not_true_eq_false, not_false_eq_true, reduceIte, List.nil_append, c1, c2]
      all_goals rfl
def hsE (a : Ag) (l : List Ev) (i : Nat) : Int :=
  if evE (gi l (i : Int)) = 0 then
    (if (gi l (i : Int)).1 = (gi l (0 : Int)).1 then
      (if 0 < i ∧ (gi l (i : Int)).2.1 < (gi l ((i : Int) - 1)).2.1 then 9 else posE a.2.2.2 (flm a l i) (gi l (i : Int)).2.2)
    else 13)
  else evE (gi l (i : Int))
def hisE (a : Ag) (l : List Ev) : Int := if (40 : Int) < l.length then 8 else firstErr (hsE a l) l.length
def hisI (a : Ag) (l : List Ev) : Int := if (40 : Int) < l.length then 0 else firstIx (hsE a l) l.length
abbrev EvOk (l : List Ev) : Prop := ∀ i : Nat, i < l.length → (gi l (i : Int)).1.length ≤ 1048576
theorem hsE_0 {a : Ag} {l : List Ev} {i : Nat} (h : hsE a l i = 0) : evE (gi l (i : Int)) = 0 ∧ (gi l (i : Int)).1 = (gi l (0 : Int)).1 ∧ (0 < i → (gi l ((i : Int) - 1)).2.1 ≤ (gi l (i : Int)).2.1) ∧ posE a.2.2.2 (flm a l i) (gi l (i : Int)).2.2 = 0 := by
  unfold hsE at h
  split at h
  · split at h
    · split at h
      · cases h
      · refine ⟨‹_›, ‹_›, by omega, h⟩
    · cases h
  · contradiction
theorem posE_0 {w kind : Int} {s : Sf} (h : posE w s kind = 0) : s.1 ≠ decide (kind = 0) ∧ (kind = 1 → s.2.1 < w) := by
  unfold posE at h
  split at h
  · cases h
  · split at h
    · cases h
    · exact ⟨‹_›, by omega⟩
theorem flm_day {a : Ag} {l : List Ev} : ∀ {i : Nat}, (∀ j, j < i → hsE a l j = 0) → 0 < i → (flm a l i).2.2.1 ≤ (gi l ((i : Int) - 1)).2.1
  | 0, _, h => by omega
  | i + 1, hp, _ => by
    obtain ⟨h1, h2, h3, h4⟩ := hsE_0 (hp i (by omega))
    obtain ⟨e1, e2⟩ := evE_0 h1
    rw [show ((i + 1 : Nat) : Int) - 1 = (i : Int) by omega]
    have ih := flm_day (i := i) (fun j hj => hp j (by omega))
    simp only [flm, stp]
    rcases e2 with e | e | e
    · rw [if_pos e]; exact Int.le_refl _
    · rw [if_neg (by omega), if_pos e]; exact Int.le_refl _
    · rw [if_neg (by omega), if_neg (by omega)]
      by_cases q : 0 < i
      · exact Int.le_trans (ih q) (h3 q)
      · have : i = 0 := by omega
        subst this
        simp only [flm, sf0]; omega
theorem flm_ok {a : Ag} {l : List Ev} (ha : agE a = 0) : ∀ i : Nat, (∀ j, j < i → hsE a l j = 0) → SfOk a (flm a l i)
  | 0, _ => by
    obtain ⟨-, -, -, h⟩ := agE_0 ha
    simp only [flm, sf0, SfOk]; omega
  | i + 1, hp => by
    have hp' : ∀ j, j < i → hsE a l j = 0 := fun j hj => hp j (by omega)
    have hs := flm_ok ha i hp'
    obtain ⟨h1, h2, h3, h4⟩ := hsE_0 (hp i (by omega))
    obtain ⟨e1, e2⟩ := evE_0 h1
    obtain ⟨p1, p2⟩ := posE_0 h4
    obtain ⟨g1, g2, g3, g4⟩ := agE_0 ha
    have hd : (flm a l i).2.2.1 ≤ (gi l (i : Int)).2.1 := by
      by_cases q : 0 < i
      · exact Int.le_trans (flm_day hp' q) (h3 q)
      · have : i = 0 := by omega
        subst this
        simp only [flm, sf0]; exact e1.1
    have hs' := hs
    obtain ⟨s1, s2, s3⟩ := hs'
    have ag := agd_rg ha s3 (d := (gi l (i : Int)).2.1 - (flm a l i).2.2.1) (by omega)
    simp only [flm, stp]
    rcases e2 with e | e | e
    · rw [if_pos e]; simp only [SfOk]; omega
    · rw [if_neg (by omega), if_pos e]
      have := p2 e
      simp only [SfOk]
      generalize agd a (flm a l i).2.2.2 ((gi l (i : Int)).2.1 - (flm a l i).2.2.1) = r at *
      omega
    · rw [if_neg (by omega), if_neg (by omega)]; exact hs
abbrev fmD : Ag × Sf := ((((Ty.int IntKind.i64).pair (Ty.int IntKind.i64)).pair (((Ty.int IntKind.i64).pair (Ty.int IntKind.i64)).pair (((Ty.int IntKind.i64).pair (Ty.int IntKind.i64)).pair (Ty.int IntKind.i64)))).pair (Ty.bool.pair ((Ty.int IntKind.i64).pair ((Ty.int IntKind.i64).pair ((Ty.int IntKind.i64).pair (Ty.int IntKind.i64)))))).d
def folE (a : Ag) (l : List Ev) : Int := if agE a = 0 then hisE a l else agE a
def folI (a : Ag) (l : List Ev) : Int := if agE a = 0 then hisI a l else 0
def folV (a : Ag) (l : List Ev) (day : Int) : Ag × Sf := if folE a l = 0 then (a, thn a l day l.length) else fmD
theorem k_follow_loop {a : Ag} {l : List Ev} (ha : agE a = 0) (h40 : ¬ (40 : Int) < l.length) (hw : EvOk l) (day : Int) :
    iterF (fun y : Int × (Ag × Sf) × (Ag × Sf) × Unit => (T_coat_follow_l1 l day y.1 y.2.1 y.2.2.1).run) FUEL (0, (a, sf0), (a, sf0), ()) = some (((decide (firstErr (hsE a l) l.length = 0), if firstErr (hsE a l) l.length = 0 then (a, thn a l day l.length) else fmD), (firstIx (hsE a l) l.length, (firstErr (hsE a l) l.length, ()))), ()) := by
  refine iter_errI (fun i => ((i : Int), (a, flm a l i), (a, thn a l day i), ())) (hsE a l) l.length (by omega) (fun i e => (((decide (e = 0), if e = 0 then (a, thn a l day l.length) else fmD), (i, (e, ()))), ())) ?_ ?_ ?_
  all_goals simp only [T_coat_follow_l1]
  · intro i hi hp hb
    have hc := k_checkEvent (hw i hi)
    have hpo := k_possible a (flm a l i) (gi l (i : Int)).2.2
    have hg : 0 < i → ((i : Int) - 1) = ((i - 1 : Nat) : Int) := by omega
    unfold hsE at hb ⊢
    by_cases c1 : evE (gi l (i : Int)) = 0
    · rw [if_pos c1] at hb ⊢
      by_cases c2 : (gi l (i : Int)).1 = (gi l (0 : Int)).1
      · rw [if_pos c2] at hb ⊢
        have c2 : decide ((gi l (i : Int)).1 = (gi l (0 : Int)).1) = true := decide_eq_true c2
        by_cases c3 : (0 : Int) < i
        · by_cases c4 : (gi l (i : Int)).2.1 < (gi l ((i : Int) - 1)).2.1
          · rw [if_pos ⟨by omega, c4⟩]
            simp (maxSteps := 1000000) (disch := first | omega | assumption) only [r_ret, r_br, decide_eq_true_eq, Bool.not_eq_eq_eq_not, decide_eq_false_iff_not, ite_not, q_true, r_bind, r_iter, q_inB, q_nz, q_app, q_eq, q_bnd, q_str, w64', Option.bind_some, Option.bind_none, List.length_cons, List.length_nil, List.length_append, Nat.zero_add, if_pos, if_neg, decide_true, decide_false, if_true, if_false, Bool.not_true, Bool.not_false, Bool.false_eq_true, Bool.true_eq_false, not_true_eq_false, not_false_eq_true, reduceIte, List.nil_append, hc, c1, c2, c3, c4]
            all_goals rfl
          · have c5 : ¬ (0 < i ∧ (gi l (i : Int)).2.1 < (gi l ((i : Int) - 1)).2.1) := fun h => c4 h.2
            rw [if_neg c5] at hb ⊢
            simp (maxSteps := 1000000) (disch := first | omega | assumption) only [r_ret, r_br, decide_eq_true_eq, Bool.not_eq_eq_eq_not, decide_eq_false_iff_not, ite_not, q_true, r_bind, r_iter, q_inB, q_nz, q_app, q_eq, q_bnd, q_str, w64', Option.bind_some, Option.bind_none, List.length_cons, List.length_nil, List.length_append, Nat.zero_add, if_pos, if_neg, decide_true, decide_false, if_true, if_false, Bool.not_true, Bool.not_false, Bool.false_eq_true, Bool.true_eq_false, not_true_eq_false, not_false_eq_true, reduceIte, List.nil_append, hc, c1, c2, c3, c4, hpo, hb]
            all_goals rfl
        · have c5 : ¬ (0 < i ∧ (gi l (i : Int)).2.1 < (gi l ((i : Int) - 1)).2.1) := by omega
          rw [if_neg c5] at hb ⊢
          simp (maxSteps := 1000000) (disch := first | omega | assumption) only [r_ret, r_br, decide_eq_true_eq, Bool.not_eq_eq_eq_not, decide_eq_false_iff_not, ite_not, q_true, r_bind, r_iter, q_inB, q_nz, q_app, q_eq, q_bnd, q_str, w64', Option.bind_some, Option.bind_none, List.length_cons, List.length_nil, List.length_append, Nat.zero_add, if_pos, if_neg, decide_true, decide_false, if_true, if_false, Bool.not_true, Bool.not_false, Bool.false_eq_true, Bool.true_eq_false, not_true_eq_false, not_false_eq_true, reduceIte, List.nil_append, hc, c1, c2, c3, hpo, hb]
          all_goals rfl
      · rw [if_neg c2] at hb ⊢
        simp (maxSteps := 1000000) (disch := first | omega | assumption) only [r_ret, r_br, decide_eq_true_eq, Bool.not_eq_eq_eq_not, decide_eq_false_iff_not, ite_not, q_true, r_bind, r_iter, q_inB, q_nz, q_app, q_eq, q_bnd, q_str, w64', Option.bind_some, Option.bind_none, List.length_cons, List.length_nil, List.length_append, Nat.zero_add, if_pos, if_neg, decide_true, decide_false, if_true, if_false, Bool.not_true, Bool.not_false, Bool.false_eq_true, Bool.true_eq_false, not_true_eq_false, not_false_eq_true, reduceIte, List.nil_append, hc, c1, c2]
        all_goals rfl
    · rw [if_neg c1] at hb ⊢
      simp (maxSteps := 1000000) (disch := first | omega | assumption) only [r_ret, r_br, decide_eq_true_eq, Bool.not_eq_eq_eq_not, decide_eq_false_iff_not, ite_not, q_true, r_bind, r_iter, q_inB, q_nz, q_app, q_eq, q_bnd, q_str, w64', Option.bind_some, Option.bind_none, List.length_cons, List.length_nil, List.length_append, Nat.zero_add, if_pos, if_neg, decide_true, decide_false, if_true, if_false, Bool.not_true, Bool.not_false, Bool.false_eq_true, Bool.true_eq_false, not_true_eq_false, not_false_eq_true, reduceIte, List.nil_append, hc, c1]
      all_goals rfl
  · intro i hi hp hb
    have hc := k_checkEvent (hw i hi)
    have hpo := k_possible a (flm a l i) (gi l (i : Int)).2.2
    obtain ⟨c1, c2, c3, c4⟩ := hsE_0 hb
    have c2 : decide ((gi l (i : Int)).1 = (gi l (0 : Int)).1) = true := decide_eq_true c2
    have ht := k_take (x := gi l (i : Int)) ha (flm_ok ha i hp) (evE_0 c1).1
    simp only [thn, flm]
    by_cases d : (gi l (i : Int)).2.1 ≤ day
    · by_cases c : (0 : Int) < i
      · have c5 : ¬ (gi l (i : Int)).2.1 < (gi l ((i : Int) - 1)).2.1 := Int.not_lt.2 (c3 (by omega))
        simp (maxSteps := 1000000) (disch := first | omega | assumption) only [r_ret, r_br, decide_eq_true_eq, Bool.not_eq_eq_eq_not, decide_eq_false_iff_not, ite_not, q_true, r_bind, r_iter, q_inB, q_nz, q_app, q_eq, q_bnd, q_str, w64', Option.bind_some, Option.bind_none, List.length_cons, List.length_nil, List.length_append, Nat.zero_add, if_pos, if_neg, decide_true, decide_false, if_true, if_false, Bool.not_true, Bool.not_false, Bool.false_eq_true, Bool.true_eq_false, not_true_eq_false, not_false_eq_true, reduceIte, List.nil_append, hc, c1, c2, c, c5, hpo, c4, ht, d]
        all_goals rfl
      · simp (maxSteps := 1000000) (disch := first | omega | assumption) only [r_ret, r_br, decide_eq_true_eq, Bool.not_eq_eq_eq_not, decide_eq_false_iff_not, ite_not, q_true, r_bind, r_iter, q_inB, q_nz, q_app, q_eq, q_bnd, q_str, w64', Option.bind_some, Option.bind_none, List.length_cons, List.length_nil, List.length_append, Nat.zero_add, if_pos, if_neg, decide_true, decide_false, if_true, if_false, Bool.not_true, Bool.not_false, Bool.false_eq_true, Bool.true_eq_false, not_true_eq_false, not_false_eq_true, reduceIte, List.nil_append, hc, c1, c2, c, hpo, c4, ht, d]
        all_goals rfl
    · by_cases c : (0 : Int) < i
      · have c5 : ¬ (gi l (i : Int)).2.1 < (gi l ((i : Int) - 1)).2.1 := Int.not_lt.2 (c3 (by omega))
        simp (maxSteps := 1000000) (disch := first | omega | assumption) only [r_ret, r_br, decide_eq_true_eq, Bool.not_eq_eq_eq_not, decide_eq_false_iff_not, ite_not, q_true, r_bind, r_iter, q_inB, q_nz, q_app, q_eq, q_bnd, q_str, w64', Option.bind_some, Option.bind_none, List.length_cons, List.length_nil, List.length_append, Nat.zero_add, if_pos, if_neg, decide_true, decide_false, if_true, if_false, Bool.not_true, Bool.not_false, Bool.false_eq_true, Bool.true_eq_false, not_true_eq_false, not_false_eq_true, reduceIte, List.nil_append, hc, c1, c2, c, c5, hpo, c4, ht, d]
        all_goals rfl
      · simp (maxSteps := 1000000) (disch := first | omega | assumption) only [r_ret, r_br, decide_eq_true_eq, Bool.not_eq_eq_eq_not, decide_eq_false_iff_not, ite_not, q_true, r_bind, r_iter, q_inB, q_nz, q_app, q_eq, q_bnd, q_str, w64', Option.bind_some, Option.bind_none, List.length_cons, List.length_nil, List.length_append, Nat.zero_add, if_pos, if_neg, decide_true, decide_false, if_true, if_false, Bool.not_true, Bool.not_false, Bool.false_eq_true, Bool.true_eq_false, not_true_eq_false, not_false_eq_true, reduceIte, List.nil_append, hc, c1, c2, c, hpo, c4, ht, d]
        all_goals rfl
  · intro hp
    simp (maxSteps := 1000000) (disch := first | omega | assumption) only [r_ret, r_br, decide_eq_true_eq, Bool.not_eq_eq_eq_not, decide_eq_false_iff_not, ite_not, q_true, r_bind, r_iter, q_inB, q_nz, q_app, q_eq, q_bnd, q_str, w64', Option.bind_some, Option.bind_none, List.length_cons, List.length_nil, List.length_append, Nat.zero_add, if_pos, if_neg, decide_true, decide_false, if_true, if_false, Bool.not_true, Bool.not_false, Bool.false_eq_true, Bool.true_eq_false, not_true_eq_false, not_false_eq_true, reduceIte, List.nil_append, ]
    all_goals rfl
theorem k_follow {a : Ag} {l : List Ev} (hl : l.length ≤ 1048576) (hw : EvOk l) (day : Int) :
    coat_follow a l day = some (((decide (folE a l = 0), folV a l day), (folI a l, (folE a l, ()))), ()) := by
  simp only [coat_follow, T_coat_follow]
  unfold folV
  by_cases ha : agE a = 0
  · have e1 : folE a l = hisE a l := if_pos ha
    have e2 : folI a l = hisI a l := if_pos ha
    rw [e1, e2]
    unfold hisE hisI
    by_cases h40 : (40 : Int) < l.length
    · simp (maxSteps := 1000000) (disch := first | omega | assumption) only [r_ret, r_br, decide_eq_true_eq, Bool.not_eq_eq_eq_not, decide_eq_false_iff_not, ite_not, q_true, r_bind, r_iter, q_inB, q_nz, q_app, q_eq, q_bnd, q_str, w64', Option.bind_some, Option.bind_none, List.length_cons, List.length_nil, List.length_append, Nat.zero_add, if_pos, if_neg, decide_true, decide_false, if_true, if_false, Bool.not_true, Bool.not_false, Bool.false_eq_true, Bool.true_eq_false, not_true_eq_false, not_false_eq_true, reduceIte, List.nil_append, k_CheckAging, ha, h40]
      all_goals rfl
    · have h := k_follow_loop ha h40 hw day
      simp (maxSteps := 1000000) (disch := first | omega | assumption) only [r_ret, r_br, decide_eq_true_eq, Bool.not_eq_eq_eq_not, decide_eq_false_iff_not, ite_not, q_true, r_bind, r_iter, q_inB, q_nz, q_app, q_eq, q_bnd, q_str, w64', Option.bind_some, Option.bind_none, List.length_cons, List.length_nil, List.length_append, Nat.zero_add, if_pos, if_neg, decide_true, decide_false, if_true, if_false, Bool.not_true, Bool.not_false, Bool.false_eq_true, Bool.true_eq_false, not_true_eq_false, not_false_eq_true, reduceIte, List.nil_append, k_CheckAging, ha, h40]
      exact h
  · have e1 : folE a l = agE a := if_neg ha
    have e2 : folI a l = 0 := if_neg ha
    rw [e1, e2]
    simp (maxSteps := 1000000) (disch := first | omega | assumption) only [r_ret, r_br, decide_eq_true_eq, Bool.not_eq_eq_eq_not, decide_eq_false_iff_not, ite_not, q_true, r_bind, r_iter, q_inB, q_nz, q_app, q_eq, q_bnd, q_str, w64', Option.bind_some, Option.bind_none, List.length_cons, List.length_nil, List.length_append, Nat.zero_add, if_pos, if_neg, decide_true, decide_false, if_true, if_false, Bool.not_true, Bool.not_false, Bool.false_eq_true, Bool.true_eq_false, not_true_eq_false, not_false_eq_true, reduceIte, List.nil_append, k_CheckAging, ha]
    all_goals rfl
theorem k_CheckHistory {a : Ag} {l : List Ev} (hl : l.length ≤ 1048576) (hw : EvOk l) : coat_CheckHistory a l = some ((folI a l, (folE a l, ())), ()) := by
  have h := k_follow (a := a) hl hw 100000
  simp only [coat_CheckHistory, T_coat_CheckHistory]
  by_cases c : folE a l = 0
  · simp (maxSteps := 1000000) (disch := first | omega | assumption) only [r_ret, r_br, decide_eq_true_eq, Bool.not_eq_eq_eq_not, decide_eq_false_iff_not, ite_not, q_true, r_bind, r_iter, q_inB, q_nz, q_app, q_eq, q_bnd, q_str, w64', Option.bind_some, Option.bind_none, List.length_cons, List.length_nil, List.length_append, Nat.zero_add, if_pos, if_neg, decide_true, decide_false, if_true, if_false, Bool.not_true, Bool.not_false, Bool.false_eq_true, Bool.true_eq_false, not_true_eq_false, not_false_eq_true, reduceIte, List.nil_append, h, c]
  · simp (maxSteps := 1000000) (disch := first | omega | assumption) only [r_ret, r_br, decide_eq_true_eq, Bool.not_eq_eq_eq_not, decide_eq_false_iff_not, ite_not, q_true, r_bind, r_iter, q_inB, q_nz, q_app, q_eq, q_bnd, q_str, w64', Option.bind_some, Option.bind_none, List.length_cons, List.length_nil, List.length_append, Nat.zero_add, if_pos, if_neg, decide_true, decide_false, if_true, if_false, Bool.not_true, Bool.not_false, Bool.false_eq_true, Bool.true_eq_false, not_true_eq_false, not_false_eq_true, reduceIte, List.nil_append, h, c]
def sta (w : Int) (l : List Ev) : Nat → Int
  | 0 => -1
  | i + 1 => if (gi l (i : Int)).2.2 = 0 then w else if (gi l (i : Int)).2.2 = 1 then sta w l i - 1 else if (gi l (i : Int)).2.2 = 2 then -1 else sta w l i
theorem sta_bd {w : Int} (hw : 0 ≤ w ∧ w ≤ 100) (l : List Ev) : ∀ i : Nat, -1 - (i : Int) ≤ sta w l i ∧ sta w l i ≤ 100
  | 0 => by simp only [sta]; omega
  | i + 1 => by
    have := sta_bd hw l i
    simp only [sta]
    split
    · omega
    · split
      · omega
      · split <;> omega
theorem sta_congr {w : Int} {l m : List Ev} : ∀ {n : Nat}, (∀ j : Nat, j < n → gi l (j : Int) = gi m (j : Int)) → sta w l n = sta w m n
  | 0, _ => rfl
  | n + 1, h => by rw [sta, sta, sta_congr (fun j hj => h j (by omega)), h n (by omega)]
theorem k_rstate {a : Ag} {l : List Ev} (hl : l.length ≤ 1048576) (hw : 0 ≤ a.2.2.2 ∧ a.2.2.2 ≤ 100) : ref08xstate a l = some ((sta a.2.2.2 l l.length, ()), ()) := by
  simp only [ref08xstate, T_ref08xstate]
  rw [r_iter]
  refine iter_eq (fun i x => x = (sta a.2.2.2 l i, (i : Int), ())) _ l.length (by omega) ?_ rfl
  rintro i x hi rfl
  simp only [T_ref08xstate_l0]
  by_cases hlt : i < l.length
  · left
    have hb := sta_bd hw l i
    refine ⟨(sta a.2.2.2 l (i + 1), (i : Int) + 1, ()), ?_, hlt, rfl⟩
    simp only [sta]
    by_cases c0 : (gi l (i : Int)).2.2 = 0
    · simp (maxSteps := 1000000) (disch := first | omega | assumption) only [r_ret, r_br, decide_eq_true_eq, Bool.not_eq_eq_eq_not, decide_eq_false_iff_not, ite_not, q_true, r_bind, r_iter, q_inB, q_nz, q_app, q_eq, q_bnd, q_str, w64', Option.bind_some, Option.bind_none, List.length_cons, List.length_nil, List.length_append, Nat.zero_add, if_pos, if_neg, decide_true, decide_false, if_true, if_false, Bool.not_true, Bool.not_false, Bool.false_eq_true, Bool.true_eq_false, not_true_eq_false, not_false_eq_true, reduceIte, List.nil_append, c0]
      all_goals rfl
    · by_cases c1 : (gi l (i : Int)).2.2 = 1
      · simp (maxSteps := 1000000) (disch := first | omega | assumption) only [r_ret, r_br, decide_eq_true_eq, Bool.not_eq_eq_eq_not, decide_eq_false_iff_not, ite_not, q_true, r_bind, r_iter, q_inB, q_nz, q_app, q_eq, q_bnd, q_str, w64', Option.bind_some, Option.bind_none, List.length_cons, List.length_nil, List.length_append, Nat.zero_add, if_pos, if_neg, decide_true, decide_false, if_true, if_false, Bool.not_true, Bool.not_false, Bool.false_eq_true, Bool.true_eq_false, not_true_eq_false, not_false_eq_true, reduceIte, List.nil_append, c0, c1]
        all_goals rfl
      · by_cases c2 : (gi l (i : Int)).2.2 = 2
        · simp (maxSteps := 1000000) (disch := first | omega | assumption) only [r_ret, r_br, decide_eq_true_eq, Bool.not_eq_eq_eq_not, decide_eq_false_iff_not, ite_not, q_true, r_bind, r_iter, q_inB, q_nz, q_app, q_eq, q_bnd, q_str, w64', Option.bind_some, Option.bind_none, List.length_cons, List.length_nil, List.length_append, Nat.zero_add, if_pos, if_neg, decide_true, decide_false, if_true, if_false, Bool.not_true, Bool.not_false, Bool.false_eq_true, Bool.true_eq_false, not_true_eq_false, not_false_eq_true, reduceIte, List.nil_append, c0, c1, c2]
          all_goals rfl
        · simp (maxSteps := 1000000) (disch := first | omega | assumption) only [r_ret, r_br, decide_eq_true_eq, Bool.not_eq_eq_eq_not, decide_eq_false_iff_not, ite_not, q_true, r_bind, r_iter, q_inB, q_nz, q_app, q_eq, q_bnd, q_str, w64', Option.bind_some, Option.bind_none, List.length_cons, List.length_nil, List.length_append, Nat.zero_add, if_pos, if_neg, decide_true, decide_false, if_true, if_false, Bool.not_true, Bool.not_false, Bool.false_eq_true, Bool.true_eq_false, not_true_eq_false, not_false_eq_true, reduceIte, List.nil_append, c0, c1, c2]
          all_goals rfl
  · right
    have : i = l.length := by omega
    subst this
    simp (maxSteps := 1000000) (disch := first | omega | assumption) only [r_ret, r_br, decide_eq_true_eq, Bool.not_eq_eq_eq_not, decide_eq_false_iff_not, ite_not, q_true, r_bind, r_iter, q_inB, q_nz, q_app, q_eq, q_bnd, q_str, w64', Option.bind_some, Option.bind_none, List.length_cons, List.length_nil, List.length_append, Nat.zero_add, if_pos, if_neg, decide_true, decide_false, if_true, if_false, Bool.not_true, Bool.not_false, Bool.false_eq_true, Bool.true_eq_false, not_true_eq_false, not_false_eq_true, reduceIte, List.nil_append, ]
/-- What both sides know of a mirror. -/
theorem sta_flm {a : Ag} {l : List Ev} (ha : agE a = 0) : ∀ {i : Nat}, (∀ j, j < i → hsE a l j = 0) → ((flm a l i).1 = true ∧ sta a.2.2.2 l i = a.2.2.2 - (flm a l i).2.1) ∨ ((flm a l i).1 = false ∧ sta a.2.2.2 l i = -1)
  | 0, _ => .inr ⟨rfl, rfl⟩
  | i + 1, hp => by
    have ih := sta_flm ha (i := i) (fun j hj => hp j (by omega))
    obtain ⟨h1, h2, h3, h4⟩ := hsE_0 (hp i (by omega))
    obtain ⟨e1, e2⟩ := evE_0 h1
    obtain ⟨p1, p2⟩ := posE_0 h4
    simp only [flm, stp, sta]
    rcases e2 with e | e | e
    · left; rw [if_pos e, if_pos e]; simp
    · rw [if_neg (by omega), if_pos e, if_neg (by omega), if_pos e]
      rw [e, show decide ((1 : Int) = 0) = false from rfl] at p1
      rcases ih with ih | ih
      · left; exact ⟨ih.1, by rw [ih.2]; simp only; omega⟩
      · exact absurd ih.1 p1
    · right
      rw [if_neg (by omega), if_neg (by omega), if_neg (by omega), if_neg (by omega), if_pos e]
      exact ⟨rfl, rfl⟩
theorem posE_ref {a : Ag} {l : List Ev} (ha : agE a = 0) {i : Nat} (hp : ∀ j, j < i → hsE a l j = 0) {kind : Int} :
    posE a.2.2.2 (flm a l i) kind = if (decide (kind = 0) != decide (sta a.2.2.2 l i < 0)) = true then 24 else if kind = 1 ∧ sta a.2.2.2 l i = 0 then 16 else 0 := by
  obtain ⟨⟨w1, w2⟩, -, -⟩ := flm_ok ha i hp
  unfold posE
  rcases sta_flm ha hp with ⟨h1, h2⟩ | ⟨h1, h2⟩
  · have e : decide (sta a.2.2.2 l i < 0) = false := decide_eq_false (by omega)
    rw [h1, e]
    by_cases c : kind = 0
    · rw [decide_eq_true c]; rfl
    · rw [decide_eq_false c]
      show (if kind = 1 ∧ a.2.2.2 ≤ (flm a l i).2.1 then (16 : Int) else 0) = if kind = 1 ∧ sta a.2.2.2 l i = 0 then 16 else 0
      by_cases c2 : kind = 1 ∧ a.2.2.2 ≤ (flm a l i).2.1
      · rw [if_pos c2, if_pos ⟨c2.1, by omega⟩]
      · rw [if_neg c2, if_neg (fun h => c2 ⟨h.1, by omega⟩)]
  · have e : decide (sta a.2.2.2 l i < 0) = true := decide_eq_true (by omega)
    rw [h1, e]
    by_cases c : kind = 0
    · rw [decide_eq_true c]
      show (if kind = 1 ∧ a.2.2.2 ≤ (flm a l i).2.1 then (16 : Int) else 0) = if kind = 1 ∧ sta a.2.2.2 l i = 0 then 16 else 0
      rw [if_neg (by omega), if_neg (by omega)]
    · rw [decide_eq_false c]; rfl
theorem k_rCheckHistory {a : Ag} {l : List Ev} (ha : agE a = 0) (hl : l.length ≤ 1048576) (hw : EvOk l) : ref08xCheckHistory a l = some ((hisI a l, (hisE a l, ())), ()) := by
  obtain ⟨g1, g2, g3, g4⟩ := agE_0 ha
  simp only [ref08xCheckHistory, T_ref08xCheckHistory]
  unfold hisE hisI
  by_cases h40 : (40 : Int) < l.length
  · simp (maxSteps := 1000000) (disch := first | omega | assumption) only [r_ret, r_br, decide_eq_true_eq, Bool.not_eq_eq_eq_not, decide_eq_false_iff_not, ite_not, q_true, r_bind, r_iter, q_inB, q_nz, q_app, q_eq, q_bnd, q_str, w64', Option.bind_some, Option.bind_none, List.length_cons, List.length_nil, List.length_append, Nat.zero_add, if_pos, if_neg, decide_true, decide_false, if_true, if_false, Bool.not_true, Bool.not_false, Bool.false_eq_true, Bool.true_eq_false, not_true_eq_false, not_false_eq_true, reduceIte, List.nil_append, h40]
  simp (maxSteps := 1000000) (disch := first | omega | assumption) only [r_ret, r_br, decide_eq_true_eq, Bool.not_eq_eq_eq_not, decide_eq_false_iff_not, ite_not, q_true, r_bind, r_iter, q_inB, q_nz, q_app, q_eq, q_bnd, q_str, w64', Option.bind_some, Option.bind_none, List.length_cons, List.length_nil, List.length_append, Nat.zero_add, if_pos, if_neg, decide_true, decide_false, if_true, if_false, Bool.not_true, Bool.not_false, Bool.false_eq_true, Bool.true_eq_false, not_true_eq_false, not_false_eq_true, reduceIte, List.nil_append, h40]
  refine iter_errI (fun i => ((i : Int), ())) (hsE a l) l.length (by omega) (fun i e => ((i, (e, ())), ())) ?_ ?_ ?_
  all_goals simp only [T_ref08xCheckHistory_l0]
  · intro i hi hp hb
    have hc := k_rCheckEvent (hw i hi)
    have hs := k_rstate (a := a) (l := part l 0 (i : Int)) (by rw [part_len (by omega)]; omega) g4
    rw [part_len (by omega), sta_congr (m := l) (fun j hj => gi_part hj)] at hs
    unfold hsE at hb ⊢
    by_cases c1 : evE (gi l (i : Int)) = 0
    · rw [if_pos c1] at hb ⊢
      by_cases c2 : (gi l (i : Int)).1 = (gi l (0 : Int)).1
      · rw [if_pos c2] at hb ⊢
        have c2 : decide ((gi l (i : Int)).1 = (gi l (0 : Int)).1) = true := decide_eq_true c2
        by_cases c3 : (0 : Int) < i
        · by_cases c4 : (gi l (i : Int)).2.1 < (gi l ((i : Int) - 1)).2.1
          · rw [if_pos ⟨by omega, c4⟩]
            simp (maxSteps := 1000000) (disch := first | omega | assumption) only [r_ret, r_br, decide_eq_true_eq, Bool.not_eq_eq_eq_not, decide_eq_false_iff_not, ite_not, q_true, r_bind, r_iter, q_inB, q_nz, q_app, q_eq, q_bnd, q_str, w64', Option.bind_some, Option.bind_none, List.length_cons, List.length_nil, List.length_append, Nat.zero_add, if_pos, if_neg, decide_true, decide_false, if_true, if_false, Bool.not_true, Bool.not_false, Bool.false_eq_true, Bool.true_eq_false, not_true_eq_false, not_false_eq_true, reduceIte, List.nil_append, hc, c1, c2, c3, c4]
            all_goals rfl
          · have c5 : ¬ (0 < i ∧ (gi l (i : Int)).2.1 < (gi l ((i : Int) - 1)).2.1) := fun h => c4 h.2
            rw [if_neg c5, posE_ref ha hp] at hb ⊢
            by_cases c6 : (decide ((gi l (i : Int)).2.2 = 0) != decide (sta a.2.2.2 l i < 0)) = true
            · simp (maxSteps := 1000000) (disch := first | omega | assumption) only [r_ret, r_br, decide_eq_true_eq, Bool.not_eq_eq_eq_not, decide_eq_false_iff_not, ite_not, q_true, r_bind, r_iter, q_inB, q_nz, q_app, q_eq, q_bnd, q_str, w64', Option.bind_some, Option.bind_none, List.length_cons, List.length_nil, List.length_append, Nat.zero_add, if_pos, if_neg, decide_true, decide_false, if_true, if_false, Bool.not_true, Bool.not_false, Bool.false_eq_true, Bool.true_eq_false, not_true_eq_false, not_false_eq_true, reduceIte, List.nil_append, hc, c1, c2, c3, c4, hs, c6]
              all_goals rfl
            · rw [if_neg c6] at hb ⊢
              by_cases c7 : (gi l (i : Int)).2.2 = 1 ∧ sta a.2.2.2 l i = 0
              · rw [if_pos c7]
                have c8 : decide ((gi l (i : Int)).2.2 = 1) = true := decide_eq_true c7.1
                have c9 : decide (sta a.2.2.2 l i = 0) = true := decide_eq_true c7.2
                simp (maxSteps := 1000000) (disch := first | omega | assumption) only [r_ret, r_br, decide_eq_true_eq, Bool.not_eq_eq_eq_not, decide_eq_false_iff_not, ite_not, q_true, r_bind, r_iter, q_inB, q_nz, q_app, q_eq, q_bnd, q_str, w64', Option.bind_some, Option.bind_none, List.length_cons, List.length_nil, List.length_append, Nat.zero_add, if_pos, if_neg, decide_true, decide_false, if_true, if_false, Bool.not_true, Bool.not_false, Bool.false_eq_true, Bool.true_eq_false, not_true_eq_false, not_false_eq_true, reduceIte, List.nil_append, hc, c1, c2, c3, c4, hs, c6, c8, c9]
                all_goals (first | rfl | (rw [if_pos c7.2]))
              · exact absurd (if_neg c7) hb
        · have c5 : ¬ (0 < i ∧ (gi l (i : Int)).2.1 < (gi l ((i : Int) - 1)).2.1) := by omega
          rw [if_neg c5, posE_ref ha hp] at hb ⊢
          by_cases c6 : (decide ((gi l (i : Int)).2.2 = 0) != decide (sta a.2.2.2 l i < 0)) = true
          · simp (maxSteps := 1000000) (disch := first | omega | assumption) only [r_ret, r_br, decide_eq_true_eq, Bool.not_eq_eq_eq_not, decide_eq_false_iff_not, ite_not, q_true, r_bind, r_iter, q_inB, q_nz, q_app, q_eq, q_bnd, q_str, w64', Option.bind_some, Option.bind_none, List.length_cons, List.length_nil, List.length_append, Nat.zero_add, if_pos, if_neg, decide_true, decide_false, if_true, if_false, Bool.not_true, Bool.not_false, Bool.false_eq_true, Bool.true_eq_false, not_true_eq_false, not_false_eq_true, reduceIte, List.nil_append, hc, c1, c2, c3, hs, c6]
            all_goals rfl
          · rw [if_neg c6] at hb ⊢
            by_cases c7 : (gi l (i : Int)).2.2 = 1 ∧ sta a.2.2.2 l i = 0
            · rw [if_pos c7]
              have c8 : decide ((gi l (i : Int)).2.2 = 1) = true := decide_eq_true c7.1
              have c9 : decide (sta a.2.2.2 l i = 0) = true := decide_eq_true c7.2
              simp (maxSteps := 1000000) (disch := first | omega | assumption) only [r_ret, r_br, decide_eq_true_eq, Bool.not_eq_eq_eq_not, decide_eq_false_iff_not, ite_not, q_true, r_bind, r_iter, q_inB, q_nz, q_app, q_eq, q_bnd, q_str, w64', Option.bind_some, Option.bind_none, List.length_cons, List.length_nil, List.length_append, Nat.zero_add, if_pos, if_neg, decide_true, decide_false, if_true, if_false, Bool.not_true, Bool.not_false, Bool.false_eq_true, Bool.true_eq_false, not_true_eq_false, not_false_eq_true, reduceIte, List.nil_append, hc, c1, c2, c3, hs, c6, c8, c9]
              all_goals (first | rfl | (rw [if_pos c7.2]))
            · exact absurd (if_neg c7) hb
      · rw [if_neg c2] at hb ⊢
        simp (maxSteps := 1000000) (disch := first | omega | assumption) only [r_ret, r_br, decide_eq_true_eq, Bool.not_eq_eq_eq_not, decide_eq_false_iff_not, ite_not, q_true, r_bind, r_iter, q_inB, q_nz, q_app, q_eq, q_bnd, q_str, w64', Option.bind_some, Option.bind_none, List.length_cons, List.length_nil, List.length_append, Nat.zero_add, if_pos, if_neg, decide_true, decide_false, if_true, if_false, Bool.not_true, Bool.not_false, Bool.false_eq_true, Bool.true_eq_false, not_true_eq_false, not_false_eq_true, reduceIte, List.nil_append, hc, c1, c2]
        all_goals rfl
    · rw [if_neg c1] at hb ⊢
      simp (maxSteps := 1000000) (disch := first | omega | assumption) only [r_ret, r_br, decide_eq_true_eq, Bool.not_eq_eq_eq_not, decide_eq_false_iff_not, ite_not, q_true, r_bind, r_iter, q_inB, q_nz, q_app, q_eq, q_bnd, q_str, w64', Option.bind_some, Option.bind_none, List.length_cons, List.length_nil, List.length_append, Nat.zero_add, if_pos, if_neg, decide_true, decide_false, if_true, if_false, Bool.not_true, Bool.not_false, Bool.false_eq_true, Bool.true_eq_false, not_true_eq_false, not_false_eq_true, reduceIte, List.nil_append, hc, c1]
      all_goals rfl
  · intro i hi hp hb
    have hc := k_rCheckEvent (hw i hi)
    have hs := k_rstate (a := a) (l := part l 0 (i : Int)) (by rw [part_len (by omega)]; omega) g4
    rw [part_len (by omega), sta_congr (m := l) (fun j hj => gi_part hj)] at hs
    obtain ⟨c1, c2, c3, c4⟩ := hsE_0 hb
    have c2 : decide ((gi l (i : Int)).1 = (gi l (0 : Int)).1) = true := decide_eq_true c2
    rw [posE_ref ha hp] at c4
    have c6 : ¬ (decide ((gi l (i : Int)).2.2 = 0) != decide (sta a.2.2.2 l i < 0)) = true := fun h => by rw [if_pos h] at c4; cases c4
    rw [if_neg c6] at c4
    have c7 : ¬ ((gi l (i : Int)).2.2 = 1 ∧ sta a.2.2.2 l i = 0) := fun h => by rw [if_pos h] at c4; cases c4
    by_cases c : (0 : Int) < i
    · have c5 : ¬ (gi l (i : Int)).2.1 < (gi l ((i : Int) - 1)).2.1 := Int.not_lt.2 (c3 (by omega))
      by_cases k1 : (gi l (i : Int)).2.2 = 1
      · have k2 : ¬ sta a.2.2.2 l i = 0 := fun h => c7 ⟨k1, h⟩
        have k1 : decide ((gi l (i : Int)).2.2 = 1) = true := decide_eq_true k1
        simp (maxSteps := 1000000) (disch := first | omega | assumption) only [r_ret, r_br, decide_eq_true_eq, Bool.not_eq_eq_eq_not, decide_eq_false_iff_not, ite_not, q_true, r_bind, r_iter, q_inB, q_nz, q_app, q_eq, q_bnd, q_str, w64', Option.bind_some, Option.bind_none, List.length_cons, List.length_nil, List.length_append, Nat.zero_add, if_pos, if_neg, decide_true, decide_false, if_true, if_false, Bool.not_true, Bool.not_false, Bool.false_eq_true, Bool.true_eq_false, not_true_eq_false, not_false_eq_true, reduceIte, List.nil_append, hc, c1, c2, c, c5, hs, c6, k1, k2]
        all_goals rfl
      · simp (maxSteps := 1000000) (disch := first | omega | assumption) only [r_ret, r_br, decide_eq_true_eq, Bool.not_eq_eq_eq_not, decide_eq_false_iff_not, ite_not, q_true, r_bind, r_iter, q_inB, q_nz, q_app, q_eq, q_bnd, q_str, w64', Option.bind_some, Option.bind_none, List.length_cons, List.length_nil, List.length_append, Nat.zero_add, if_pos, if_neg, decide_true, decide_false, if_true, if_false, Bool.not_true, Bool.not_false, Bool.false_eq_true, Bool.true_eq_false, not_true_eq_false, not_false_eq_true, reduceIte, List.nil_append, hc, c1, c2, c, c5, hs, c6, k1]
        all_goals rfl
    · by_cases k1 : (gi l (i : Int)).2.2 = 1
      · have k2 : ¬ sta a.2.2.2 l i = 0 := fun h => c7 ⟨k1, h⟩
        have k1 : decide ((gi l (i : Int)).2.2 = 1) = true := decide_eq_true k1
        simp (maxSteps := 1000000) (disch := first | omega | assumption) only [r_ret, r_br, decide_eq_true_eq, Bool.not_eq_eq_eq_not, decide_eq_false_iff_not, ite_not, q_true, r_bind, r_iter, q_inB, q_nz, q_app, q_eq, q_bnd, q_str, w64', Option.bind_some, Option.bind_none, List.length_cons, List.length_nil, List.length_append, Nat.zero_add, if_pos, if_neg, decide_true, decide_false, if_true, if_false, Bool.not_true, Bool.not_false, Bool.false_eq_true, Bool.true_eq_false, not_true_eq_false, not_false_eq_true, reduceIte, List.nil_append, hc, c1, c2, c, hs, c6, k1, k2]
        all_goals rfl
      · simp (maxSteps := 1000000) (disch := first | omega | assumption) only [r_ret, r_br, decide_eq_true_eq, Bool.not_eq_eq_eq_not, decide_eq_false_iff_not, ite_not, q_true, r_bind, r_iter, q_inB, q_nz, q_app, q_eq, q_bnd, q_str, w64', Option.bind_some, Option.bind_none, List.length_cons, List.length_nil, List.length_append, Nat.zero_add, if_pos, if_neg, decide_true, decide_false, if_true, if_false, Bool.not_true, Bool.not_false, Bool.false_eq_true, Bool.true_eq_false, not_true_eq_false, not_false_eq_true, reduceIte, List.nil_append, hc, c1, c2, c, hs, c6, k1]
        all_goals rfl
  · intro hp
    simp (maxSteps := 1000000) (disch := first | omega | assumption) only [r_ret, r_br, decide_eq_true_eq, Bool.not_eq_eq_eq_not, decide_eq_false_iff_not, ite_not, q_true, r_bind, r_iter, q_inB, q_nz, q_app, q_eq, q_bnd, q_str, w64', Option.bind_some, Option.bind_none, List.length_cons, List.length_nil, List.length_append, Nat.zero_add, if_pos, if_neg, decide_true, decide_false, if_true, if_false, Bool.not_true, Bool.not_false, Bool.false_eq_true, Bool.true_eq_false, not_true_eq_false, not_false_eq_true, reduceIte, List.nil_append, ]
theorem k_events {l : List Ev} (h : l.length ≤ 1048576) : law08xevents l = some ((l, ()), ()) := by
  simp only [law08xevents, T_law08xevents]
  simp (maxSteps := 1000000) (disch := first | omega | assumption) only [r_ret, r_br, decide_eq_true_eq, Bool.not_eq_eq_eq_not, decide_eq_false_iff_not, ite_not, q_true, r_bind, r_iter, q_inB, q_nz, q_app, q_eq, q_bnd, q_str, w64', Option.bind_some, Option.bind_none, List.length_cons, List.length_nil, List.length_append, Nat.zero_add, if_pos, if_neg, decide_true, decide_false, if_true, if_false, Bool.not_true, Bool.not_false, Bool.false_eq_true, Bool.true_eq_false, not_true_eq_false, not_false_eq_true, reduceIte, List.nil_append, ]
theorem k_Past_l0 {l : List Ev} (h : l.length ≤ 1048576) : ∃ b : Bool, iterF (fun y : Int × Unit => (T_law08xPast_l0 l y.1).run) FUEL (0, ()) = some ((b, ()), ()) := by
  obtain ⟨r, h1, b, h2⟩ := iter_post (b := fun y : Int × Unit => (T_law08xPast_l0 l y.1).run) (fun i x => x = ((i : Int), ())) (fun r => ∃ b : Bool, r = ((b, ()), ())) l.length (by omega) (by
    rintro i x hi rfl
    simp only [T_law08xPast_l0]
    by_cases hlt : i < l.length
    · by_cases c : (20 : Int) < (gi l (i : Int)).1.length
      · right; exact ⟨_, by simp (maxSteps := 1000000) (disch := first | omega | assumption) only [r_ret, r_br, decide_eq_true_eq, Bool.not_eq_eq_eq_not, decide_eq_false_iff_not, ite_not, q_true, r_bind, r_iter, q_inB, q_nz, q_app, q_eq, q_bnd, q_str, w64', Option.bind_some, Option.bind_none, List.length_cons, List.length_nil, List.length_append, Nat.zero_add, if_pos, if_neg, decide_true, decide_false, if_true, if_false, Bool.not_true, Bool.not_false, Bool.false_eq_true, Bool.true_eq_false, not_true_eq_false, not_false_eq_true, reduceIte, List.nil_append, c] <;> rfl, _, rfl⟩
      · left; exact ⟨_, by simp (maxSteps := 1000000) (disch := first | omega | assumption) only [r_ret, r_br, decide_eq_true_eq, Bool.not_eq_eq_eq_not, decide_eq_false_iff_not, ite_not, q_true, r_bind, r_iter, q_inB, q_nz, q_app, q_eq, q_bnd, q_str, w64', Option.bind_some, Option.bind_none, List.length_cons, List.length_nil, List.length_append, Nat.zero_add, if_pos, if_neg, decide_true, decide_false, if_true, if_false, Bool.not_true, Bool.not_false, Bool.false_eq_true, Bool.true_eq_false, not_true_eq_false, not_false_eq_true, reduceIte, List.nil_append, c] <;> rfl, hlt, rfl⟩
    · right; exact ⟨_, by simp (maxSteps := 1000000) (disch := first | omega | assumption) only [r_ret, r_br, decide_eq_true_eq, Bool.not_eq_eq_eq_not, decide_eq_false_iff_not, ite_not, q_true, r_bind, r_iter, q_inB, q_nz, q_app, q_eq, q_bnd, q_str, w64', Option.bind_some, Option.bind_none, List.length_cons, List.length_nil, List.length_append, Nat.zero_add, if_pos, if_neg, decide_true, decide_false, if_true, if_false, Bool.not_true, Bool.not_false, Bool.false_eq_true, Bool.true_eq_false, not_true_eq_false, not_false_eq_true, reduceIte, List.nil_append, ] <;> rfl, _, rfl⟩) rfl
  exact ⟨b, by rw [← h2]; exact h1⟩
theorem k_Past {l : List Ev} (h : l.length ≤ 1048576) : ∃ b : Bool, law08xPast l = some ((b, ()), ()) := by
  obtain ⟨b, hb⟩ := k_Past_l0 h
  simp only [law08xPast, T_law08xPast]
  by_cases c1 : (10 : Int) < l.length
  · by_cases c2 : (l.length : Int) ≤ 40
    · exact ⟨false, by simp (maxSteps := 1000000) (disch := first | omega | assumption) only [r_ret, r_br, decide_eq_true_eq, Bool.not_eq_eq_eq_not, decide_eq_false_iff_not, ite_not, q_true, r_bind, r_iter, q_inB, q_nz, q_app, q_eq, q_bnd, q_str, w64', Option.bind_some, Option.bind_none, List.length_cons, List.length_nil, List.length_append, Nat.zero_add, if_pos, if_neg, decide_true, decide_false, if_true, if_false, Bool.not_true, Bool.not_false, Bool.false_eq_true, Bool.true_eq_false, not_true_eq_false, not_false_eq_true, reduceIte, List.nil_append, c1, c2]⟩
    · by_cases c3 : (43 : Int) < l.length
      · exact ⟨false, by simp (maxSteps := 1000000) (disch := first | omega | assumption) only [r_ret, r_br, decide_eq_true_eq, Bool.not_eq_eq_eq_not, decide_eq_false_iff_not, ite_not, q_true, r_bind, r_iter, q_inB, q_nz, q_app, q_eq, q_bnd, q_str, w64', Option.bind_some, Option.bind_none, List.length_cons, List.length_nil, List.length_append, Nat.zero_add, if_pos, if_neg, decide_true, decide_false, if_true, if_false, Bool.not_true, Bool.not_false, Bool.false_eq_true, Bool.true_eq_false, not_true_eq_false, not_false_eq_true, reduceIte, List.nil_append, c1, c2, c3]⟩
      · exact ⟨b, by simp (maxSteps := 1000000) (disch := first | omega | assumption) only [r_ret, r_br, decide_eq_true_eq, Bool.not_eq_eq_eq_not, decide_eq_false_iff_not, ite_not, q_true, r_bind, r_iter, q_inB, q_nz, q_app, q_eq, q_bnd, q_str, w64', Option.bind_some, Option.bind_none, List.length_cons, List.length_nil, List.length_append, Nat.zero_add, if_pos, if_neg, decide_true, decide_false, if_true, if_false, Bool.not_true, Bool.not_false, Bool.false_eq_true, Bool.true_eq_false, not_true_eq_false, not_false_eq_true, reduceIte, List.nil_append, c1, c2, c3, hb]⟩
  · exact ⟨b, by simp (maxSteps := 1000000) (disch := first | omega | assumption) only [r_ret, r_br, decide_eq_true_eq, Bool.not_eq_eq_eq_not, decide_eq_false_iff_not, ite_not, q_true, r_bind, r_iter, q_inB, q_nz, q_app, q_eq, q_bnd, q_str, w64', Option.bind_some, Option.bind_none, List.length_cons, List.length_nil, List.length_append, Nat.zero_add, if_pos, if_neg, decide_true, decide_false, if_true, if_false, Bool.not_true, Bool.not_false, Bool.false_eq_true, Bool.true_eq_false, not_true_eq_false, not_false_eq_true, reduceIte, List.nil_append, c1, hb]⟩
theorem flm_congr {a : Ag} {l m : List Ev} : ∀ {n : Nat}, (∀ j : Nat, j < n → gi l (j : Int) = gi m (j : Int)) → flm a l n = flm a m n
  | 0, _ => rfl
  | n + 1, h => by rw [flm, flm, flm_congr (fun j hj => h j (by omega)), h n (by omega)]
theorem hsE_congr {a : Ag} {l m : List Ev} {n : Nat} (h : ∀ j : Nat, j < n → gi l (j : Int) = gi m (j : Int)) {i : Nat} (hi : i < n) : hsE a l i = hsE a m i := by
  unfold hsE
  have h0 := h 0 (by omega)
  rw [show (((0 : Nat) : Nat) : Int) = 0 by omega] at h0
  rw [h i hi, h0, flm_congr (m := m) (fun j hj => h j (by omega))]
  by_cases c : 0 < i
  · have := h (i - 1) (by omega)
    rw [show ((i - 1 : Nat) : Int) = (i : Int) - 1 by omega] at this
    rw [this]
  · have e : i = 0 := by omega
    subst e
    simp
theorem hisE_inv {a : Ag} {l : List Ev} (h : hisE a l = 0) : l.length ≤ 40 ∧ ∀ j : Nat, j < l.length → hsE a l j = 0 := by
  unfold hisE at h
  split at h
  · cases h
  · exact ⟨by omega, firstErr_eq0 h⟩
theorem evs_in {l : List Ev} (b : bulkT (.list (.pair .str (.pair (.int .i64) (.int .i64)))) l ≤ 1048576) : l.length ≤ 1048576 ∧ EvOk l := mats_in b
/-- How many events lie behind the last one up to a day. -/
def cnt (l : List Ev) (day : Int) : Nat → Nat
  | 0 => 0
  | i + 1 => if (gi l (i : Int)).2.1 ≤ day then i + 1 else cnt l day i
theorem cnt_le (l : List Ev) (day : Int) : ∀ n, cnt l day n ≤ n
  | 0 => Nat.le_refl _
  | n + 1 => by
    have := cnt_le l day n
    rw [cnt]; split <;> omega
theorem thn_cnt (a : Ag) (l : List Ev) (day : Int) : ∀ n, thn a l day n = flm a l (cnt l day n)
  | 0 => rfl
  | n + 1 => by rw [thn, cnt, thn_cnt a l day n]; split <;> rfl
theorem days_mono {a : Ag} {l : List Ev} {n : Nat} (h : ∀ j, j < n → hsE a l j = 0) : ∀ {j i : Nat}, i ≤ j → j < n → (gi l (i : Int)).2.1 ≤ (gi l (j : Int)).2.1
  | 0, i, h1, h2 => by
    have : i = 0 := by omega
    subst this; exact Int.le_refl _
  | j + 1, i, h1, h2 => by
    by_cases e : i = j + 1
    · subst e; exact Int.le_refl _
    · have q := (hsE_0 (h (j + 1) h2)).2.2.1 (by omega)
      rw [show ((j + 1 : Nat) : Int) - 1 = (j : Int) by omega] at q
      exact Int.le_trans (days_mono h (j := j) (i := i) (by omega) (by omega)) q
theorem cnt_all {l : List Ev} {day : Int} : ∀ {n : Nat}, (∀ j : Nat, j < n → (gi l (j : Int)).2.1 ≤ day) → cnt l day n = n
  | 0, _ => rfl
  | n + 1, h => by rw [cnt, if_pos (h n (by omega))]
theorem cnt_stop {l : List Ev} {day : Int} {i : Nat} (h : ∀ j : Nat, j < i → (gi l (j : Int)).2.1 ≤ day) : ∀ {n : Nat}, i ≤ n → (∀ j : Nat, i ≤ j → j < n → day < (gi l (j : Int)).2.1) → cnt l day n = i
  | 0, hi, _ => by simp only [cnt]; omega
  | n + 1, hi, h2 => by
    by_cases e : i = n + 1
    · subst e; exact cnt_all h
    · have := h2 n (by omega) (by omega)
      rw [cnt, if_neg (by omega)]
      exact cnt_stop h (by omega) (fun j h3 h4 => h2 j h3 (by omega))
theorem thn_ok {a : Ag} {l : List Ev} (ha : agE a = 0) {n : Nat} (hp : ∀ j, j < n → hsE a l j = 0) (day : Int) : SfOk a (thn a l day n) := by
  rw [thn_cnt]
  have := cnt_le l day n
  exact flm_ok ha _ (fun j hj => hp j (by omega))
theorem folE_inv {a : Ag} {l : List Ev} (h : folE a l = 0) : agE a = 0 ∧ hisE a l = 0 ∧ l.length ≤ 40 ∧ ∀ j : Nat, j < l.length → hsE a l j = 0 := by
  unfold folE at h
  split at h
  · exact ⟨‹_›, h, hisE_inv h⟩
  · contradiction
def rdE (a : Ag) (l : List Ev) (day : Int) : Int := if folE a l = 0 then (if 0 ≤ day ∧ day ≤ 100000 then 0 else 2) else folE a l
def rdV (a : Ag) (l : List Ev) (day : Int) : Ag × Sf := if rdE a l day = 0 then (a, thn a l day l.length) else fmD
theorem k_read {a : Ag} {l : List Ev} (hl : l.length ≤ 1048576) (hw : EvOk l) (day : Int) : coat_read a l day = some (((decide (rdE a l day = 0), rdV a l day), (rdE a l day, ())), ()) := by
  have h := k_follow (a := a) hl hw day
  simp only [coat_read, T_coat_read]
  by_cases c : folE a l = 0
  · have e1 : folV a l day = (a, thn a l day l.length) := if_pos c
    rw [c, e1] at h
    by_cases d : 0 ≤ day ∧ day ≤ 100000
    · have e2 : rdE a l day = 0 := by unfold rdE; rw [if_pos c, if_pos d]
      have e3 : rdV a l day = (a, thn a l day l.length) := if_pos e2
      rw [e2, e3]
      simp (maxSteps := 1000000) (disch := first | omega | assumption) only [r_ret, r_br, decide_eq_true_eq, Bool.not_eq_eq_eq_not, decide_eq_false_iff_not, ite_not, q_true, r_bind, r_iter, q_inB, q_nz, q_app, q_eq, q_bnd, q_str, w64', Option.bind_some, Option.bind_none, List.length_cons, List.length_nil, List.length_append, Nat.zero_add, if_pos, if_neg, decide_true, decide_false, if_true, if_false, Bool.not_true, Bool.not_false, Bool.false_eq_true, Bool.true_eq_false, not_true_eq_false, not_false_eq_true, reduceIte, List.nil_append, h, k_isDay, d, and_self]
      all_goals rfl
    · have e2 : rdE a l day = 2 := by unfold rdE; rw [if_pos c, if_neg d]
      have e3 : rdV a l day = fmD := if_neg (by rw [e2]; decide)
      rw [e2, e3]
      simp (maxSteps := 1000000) (disch := first | omega | assumption) only [r_ret, r_br, decide_eq_true_eq, Bool.not_eq_eq_eq_not, decide_eq_false_iff_not, ite_not, q_true, r_bind, r_iter, q_inB, q_nz, q_app, q_eq, q_bnd, q_str, w64', Option.bind_some, Option.bind_none, List.length_cons, List.length_nil, List.length_append, Nat.zero_add, if_pos, if_neg, decide_true, decide_false, if_true, if_false, Bool.not_true, Bool.not_false, Bool.false_eq_true, Bool.true_eq_false, not_true_eq_false, not_false_eq_true, reduceIte, List.nil_append, h, k_isDay, d]
      all_goals rfl
  · have e1 : folV a l day = fmD := if_neg c
    have e2 : rdE a l day = folE a l := if_neg c
    have e3 : rdV a l day = fmD := if_neg (by rw [e2]; exact c)
    rw [e1] at h
    rw [e2, e3]
    simp (maxSteps := 1000000) (disch := first | omega | assumption) only [r_ret, r_br, decide_eq_true_eq, Bool.not_eq_eq_eq_not, decide_eq_false_iff_not, ite_not, q_true, r_bind, r_iter, q_inB, q_nz, q_app, q_eq, q_bnd, q_str, w64', Option.bind_some, Option.bind_none, List.length_cons, List.length_nil, List.length_append, Nat.zero_add, if_pos, if_neg, decide_true, decide_false, if_true, if_false, Bool.not_true, Bool.not_false, Bool.false_eq_true, Bool.true_eq_false, not_true_eq_false, not_false_eq_true, reduceIte, List.nil_append, h, c]
    all_goals rfl
theorem rdE_inv {a : Ag} {l : List Ev} {day : Int} (h : rdE a l day = 0) : folE a l = 0 ∧ 0 ≤ day ∧ day ≤ 100000 := by
  unfold rdE at h
  split at h
  · split at h
    · exact ⟨‹_›, ‹_›⟩
    · cases h
  · contradiction
theorem k_past {a : Ag} {l : List Ev} (hl : l.length ≤ 1048576) (hw : EvOk l) : law08xpast a l = some ((folE a l, ()), ()) := by
  simp only [law08xpast, T_law08xpast]
  by_cases ha : agE a = 0
  · have e1 : folE a l = hisE a l := if_pos ha
    rw [e1]
    simp (maxSteps := 1000000) (disch := first | omega | assumption) only [r_ret, r_br, decide_eq_true_eq, Bool.not_eq_eq_eq_not, decide_eq_false_iff_not, ite_not, q_true, r_bind, r_iter, q_inB, q_nz, q_app, q_eq, q_bnd, q_str, w64', Option.bind_some, Option.bind_none, List.length_cons, List.length_nil, List.length_append, Nat.zero_add, if_pos, if_neg, decide_true, decide_false, if_true, if_false, Bool.not_true, Bool.not_false, Bool.false_eq_true, Bool.true_eq_false, not_true_eq_false, not_false_eq_true, reduceIte, List.nil_append, k_rCheckAging, ha, k_rCheckHistory ha hl hw]
  · have e1 : folE a l = agE a := if_neg ha
    rw [e1]
    simp (maxSteps := 1000000) (disch := first | omega | assumption) only [r_ret, r_br, decide_eq_true_eq, Bool.not_eq_eq_eq_not, decide_eq_false_iff_not, ite_not, q_true, r_bind, r_iter, q_inB, q_nz, q_app, q_eq, q_bnd, q_str, w64', Option.bind_some, Option.bind_none, List.length_cons, List.length_nil, List.length_append, Nat.zero_add, if_pos, if_neg, decide_true, decide_false, if_true, if_false, Bool.not_true, Bool.not_false, Bool.false_eq_true, Bool.true_eq_false, not_true_eq_false, not_false_eq_true, reduceIte, List.nil_append, k_rCheckAging, ha]
def upTo (l : List Ev) (day : Int) : Nat → List Ev
  | 0 => []
  | i + 1 => if (gi l (i : Int)).2.1 ≤ day then upTo l day i ++ [gi l (i : Int)] else upTo l day i
theorem upTo_len (l : List Ev) (day : Int) : ∀ n, (upTo l day n).length ≤ n
  | 0 => Nat.le_refl _
  | n + 1 => by
    have := upTo_len l day n
    rw [upTo]; split
    · rw [List.length_append, List.length_singleton]; omega
    · omega
theorem gi_app_l {α : Type} [Inhabited α] {u : List α} {x : α} {j : Nat} (h : j < u.length) : gi (u ++ [x]) (j : Int) = gi u (j : Int) := by
  simp [gi, List.getD, List.getElem?_append_left h]
theorem gi_app_r {α : Type} [Inhabited α] {u : List α} {x : α} : gi (u ++ [x]) ((u.length : Nat) : Int) = x := by
  simp [gi, List.getD]
theorem upTo_spec {l : List Ev} {day : Int} : ∀ {n : Nat}, (∀ i j : Nat, i ≤ j → j < n → (gi l (i : Int)).2.1 ≤ (gi l (j : Int)).2.1) → (upTo l day n).length = cnt l day n ∧ ∀ j : Nat, j < cnt l day n → gi (upTo l day n) (j : Int) = gi l (j : Int)
  | 0, _ => ⟨rfl, fun j hj => by simp only [cnt] at hj; omega⟩
  | n + 1, h => by
    obtain ⟨h1, h2⟩ := upTo_spec (n := n) (fun i j h3 h4 => h i j h3 (by omega))
    by_cases c : (gi l (n : Int)).2.1 ≤ day
    · have e : cnt l day n = n := cnt_all (fun j hj => Int.le_trans (h j n (by omega) (by omega)) c)
      rw [upTo, cnt, if_pos c, if_pos c]
      rw [e] at h1 h2
      refine ⟨by rw [List.length_append, List.length_singleton, h1], fun j hj => ?_⟩
      by_cases q : j = n
      · subst q
        have := gi_app_r (u := upTo l day j) (x := gi l (j : Int))
        rw [h1] at this; exact this
      · rw [gi_app_l (by omega)]; exact h2 j (by omega)
    · rw [upTo, cnt, if_neg c, if_neg c]; exact ⟨h1, h2⟩
theorem k_Until {l : List Ev} (hl : l.length ≤ 1048576) (day : Int) : ref08xUntil l day = some ((upTo l day l.length, ()), ()) := by
  simp only [ref08xUntil, T_ref08xUntil, decide_true, q_true]
  rw [r_iter]
  refine iter_eq (fun i x => x = (upTo l day i, (i : Int), ())) _ l.length (by omega) ?_ rfl
  rintro i x hi rfl
  have hb := upTo_len l day i
  simp only [T_ref08xUntil_l0]
  by_cases hlt : i < l.length
  · left
    refine ⟨(upTo l day (i + 1), (i : Int) + 1, ()), ?_, hlt, rfl⟩
    rw [upTo]
    by_cases c0 : (gi l (i : Int)).2.1 ≤ day
    · simp (maxSteps := 1000000) (disch := first | omega | assumption) only [r_ret, r_br, decide_eq_true_eq, Bool.not_eq_eq_eq_not, decide_eq_false_iff_not, ite_not, q_true, r_bind, r_iter, q_inB, q_nz, q_app, q_eq, q_bnd, q_str, w64', Option.bind_some, Option.bind_none, List.length_cons, List.length_nil, List.length_append, Nat.zero_add, if_pos, if_neg, decide_true, decide_false, if_true, if_false, Bool.not_true, Bool.not_false, Bool.false_eq_true, Bool.true_eq_false, not_true_eq_false, not_false_eq_true, reduceIte, List.nil_append, c0]
      all_goals rfl
    · simp (maxSteps := 1000000) (disch := first | omega | assumption) only [r_ret, r_br, decide_eq_true_eq, Bool.not_eq_eq_eq_not, decide_eq_false_iff_not, ite_not, q_true, r_bind, r_iter, q_inB, q_nz, q_app, q_eq, q_bnd, q_str, w64', Option.bind_some, Option.bind_none, List.length_cons, List.length_nil, List.length_append, Nat.zero_add, if_pos, if_neg, decide_true, decide_false, if_true, if_false, Bool.not_true, Bool.not_false, Bool.false_eq_true, Bool.true_eq_false, not_true_eq_false, not_false_eq_true, reduceIte, List.nil_append, c0]
      all_goals rfl
  · right
    have : i = l.length := by omega
    subst this
    simp (maxSteps := 1000000) (disch := first | omega | assumption) only [r_ret, r_br, decide_eq_true_eq, Bool.not_eq_eq_eq_not, decide_eq_false_iff_not, ite_not, q_true, r_bind, r_iter, q_inB, q_nz, q_app, q_eq, q_bnd, q_str, w64', Option.bind_some, Option.bind_none, List.length_cons, List.length_nil, List.length_append, Nat.zero_add, if_pos, if_neg, decide_true, decide_false, if_true, if_false, Bool.not_true, Bool.not_false, Bool.false_eq_true, Bool.true_eq_false, not_true_eq_false, not_false_eq_true, reduceIte, List.nil_append, ]
theorem k_StateOn {a : Ag} {l : List Ev} (ha : agE a = 0) (hp : ∀ j, j < l.length → hsE a l j = 0) (hl : l.length ≤ 1048576) (day : Int) : ref08xStateOn a l day = some ((sta a.2.2.2 l (cnt l day l.length), ()), ()) := by
  obtain ⟨g1, g2, g3, g4⟩ := agE_0 ha
  obtain ⟨h1, h2⟩ := upTo_spec (l := l) (day := day) (n := l.length) (fun i j h3 h4 => days_mono hp h3 h4)
  have hu := upTo_len l day l.length
  have hs := k_rstate (a := a) (l := upTo l day l.length) (by omega) g4
  rw [h1, sta_congr h2] at hs
  simp only [ref08xStateOn, T_ref08xStateOn]
  simp (maxSteps := 1000000) (disch := first | omega | assumption) only [r_ret, r_br, decide_eq_true_eq, Bool.not_eq_eq_eq_not, decide_eq_false_iff_not, ite_not, q_true, r_bind, r_iter, q_inB, q_nz, q_app, q_eq, q_bnd, q_str, w64', Option.bind_some, Option.bind_none, List.length_cons, List.length_nil, List.length_append, Nat.zero_add, if_pos, if_neg, decide_true, decide_false, if_true, if_false, Bool.not_true, Bool.not_false, Bool.false_eq_true, Bool.true_eq_false, not_true_eq_false, not_false_eq_true, reduceIte, List.nil_append, k_Until, hs]
theorem sta_neg {a : Ag} {l : List Ev} (ha : agE a = 0) {i : Nat} (hp : ∀ j, j < i → hsE a l j = 0) : sta a.2.2.2 l i < 0 ↔ ¬ (flm a l i).1 = true := by
  obtain ⟨⟨w1, w2⟩, -, -⟩ := flm_ok ha i hp
  rcases sta_flm ha hp with ⟨h1, h2⟩ | ⟨h1, h2⟩
  · rw [h1, h2]; constructor
    · intro h; omega
    · intro h; exact absurd rfl h
  · rw [h1, h2]; constructor
    · intro h; decide
    · intro h; omega
end Go.Ab
