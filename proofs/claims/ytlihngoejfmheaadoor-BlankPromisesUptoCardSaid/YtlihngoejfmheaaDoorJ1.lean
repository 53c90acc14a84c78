/- Stocks: names, batches, promises: what the program's and the reference's functions compute. -/
import Derived.Test.YtlihngoejfmheaaDoorC1
import Derived.Test.YtlihngoejfmheaaDoorR1
namespace Go.Ab
open Go
set_option maxRecDepth 1000000
set_option maxHeartbeats 1000000
set_option linter.unusedVariables false
set_option linter.unusedSimpArgs false

abbrev Bat := List UInt8 × Int × Int × Int
abbrev Pro := List UInt8 × List UInt8
theorem w1 (i : Nat) (h : i ≤ 9223372036854775806) : IntKind.i64.wrap ((i : Int) + 1) = ((i + 1 : Nat) : Int) := by rw [w64' (by omega) (by omega)]; omega
/-! ### Names -/
def letB (c : Int) : Prop := (97 ≤ c ∧ c ≤ 122) ∨ (65 ≤ c ∧ c ≤ 90)
def okB (i : Nat) (c : Int) : Prop := letB c ∨ (i ≠ 0 ∧ (c = 45 ∨ (48 ≤ c ∧ c ≤ 57)))
instance (c : Int) : Decidable (letB c) := by unfold letB; infer_instance
instance (i : Nat) (c : Int) : Decidable (okB i c) := by unfold okB; infer_instance
def byt (s : List UInt8) (i : Nat) : Int := ((gi s (i : Int)).toNat : Int)
def allB' (s : List UInt8) : Nat → Bool
  | 0 => true
  | i + 1 => allB' s i && decide (okB i (byt s i))
def nameB (s : List UInt8) : Bool := decide (s.length ≠ 0) && decide (s.length ≤ 12) && allB' s s.length
theorem allB'_at {s : List UInt8} {n : Nat} (h : allB' s n = true) : ∀ i, i < n → okB i (byt s i) := by
  induction n with
  | zero => intro i hi; omega
  | succ n ih =>
    simp only [allB', Bool.and_eq_true, decide_eq_true_eq] at h
    intro i hi
    by_cases e : i = n
    · rw [e]; exact h.2
    · exact ih h.1 i (by omega)
theorem allB'_not {s : List UInt8} {i n : Nat} (hi : i < n) (h : ¬ okB i (byt s i)) : allB' s n = false := by
  cases q : allB' s n with
  | false => rfl
  | true => exact absurd (allB'_at q i hi) h
def nmB (c a0 : Int) : Tr ((Int × Unit) ⊕ ((Bool × Unit) × Unit)) := .br (decide (a0 = (0 : Int))) (.ret (.inr ((false, ()), ()))) (.br (!decide (c = (45 : Int))) (.br (decide (c < (48 : Int))) (.ret (.inr ((false, ()), ()))) (.br (decide ((57 : Int) < c)) (.ret (.inr ((false, ()), ()))) (.ret (.inl (IntKind.i64.wrap (a0 + 1), ()))))) (.ret (.inl (IntKind.i64.wrap (a0 + 1), ()))))
def nmA (c a0 : Int) : Tr ((Int × Unit) ⊕ ((Bool × Unit) × Unit)) := .br (decide ((65 : Int) ≤ c)) (.br (!decide (c ≤ (90 : Int))) (nmB c a0) (.ret (.inl (IntKind.i64.wrap (a0 + 1), ())))) (nmB c a0)
def nmT (s : List UInt8) (c a0 : Int) (n : Nat) : Tr ((Int × Unit) ⊕ ((Bool × Unit) × Unit)) := .br (decide (a0 < (n : Int))) (.req (inB a0 n) (.br (decide ((97 : Int) ≤ c)) (.br (decide (c ≤ (122 : Int))) (.ret (.inl (IntKind.i64.wrap (a0 + 1), ()))) (nmA c a0)) (nmA c a0))) (.br (!decide (s = [])) (.ret (.inr ((decide ((s.length : Int) ≤ 12), ()), ()))) (.ret (.inr ((false, ()), ()))))
theorem nm_eq (s : List UInt8) (a0 : Int) : T_blank_isName_l0 s a0 = nmT s (gi (List.map (fun b => (b.toNat : Int)) s) a0) a0 (List.map (fun b => (b.toNat : Int)) s).length := rfl
theorem nmB_run (c : Int) (i : Nat) : (nmB c (i : Int)).run = if i ≠ 0 ∧ (c = 45 ∨ (48 ≤ c ∧ c ≤ 57)) then some (.inl (IntKind.i64.wrap ((i : Int) + 1), ())) else some (.inr ((false, ()), ())) := by
  unfold nmB
  by_cases h0 : i = 0
  · rw [if_neg (by omega)]
    exact (br_t (decide_eq_true (by omega))).trans (r_ret _)
  · refine (br_f (decide_eq_false (by omega))).trans ?_
    by_cases h1 : c = 45
    · rw [if_pos (by omega)]
      exact (br_f (nd h1)).trans (r_ret _)
    · refine (br_t (nd' h1)).trans ?_
      by_cases h2 : c < 48
      · rw [if_neg (by omega)]
        exact (br_t (decide_eq_true h2)).trans (r_ret _)
      · refine (br_f (decide_eq_false h2)).trans ?_
        by_cases h3 : 57 < c
        · rw [if_neg (by omega)]
          exact (br_t (decide_eq_true h3)).trans (r_ret _)
        · rw [if_pos (by omega)]
          exact (br_f (decide_eq_false h3)).trans (r_ret _)
theorem nmA_run (c : Int) (i : Nat) : (nmA c (i : Int)).run = if (65 ≤ c ∧ c ≤ 90) ∨ (i ≠ 0 ∧ (c = 45 ∨ (48 ≤ c ∧ c ≤ 57))) then some (.inl (IntKind.i64.wrap ((i : Int) + 1), ())) else some (.inr ((false, ()), ())) := by
  unfold nmA
  by_cases h1 : 65 ≤ c
  · refine (br_t (decide_eq_true h1)).trans ?_
    by_cases h2 : c ≤ 90
    · rw [if_pos (by omega)]
      exact (br_f (nd h2)).trans (r_ret _)
    · refine (br_t (nd' h2)).trans ?_
      rw [nmB_run]
      by_cases q : i ≠ 0 ∧ (c = 45 ∨ (48 ≤ c ∧ c ≤ 57))
      · rw [if_pos q, if_pos (.inr q)]
      · rw [if_neg q, if_neg (by omega)]
  · refine (br_f (decide_eq_false h1)).trans ?_
    rw [nmB_run]
    by_cases q : i ≠ 0 ∧ (c = 45 ∨ (48 ≤ c ∧ c ≤ 57))
    · rw [if_pos q, if_pos (.inr q)]
    · rw [if_neg q, if_neg (by omega)]
theorem gi_bytes {s : List UInt8} {i : Nat} (h : i < s.length) : gi (List.map (fun b => (b.toNat : Int)) s) (i : Int) = byt s i := by
  unfold byt
  rw [gi_nat (by simpa using h), gi_nat h, List.getElem_map]
theorem k_isName {s : List UInt8} (hs : s.length ≤ 1048576) : blank_isName s = some ((nameB s, ()), ()) := by
  simp only [blank_isName, T_blank_isName]
  refine (q_of (str_t' (by omega))).trans ?_
  rw [r_iter]
  refine iter_eq (fun i st => st = ((i : Int), ()) ∧ allB' s i = true) _ s.length (by omega) ?_ ⟨rfl, rfl⟩
  rintro i st hi ⟨rfl, hall⟩
  show (∃ x', (T_blank_isName_l0 s (i : Int)).run = _ ∧ _) ∨ (T_blank_isName_l0 s (i : Int)).run = _
  rw [nm_eq]
  have hl : (List.map (fun b : UInt8 => (b.toNat : Int)) s).length = s.length := by simp
  rw [hl]
  by_cases h0 : i < s.length
  · rw [gi_bytes h0]
    unfold nmT
    by_cases hok : okB i (byt s i)
    · left
      refine ⟨_, ?_, h0, rfl, by simp only [allB', hall, Bool.true_and]; exact decide_eq_true hok⟩
      rw [← w1 i (by omega)]
      refine (br_t (decide_eq_true (by omega))).trans ?_
      refine (q_of (inB_t' (by omega) (by omega))).trans ?_
      unfold okB letB at hok
      by_cases h1 : 97 ≤ byt s i
      · refine (br_t (decide_eq_true h1)).trans ?_
        by_cases h2 : byt s i ≤ 122
        · exact (br_t (decide_eq_true h2)).trans (r_ret _)
        · refine (br_f (decide_eq_false h2)).trans ?_
          rw [nmA_run, if_pos (by omega)]
      · refine (br_f (decide_eq_false h1)).trans ?_
        rw [nmA_run, if_pos (by omega)]
    · right
      have hf : nameB s = false := by
        unfold nameB
        rw [allB'_not h0 hok, Bool.and_false]
      rw [hf]
      refine (br_t (decide_eq_true (by omega))).trans ?_
      refine (q_of (inB_t' (by omega) (by omega))).trans ?_
      unfold okB letB at hok
      by_cases h1 : 97 ≤ byt s i
      · refine (br_t (decide_eq_true h1)).trans ?_
        by_cases h2 : byt s i ≤ 122
        · exact absurd (.inl (.inl ⟨h1, h2⟩)) hok
        · refine (br_f (decide_eq_false h2)).trans ?_
          rw [nmA_run, if_neg (by omega)]
      · refine (br_f (decide_eq_false h1)).trans ?_
        rw [nmA_run, if_neg (by omega)]
  · right
    have : i = s.length := by omega
    subst this
    unfold nmT
    refine (br_f (decide_eq_false (by omega))).trans ?_
    by_cases h1 : s = []
    · subst h1
      exact (br_f (nd rfl)).trans (r_ret _)
    · refine (br_t (nd' h1)).trans ((r_ret _).trans ?_)
      have hne : s.length ≠ 0 := fun h => h1 (List.length_eq_zero_iff.1 h)
      have : nameB s = decide ((s.length : Int) ≤ 12) := by
        unfold nameB
        rw [hall, Bool.and_true, decide_eq_true hne, Bool.true_and]
        by_cases q : s.length ≤ 12
        · rw [decide_eq_true q, decide_eq_true (by omega)]
        · rw [decide_eq_false q, decide_eq_false (by omega)]
      rw [this]
theorem k_isLetter (c : Int) : base_isLetter c = some ((decide (letB c), ()), ()) := by
  simp only [base_isLetter, T_base_isLetter]
  by_cases h1 : 97 ≤ c
  · refine (br_t (decide_eq_true h1)).trans ?_
    by_cases h2 : c ≤ 122
    · rw [decide_eq_true (show letB c from .inl ⟨h1, h2⟩)]
      exact (br_t (decide_eq_true h2)).trans (r_ret _)
    · refine (br_f (decide_eq_false h2)).trans ?_
      rw [decide_eq_false (show ¬ letB c by unfold letB; omega)]
      refine (br_t (decide_eq_true (by omega))).trans ((r_ret _).trans ?_)
      rw [decide_eq_false (by omega)]
  · refine (br_f (decide_eq_false h1)).trans ?_
    by_cases h2 : 65 ≤ c
    · refine (br_t (decide_eq_true h2)).trans ((r_ret _).trans ?_)
      by_cases h3 : c ≤ 90
      · rw [decide_eq_true h3, decide_eq_true (show letB c from .inr ⟨h2, h3⟩)]
      · rw [decide_eq_false h3, decide_eq_false (show ¬ letB c by unfold letB; omega)]
    · rw [decide_eq_false (show ¬ letB c by unfold letB; omega)]
      exact (br_f (decide_eq_false h2)).trans (r_ret _)
theorem k_isDigit (c : Int) : base_isDigit c = some ((decide (48 ≤ c ∧ c ≤ 57), ()), ()) := by
  simp only [base_isDigit, T_base_isDigit]
  by_cases h1 : 48 ≤ c
  · refine (br_t (decide_eq_true h1)).trans ((r_ret _).trans ?_)
    by_cases h2 : c ≤ 57
    · rw [decide_eq_true h2, decide_eq_true ⟨h1, h2⟩]
    · rw [decide_eq_false h2, decide_eq_false (by omega)]
  · rw [decide_eq_false (show ¬ (48 ≤ c ∧ c ≤ 57) by omega)]
    exact (br_f (decide_eq_false h1)).trans (r_ret _)
theorem k_rIsName {s : List UInt8} (hs : s.length ≤ 1048576) : base_IsName s = some ((nameB s, ()), ()) := by
  simp only [base_IsName, T_base_IsName]
  by_cases h0 : s.length = 0
  · have : nameB s = false := by unfold nameB; rw [decide_eq_false (by omega)]; rfl
    rw [this]
    exact (br_t (decide_eq_true (by omega))).trans (r_ret _)
  refine (br_f (decide_eq_false (by omega))).trans ?_
  by_cases h1 : 12 < (s.length : Int)
  · have : nameB s = false := by unfold nameB; rw [decide_eq_false (show ¬ s.length ≤ 12 by omega), Bool.and_false]; rfl
    rw [this]
    exact (br_t (decide_eq_true h1)).trans (r_ret _)
  refine (br_f (decide_eq_false h1)).trans ?_
  refine (q_of (inB_t' (by omega) (by omega))).trans ?_
  refine (r_bs (k_isLetter _)).trans ?_
  by_cases h2 : letB (byt s 0)
  case neg =>
    have hz : ¬ okB 0 (byt s 0) := fun h => by
      rcases h with h | h
      · exact h2 h
      · exact h.1 rfl
    have : nameB s = false := by unfold nameB; rw [allB'_not (i := 0) (by omega) hz, Bool.and_false]
    rw [this]
    exact (br_t (nd' h2)).trans (r_ret _)
  refine (br_f (nd h2)).trans ?_
  rw [r_iter]
  refine iter_eq (fun i st => st = ((i : Int), ()) ∧ allB' s i = true) _ s.length (by omega) ?_ ⟨rfl, rfl⟩
  rintro i st hi ⟨rfl, hall⟩
  simp only [T_base_IsName_l1]
  by_cases h3 : i < s.length
  · rw [w1 i (by omega)]
    by_cases hok : okB i (byt s i)
    · left
      refine ⟨_, ?_, h3, rfl, by simp only [allB', hall, Bool.true_and]; exact decide_eq_true hok⟩
      refine (br_t (decide_eq_true (by omega))).trans ?_
      refine (q_of (inB_t' (by omega) (by omega))).trans ?_
      refine (r_bs (k_isLetter _)).trans ?_
      by_cases h4 : letB (byt s i)
      · exact (br_f (nd h4)).trans (r_ret _)
      · refine (br_t (nd' h4)).trans ?_
        refine (q_of (inB_t' (by omega) (by omega))).trans ?_
        refine (r_bs (k_isDigit _)).trans ?_
        by_cases h5 : 48 ≤ byt s i ∧ byt s i ≤ 57
        · exact (br_f (nd h5)).trans (r_ret _)
        · refine (br_t (nd' h5)).trans ?_
          refine (q_of (inB_t' (by omega) (by omega))).trans ?_
          have h6 : byt s i = 45 := by
            rcases hok with q | ⟨_, q | q⟩
            · exact absurd q h4
            · exact q
            · exact absurd q h5
          exact (br_f (nd h6)).trans (r_ret _)
    · right
      have hf : nameB s = false := by unfold nameB; rw [allB'_not h3 hok, Bool.and_false]
      rw [hf]
      have hi0 : i ≠ 0 := by
        intro h; subst h; exact hok (.inl h2)
      refine (br_t (decide_eq_true (by omega))).trans ?_
      refine (q_of (inB_t' (by omega) (by omega))).trans ?_
      refine (r_bs (k_isLetter _)).trans ?_
      refine (br_t (nd' (show ¬ letB (byt s i) from fun h => hok (.inl h)))).trans ?_
      refine (q_of (inB_t' (by omega) (by omega))).trans ?_
      refine (r_bs (k_isDigit _)).trans ?_
      refine (br_t (nd' (show ¬ (48 ≤ byt s i ∧ byt s i ≤ 57) from fun h => hok (.inr ⟨hi0, .inr h⟩)))).trans ?_
      refine (q_of (inB_t' (by omega) (by omega))).trans ?_
      exact (br_t (nd' (show ¬ byt s i = 45 from fun h => hok (.inr ⟨hi0, .inl h⟩)))).trans (r_ret _)
  · right
    have : i = s.length := by omega
    subst this
    have : nameB s = true := by unfold nameB; rw [hall, decide_eq_true (show s.length ≠ 0 from h0), decide_eq_true (show s.length ≤ 12 by omega)]; rfl
    rw [this]
    exact (br_f (decide_eq_false (by omega))).trans (r_ret _)
/-! ### Batches -/
def nm (s : List Bat) (i : Nat) : List UInt8 := (gi s (i : Int)).1
/-- Whether a text is among the first i of a list of texts. -/
def seen (f : Nat → List UInt8) (x : List UInt8) : Nat → Bool
  | 0 => false
  | i + 1 => decide (f i = x) || seen f x i
theorem seen_iff {f : Nat → List UInt8} {x : List UInt8} {n : Nat} : seen f x n = true ↔ ∃ j, j < n ∧ f j = x := by
  induction n with
  | zero => exact ⟨fun h => (by cases h), fun ⟨j, hj, _⟩ => by omega⟩
  | succ n ih =>
    simp only [seen, Bool.or_eq_true, decide_eq_true_eq, ih]
    constructor
    · rintro (h | ⟨j, h1, h2⟩)
      · exact ⟨n, by omega, h⟩
      · exact ⟨j, by omega, h2⟩
    · rintro ⟨j, h1, h2⟩
      by_cases e : j = n
      · left; rw [← e]; exact h2
      · right; exact ⟨j, by omega, h2⟩
def marks (f : Nat → List UInt8) : Nat → List (List UInt8 × Bool)
  | 0 => []
  | i + 1 => (f i, true) :: marks f i
theorem marks_get (f : Nat → List UInt8) (x : List UInt8) : ∀ n, mget .bool (marks f n) x false = seen f x n
  | 0 => rfl
  | n + 1 => by
    have ih := marks_get f x n
    simp only [mget, marks, List.lookup_cons, seen] at ih ⊢
    by_cases e : x = f n
    · subst e; simp
    · have e1 : (x == f n) = false := by simpa using e
      rw [e1, decide_eq_false (fun h => e h.symm), Bool.false_or]
      exact ih
def rgE (b : Bat) : Int := if 1 ≤ b.2.1 ∧ b.2.1 ≤ 1000 then if 1 ≤ b.2.2.1 ∧ b.2.2.1 ≤ 500 then if 0 ≤ b.2.2.2 ∧ b.2.2.2 ≤ 1000 then 0 else 2 else 2 else 2
def bE (s : List Bat) (i : Nat) : Int := if nameB (nm s i) = true then (if seen (nm s) (nm s i) i = true then 5 else rgE (gi s (i : Int))) else 4
def bsE (s : List Bat) : Int := if 40 < s.length then 8 else firstErr (bE s) s.length
def Nms (s : List Bat) : Prop := ∀ i : Nat, i < s.length → (nm s i).length ≤ 1048576
theorem k_CheckBatches {s : List Bat} (hn : Nms s) (hl : s.length ≤ 1048576) : blank_CheckBatches s = some ((bsE s, ()), ()) := by
  simp only [blank_CheckBatches, T_blank_CheckBatches, bsE]
  by_cases h : 40 < s.length
  · rw [if_pos h]
    exact (br_t (decide_eq_true (by omega))).trans (r_ret _)
  rw [if_neg h]
  refine (br_f (decide_eq_false (by omega))).trans ?_
  rw [r_iter]
  refine iter_err (fun i => ((i : Int), marks (nm s) i, ())) (bE s) s.length (by omega) (fun e => ((e, ()), ())) ?_ ?_ ?_
  · intro i hi _ hc
    simp only [T_blank_CheckBatches_l0]
    refine (br_t (decide_eq_true (by omega))).trans ?_
    refine (q_of (inB_t' (by omega) (by omega))).trans ?_
    refine (r_bs (k_isName (hn i hi))).trans ?_
    unfold bE at hc ⊢
    by_cases h1 : nameB (nm s i) = true
    · rw [if_pos h1] at hc ⊢
      refine (br_f (by show (!nameB (nm s i)) = false; rw [h1]; rfl)).trans ?_
      rw [marks_get]
      by_cases h2 : seen (nm s) (nm s i) i = true
      · rw [if_pos h2]
        exact (br_t h2).trans (r_ret _)
      · rw [if_neg h2] at hc ⊢
        refine (br_f (show seen (nm s) (nm s i) i = false by simpa using h2)).trans ?_
        refine (r_bs (k_within _ _ _)).trans ?_
        unfold rgE at hc ⊢
        by_cases h3 : 1 ≤ (gi s (i : Int)).2.1 ∧ (gi s (i : Int)).2.1 ≤ 1000
        · rw [if_pos h3] at hc ⊢
          refine (br_f (nd h3)).trans ?_
          refine (r_bs (k_within _ _ _)).trans ?_
          by_cases h4 : 1 ≤ (gi s (i : Int)).2.2.1 ∧ (gi s (i : Int)).2.2.1 ≤ 500
          · rw [if_pos h4] at hc ⊢
            refine (br_f (nd h4)).trans ?_
            refine (r_bs (k_within _ _ _)).trans ?_
            by_cases h5 : 0 ≤ (gi s (i : Int)).2.2.2 ∧ (gi s (i : Int)).2.2.2 ≤ 1000
            · rw [if_pos h5] at hc; exact absurd rfl hc
            · rw [if_neg h5]; exact (br_t (nd' h5)).trans (r_ret _)
          · rw [if_neg h4]; exact (br_t (nd' h4)).trans (r_ret _)
        · rw [if_neg h3]; exact (br_t (nd' h3)).trans (r_ret _)
    · rw [if_neg h1]
      exact (br_t (by show (!nameB (nm s i)) = true; simpa using h1)).trans (r_ret _)
  · intro i hi _ hc
    simp only [T_blank_CheckBatches_l0]
    refine (br_t (decide_eq_true (by omega))).trans ?_
    refine (q_of (inB_t' (by omega) (by omega))).trans ?_
    refine (r_bs (k_isName (hn i hi))).trans ?_
    unfold bE at hc
    by_cases h1 : nameB (nm s i) = true
    · rw [if_pos h1] at hc
      refine (br_f (by show (!nameB (nm s i)) = false; rw [h1]; rfl)).trans ?_
      rw [marks_get]
      by_cases h2 : seen (nm s) (nm s i) i = true
      · rw [if_pos h2] at hc; cases hc
      · rw [if_neg h2] at hc
        refine (br_f (show seen (nm s) (nm s i) i = false by simpa using h2)).trans ?_
        refine (r_bs (k_within _ _ _)).trans ?_
        unfold rgE at hc
        by_cases h3 : 1 ≤ (gi s (i : Int)).2.1 ∧ (gi s (i : Int)).2.1 ≤ 1000
        · rw [if_pos h3] at hc
          refine (br_f (nd h3)).trans ?_
          refine (r_bs (k_within _ _ _)).trans ?_
          by_cases h4 : 1 ≤ (gi s (i : Int)).2.2.1 ∧ (gi s (i : Int)).2.2.1 ≤ 500
          · rw [if_pos h4] at hc
            refine (br_f (nd h4)).trans ?_
            refine (r_bs (k_within _ _ _)).trans ?_
            by_cases h5 : 0 ≤ (gi s (i : Int)).2.2.2 ∧ (gi s (i : Int)).2.2.2 ≤ 1000
            · refine (br_f (nd h5)).trans ((r_ret _).trans ?_)
              rw [w1 i (by omega)]; rfl
            · rw [if_neg h5] at hc; cases hc
          · rw [if_neg h4] at hc; cases hc
        · rw [if_neg h3] at hc; cases hc
    · rw [if_neg h1] at hc; cases hc
  · intro _
    simp only [T_blank_CheckBatches_l0]
    exact (br_f (decide_eq_false (by omega))).trans (r_ret _)
/-- The number of a batch with a name, or -1. -/
def atB (s : List Bat) (x : List UInt8) : Int := idxTo (fun j => decide (nm s j = x)) s.length
theorem k_BatchAt {s : List Bat} (hl : s.length ≤ 1048576) (x : List UInt8) : ref03xBatchAt s x = some ((atB s x, ()), ()) := by
  simp only [ref03xBatchAt, T_ref03xBatchAt, r_iter]
  refine iter_idx (fun j => decide (nm s j = x)) s.length (by omega) (fun i => ((i, ()), ())) ?_ ?_ ?_
  · intro i hi hp
    simp only [T_ref03xBatchAt_l0]
    refine (br_t (decide_eq_true (by omega))).trans ?_
    refine (q_of (inB_t' (by omega) (by omega))).trans ?_
    exact (br_t hp).trans (r_ret _)
  · intro i hi hp
    simp only [T_ref03xBatchAt_l0]
    refine (br_t (decide_eq_true (by omega))).trans ?_
    refine (q_of (inB_t' (by omega) (by omega))).trans ?_
    refine (br_f hp).trans ((r_ret _).trans ?_)
    rw [w64' (by omega) (by omega)]
  · simp only [T_ref03xBatchAt_l0]
    exact (br_f (decide_eq_false (by omega))).trans (r_ret _)
theorem atB_bd (s : List Bat) (x : List UInt8) : -1 ≤ atB s x ∧ atB s x < s.length := idxTo_bd _ _
theorem atB_seen {s : List Bat} {i : Nat} (hi : i < s.length) : atB s (nm s i) < i ↔ seen (nm s) (nm s i) i = true := by
  rw [seen_iff]
  rcases idxTo_cases (fun j => decide (nm s j = nm s i)) s.length with ⟨h1, h2⟩ | ⟨j, h1, h2, h3, h4⟩
  · have := h2 i hi; simp at this
  · have e : atB s (nm s i) = j := h2
    rw [e]
    have h3' : nm s j = nm s i := of_decide_eq_true h3
    constructor
    · intro h; exact ⟨j, by omega, h3'⟩
    · rintro ⟨k, k1, k2⟩
      by_cases q : k < j
      · have := h4 k q; simp at this; exact absurd k2 this
      · omega
theorem k_rCheckBatches {s : List Bat} (hn : Nms s) (hl : s.length ≤ 1048576) : ref03xCheckBatches s = some ((bsE s, ()), ()) := by
  simp only [ref03xCheckBatches, T_ref03xCheckBatches, bsE]
  by_cases h : 40 < s.length
  · rw [if_pos h]
    exact (br_t (decide_eq_true (by omega))).trans (r_ret _)
  rw [if_neg h]
  refine (br_f (decide_eq_false (by omega))).trans ?_
  rw [r_iter]
  refine iter_err (fun i => ((i : Int), ())) (bE s) s.length (by omega) (fun e => ((e, ()), ())) ?_ ?_ ?_
  · intro i hi _ hc
    have hin : inB (i : Int) s.length = true := inB_t' (by omega) (by omega)
    simp only [T_ref03xCheckBatches_l0]
    refine (br_t (decide_eq_true (by omega))).trans ?_
    refine (q_of hin).trans ?_
    refine (r_bs (k_rIsName (hn i hi))).trans ?_
    unfold bE at hc ⊢
    by_cases h1 : nameB (nm s i) = true
    · rw [if_pos h1] at hc ⊢
      refine (br_f (by show (!nameB (nm s i)) = false; rw [h1]; rfl)).trans ?_
      refine (q_of hin).trans ?_
      refine (r_bs (k_BatchAt hl _)).trans ?_
      by_cases h2 : seen (nm s) (nm s i) i = true
      · rw [if_pos h2]
        exact (br_t (decide_eq_true ((atB_seen hi).2 h2))).trans (r_ret _)
      · rw [if_neg h2] at hc ⊢
        refine (br_f (decide_eq_false (fun h => h2 ((atB_seen hi).1 h)))).trans ?_
        refine (q_of hin).trans ?_
        refine (r_bs (k_Within _ _ _)).trans ?_
        unfold rgE at hc ⊢
        by_cases h3 : 1 ≤ (gi s (i : Int)).2.1 ∧ (gi s (i : Int)).2.1 ≤ 1000
        · rw [if_pos h3] at hc ⊢
          refine (br_f (nd h3)).trans ?_
          refine (q_of hin).trans ?_
          refine (r_bs (k_Within _ _ _)).trans ?_
          by_cases h4 : 1 ≤ (gi s (i : Int)).2.2.1 ∧ (gi s (i : Int)).2.2.1 ≤ 500
          · rw [if_pos h4] at hc ⊢
            refine (br_f (nd h4)).trans ?_
            refine (q_of hin).trans ?_
            refine (r_bs (k_Within _ _ _)).trans ?_
            by_cases h5 : 0 ≤ (gi s (i : Int)).2.2.2 ∧ (gi s (i : Int)).2.2.2 ≤ 1000
            · rw [if_pos h5] at hc; exact absurd rfl hc
            · rw [if_neg h5]; exact (br_t (nd' h5)).trans (r_ret _)
          · rw [if_neg h4]; exact (br_t (nd' h4)).trans (r_ret _)
        · rw [if_neg h3]; exact (br_t (nd' h3)).trans (r_ret _)
    · rw [if_neg h1]
      exact (br_t (by show (!nameB (nm s i)) = true; simpa using h1)).trans (r_ret _)
  · intro i hi _ hc
    have hin : inB (i : Int) s.length = true := inB_t' (by omega) (by omega)
    simp only [T_ref03xCheckBatches_l0]
    refine (br_t (decide_eq_true (by omega))).trans ?_
    refine (q_of hin).trans ?_
    refine (r_bs (k_rIsName (hn i hi))).trans ?_
    unfold bE at hc
    by_cases h1 : nameB (nm s i) = true
    · rw [if_pos h1] at hc
      refine (br_f (by show (!nameB (nm s i)) = false; rw [h1]; rfl)).trans ?_
      refine (q_of hin).trans ?_
      refine (r_bs (k_BatchAt hl _)).trans ?_
      by_cases h2 : seen (nm s) (nm s i) i = true
      · rw [if_pos h2] at hc; cases hc
      · rw [if_neg h2] at hc
        refine (br_f (decide_eq_false (fun h => h2 ((atB_seen hi).1 h)))).trans ?_
        refine (q_of hin).trans ?_
        refine (r_bs (k_Within _ _ _)).trans ?_
        unfold rgE at hc
        by_cases h3 : 1 ≤ (gi s (i : Int)).2.1 ∧ (gi s (i : Int)).2.1 ≤ 1000
        · rw [if_pos h3] at hc
          refine (br_f (nd h3)).trans ?_
          refine (q_of hin).trans ?_
          refine (r_bs (k_Within _ _ _)).trans ?_
          by_cases h4 : 1 ≤ (gi s (i : Int)).2.2.1 ∧ (gi s (i : Int)).2.2.1 ≤ 500
          · rw [if_pos h4] at hc
            refine (br_f (nd h4)).trans ?_
            refine (q_of hin).trans ?_
            refine (r_bs (k_Within _ _ _)).trans ?_
            by_cases h5 : 0 ≤ (gi s (i : Int)).2.2.2 ∧ (gi s (i : Int)).2.2.2 ≤ 1000
            · refine (br_f (nd h5)).trans ((r_ret _).trans ?_)
              rw [w1 i (by omega)]
            · rw [if_neg h5] at hc; cases hc
          · rw [if_neg h4] at hc; cases hc
        · rw [if_neg h3] at hc; cases hc
    · rw [if_neg h1] at hc; cases hc
  · intro _
    simp only [T_ref03xCheckBatches_l0]
    exact (br_f (decide_eq_false (by omega))).trans (r_ret _)
end Go.Ab
