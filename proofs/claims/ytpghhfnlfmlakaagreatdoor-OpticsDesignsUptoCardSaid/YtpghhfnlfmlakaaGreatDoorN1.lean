/- Names of designs and surfaces. -/
import Derived.Test.YtpghhfnlfmlakaaGreatDoorH1
import Derived.Test.YtpghhfnlfmlakaaGreatDoorR1
namespace Go.Ab
open Go
set_option maxRecDepth 1000000
set_option maxHeartbeats 1000000
set_option linter.unusedVariables false
set_option linter.unusedSimpArgs false

theorem w1 (i : Nat) (h : i ≤ 9223372036854775806) : IntKind.i64.wrap ((i : Int) + 1) = ((i + 1 : Nat) : Int) := by rw [w64' (by omega) (by omega)]; omega
theorem nd {p : Prop} [Decidable p] (h : p) : (!decide p) = false := by simp [h]
theorem nd' {p : Prop} [Decidable p] (h : ¬ p) : (!decide p) = true := by simp [h]
/-! ### Names -/
def letB (c : Int) : Prop := (97 ≤ c ∧ c ≤ 122) ∨ (65 ≤ c ∧ c ≤ 90)
def okB (i : Nat) (c : Int) : Prop := letB c ∨ (i ≠ 0 ∧ (c = 45 ∨ (48 ≤ c ∧ c ≤ 57)))
instance (c : Int) : Decidable (letB c) := by unfold letB; infer_instance
instance (i : Nat) (c : Int) : Decidable (okB i c) := by unfold okB; infer_instance
def byt (s : List UInt8) (i : Nat) : Int := ((gi s (i : Int)).toNat : Int)
def allB' (s : List UInt8) : Nat → Bool
  | 0 => true
  | i + 1 => allB' s i && decide (okB i (byt s i))
def nameB (s : List UInt8) : Bool := decide (s.length ≠ 0) && decide (s.length ≤ 12) && allB' s s.length
theorem allB'_at {s : List UInt8} {n : Nat} (h : allB' s n = true) : ∀ i, i < n → okB i (byt s i) := by
  induction n with
  | zero => intro i hi; omega
  | succ n ih =>
    simp only [allB', Bool.and_eq_true, decide_eq_true_eq] at h
    intro i hi
    by_cases e : i = n
    · rw [e]; exact h.2
    · exact ih h.1 i (by omega)
theorem allB'_not {s : List UInt8} {i n : Nat} (hi : i < n) (h : ¬ okB i (byt s i)) : allB' s n = false := by
  cases q : allB' s n with
  | false => rfl
  | true => exact absurd (allB'_at q i hi) h
def nmB (c a0 : Int) : Tr ((Int × Unit) ⊕ ((Bool × Unit) × Unit)) := .br (decide (a0 = (0 : Int))) (.ret (.inr ((false, ()), ()))) (.br (!decide (c = (45 : Int))) (.br (decide (c < (48 : Int))) (.ret (.inr ((false, ()), ()))) (.br (decide ((57 : Int) < c)) (.ret (.inr ((false, ()), ()))) (.ret (.inl (IntKind.i64.wrap (a0 + 1), ()))))) (.ret (.inl (IntKind.i64.wrap (a0 + 1), ()))))
def nmA (c a0 : Int) : Tr ((Int × Unit) ⊕ ((Bool × Unit) × Unit)) := .br (decide ((65 : Int) ≤ c)) (.br (!decide (c ≤ (90 : Int))) (nmB c a0) (.ret (.inl (IntKind.i64.wrap (a0 + 1), ())))) (nmB c a0)
def nmT (s : List UInt8) (c a0 : Int) (n : Nat) : Tr ((Int × Unit) ⊕ ((Bool × Unit) × Unit)) := .br (decide (a0 < (n : Int))) (.req (inB a0 n) (.br (decide ((97 : Int) ≤ c)) (.br (decide (c ≤ (122 : Int))) (.ret (.inl (IntKind.i64.wrap (a0 + 1), ()))) (nmA c a0)) (nmA c a0))) (.br (!decide (s = [])) (.ret (.inr ((decide ((s.length : Int) ≤ 12), ()), ()))) (.ret (.inr ((false, ()), ()))))
theorem nm_eq (s : List UInt8) (a0 : Int) : T_optics_isName_l0 s a0 = nmT s (gi (List.map (fun b => (b.toNat : Int)) s) a0) a0 (List.map (fun b => (b.toNat : Int)) s).length := rfl
theorem nmB_run (c : Int) (i : Nat) : (nmB c (i : Int)).run = if i ≠ 0 ∧ (c = 45 ∨ (48 ≤ c ∧ c ≤ 57)) then some (.inl (IntKind.i64.wrap ((i : Int) + 1), ())) else some (.inr ((false, ()), ())) := by
  unfold nmB
  by_cases h0 : i = 0
  · rw [if_neg (by omega)]
    exact (br_t (decide_eq_true (by omega))).trans (r_ret _)
  · refine (br_f (decide_eq_false (by omega))).trans ?_
    by_cases h1 : c = 45
    · rw [if_pos (by omega)]
      exact (br_f (nd h1)).trans (r_ret _)
    · refine (br_t (nd' h1)).trans ?_
      by_cases h2 : c < 48
      · rw [if_neg (by omega)]
        exact (br_t (decide_eq_true h2)).trans (r_ret _)
      · refine (br_f (decide_eq_false h2)).trans ?_
        by_cases h3 : 57 < c
        · rw [if_neg (by omega)]
          exact (br_t (decide_eq_true h3)).trans (r_ret _)
        · rw [if_pos (by omega)]
          exact (br_f (decide_eq_false h3)).trans (r_ret _)
theorem nmA_run (c : Int) (i : Nat) : (nmA c (i : Int)).run = if (65 ≤ c ∧ c ≤ 90) ∨ (i ≠ 0 ∧ (c = 45 ∨ (48 ≤ c ∧ c ≤ 57))) then some (.inl (IntKind.i64.wrap ((i : Int) + 1), ())) else some (.inr ((false, ()), ())) := by
  unfold nmA
  by_cases h1 : 65 ≤ c
  · refine (br_t (decide_eq_true h1)).trans ?_
    by_cases h2 : c ≤ 90
    · rw [if_pos (by omega)]
      exact (br_f (nd h2)).trans (r_ret _)
    · refine (br_t (nd' h2)).trans ?_
      rw [nmB_run]
      by_cases q : i ≠ 0 ∧ (c = 45 ∨ (48 ≤ c ∧ c ≤ 57))
      · rw [if_pos q, if_pos (.inr q)]
      · rw [if_neg q, if_neg (by omega)]
  · refine (br_f (decide_eq_false h1)).trans ?_
    rw [nmB_run]
    by_cases q : i ≠ 0 ∧ (c = 45 ∨ (48 ≤ c ∧ c ≤ 57))
    · rw [if_pos q, if_pos (.inr q)]
    · rw [if_neg q, if_neg (by omega)]
theorem gi_bytes {s : List UInt8} {i : Nat} (h : i < s.length) : gi (List.map (fun b => (b.toNat : Int)) s) (i : Int) = byt s i := by
  unfold byt
  rw [gi_nat (by simpa using h), gi_nat h, List.getElem_map]
theorem k_isName {s : List UInt8} (hs : s.length ≤ 1048576) : optics_isName s = some ((nameB s, ()), ()) := by
  simp only [optics_isName, T_optics_isName]
  refine (q_of (str_t' (by omega))).trans ?_
  rw [r_iter]
  refine iter_eq (fun i st => st = ((i : Int), ()) ∧ allB' s i = true) _ s.length (by omega) ?_ ⟨rfl, rfl⟩
  rintro i st hi ⟨rfl, hall⟩
  show (∃ x', (T_optics_isName_l0 s (i : Int)).run = _ ∧ _) ∨ (T_optics_isName_l0 s (i : Int)).run = _
  rw [nm_eq]
  have hl : (List.map (fun b : UInt8 => (b.toNat : Int)) s).length = s.length := by simp
  rw [hl]
  by_cases h0 : i < s.length
  · rw [gi_bytes h0]
    unfold nmT
    by_cases hok : okB i (byt s i)
    · left
      refine ⟨_, ?_, h0, rfl, by simp only [allB', hall, Bool.true_and]; exact decide_eq_true hok⟩
      rw [← w1 i (by omega)]
      refine (br_t (decide_eq_true (by omega))).trans ?_
      refine (q_of (inB_t' (by omega) (by omega))).trans ?_
      unfold okB letB at hok
      by_cases h1 : 97 ≤ byt s i
      · refine (br_t (decide_eq_true h1)).trans ?_
        by_cases h2 : byt s i ≤ 122
        · exact (br_t (decide_eq_true h2)).trans (r_ret _)
        · refine (br_f (decide_eq_false h2)).trans ?_
          rw [nmA_run, if_pos (by omega)]
      · refine (br_f (decide_eq_false h1)).trans ?_
        rw [nmA_run, if_pos (by omega)]
    · right
      have hf : nameB s = false := by
        unfold nameB
        rw [allB'_not h0 hok, Bool.and_false]
      rw [hf]
      refine (br_t (decide_eq_true (by omega))).trans ?_
      refine (q_of (inB_t' (by omega) (by omega))).trans ?_
      unfold okB letB at hok
      by_cases h1 : 97 ≤ byt s i
      · refine (br_t (decide_eq_true h1)).trans ?_
        by_cases h2 : byt s i ≤ 122
        · exact absurd (.inl (.inl ⟨h1, h2⟩)) hok
        · refine (br_f (decide_eq_false h2)).trans ?_
          rw [nmA_run, if_neg (by omega)]
      · refine (br_f (decide_eq_false h1)).trans ?_
        rw [nmA_run, if_neg (by omega)]
  · right
    have : i = s.length := by omega
    subst this
    unfold nmT
    refine (br_f (decide_eq_false (by omega))).trans ?_
    by_cases h1 : s = []
    · subst h1
      exact (br_f (nd rfl)).trans (r_ret _)
    · refine (br_t (nd' h1)).trans ((r_ret _).trans ?_)
      have hne : s.length ≠ 0 := fun h => h1 (List.length_eq_zero_iff.1 h)
      have : nameB s = decide ((s.length : Int) ≤ 12) := by
        unfold nameB
        rw [hall, Bool.and_true, decide_eq_true hne, Bool.true_and]
        by_cases q : s.length ≤ 12
        · rw [decide_eq_true q, decide_eq_true (by omega)]
        · rw [decide_eq_false q, decide_eq_false (by omega)]
      rw [this]
theorem k_isLetter (c : Int) : base_isLetter c = some ((decide (letB c), ()), ()) := by
  simp only [base_isLetter, T_base_isLetter]
  by_cases h1 : 97 ≤ c
  · refine (br_t (decide_eq_true h1)).trans ?_
    by_cases h2 : c ≤ 122
    · rw [decide_eq_true (show letB c from .inl ⟨h1, h2⟩)]
      exact (br_t (decide_eq_true h2)).trans (r_ret _)
    · refine (br_f (decide_eq_false h2)).trans ?_
      rw [decide_eq_false (show ¬ letB c by unfold letB; omega)]
      refine (br_t (decide_eq_true (by omega))).trans ((r_ret _).trans ?_)
      rw [decide_eq_false (by omega)]
  · refine (br_f (decide_eq_false h1)).trans ?_
    by_cases h2 : 65 ≤ c
    · refine (br_t (decide_eq_true h2)).trans ((r_ret _).trans ?_)
      by_cases h3 : c ≤ 90
      · rw [decide_eq_true h3, decide_eq_true (show letB c from .inr ⟨h2, h3⟩)]
      · rw [decide_eq_false h3, decide_eq_false (show ¬ letB c by unfold letB; omega)]
    · rw [decide_eq_false (show ¬ letB c by unfold letB; omega)]
      exact (br_f (decide_eq_false h2)).trans (r_ret _)
theorem k_isDigit (c : Int) : base_isDigit c = some ((decide (48 ≤ c ∧ c ≤ 57), ()), ()) := by
  simp only [base_isDigit, T_base_isDigit]
  by_cases h1 : 48 ≤ c
  · refine (br_t (decide_eq_true h1)).trans ((r_ret _).trans ?_)
    by_cases h2 : c ≤ 57
    · rw [decide_eq_true h2, decide_eq_true ⟨h1, h2⟩]
    · rw [decide_eq_false h2, decide_eq_false (by omega)]
  · rw [decide_eq_false (show ¬ (48 ≤ c ∧ c ≤ 57) by omega)]
    exact (br_f (decide_eq_false h1)).trans (r_ret _)
theorem k_rIsName {s : List UInt8} (hs : s.length ≤ 1048576) : base_IsName s = some ((nameB s, ()), ()) := by
  simp only [base_IsName, T_base_IsName]
  by_cases h0 : s.length = 0
  · have : nameB s = false := by unfold nameB; rw [decide_eq_false (by omega)]; rfl
    rw [this]
    exact (br_t (decide_eq_true (by omega))).trans (r_ret _)
  refine (br_f (decide_eq_false (by omega))).trans ?_
  by_cases h1 : 12 < (s.length : Int)
  · have : nameB s = false := by unfold nameB; rw [decide_eq_false (show ¬ s.length ≤ 12 by omega), Bool.and_false]; rfl
    rw [this]
    exact (br_t (decide_eq_true h1)).trans (r_ret _)
  refine (br_f (decide_eq_false h1)).trans ?_
  refine (q_of (inB_t' (by omega) (by omega))).trans ?_
  refine (r_bs (k_isLetter _)).trans ?_
  by_cases h2 : letB (byt s 0)
  case neg =>
    have hz : ¬ okB 0 (byt s 0) := fun h => by
      rcases h with h | h
      · exact h2 h
      · exact h.1 rfl
    have : nameB s = false := by unfold nameB; rw [allB'_not (i := 0) (by omega) hz, Bool.and_false]
    rw [this]
    exact (br_t (nd' h2)).trans (r_ret _)
  refine (br_f (nd h2)).trans ?_
  rw [r_iter]
  refine iter_eq (fun i st => st = ((i : Int), ()) ∧ allB' s i = true) _ s.length (by omega) ?_ ⟨rfl, rfl⟩
  rintro i st hi ⟨rfl, hall⟩
  simp only [T_base_IsName_l1]
  by_cases h3 : i < s.length
  · rw [w1 i (by omega)]
    by_cases hok : okB i (byt s i)
    · left
      refine ⟨_, ?_, h3, rfl, by simp only [allB', hall, Bool.true_and]; exact decide_eq_true hok⟩
      refine (br_t (decide_eq_true (by omega))).trans ?_
      refine (q_of (inB_t' (by omega) (by omega))).trans ?_
      refine (r_bs (k_isLetter _)).trans ?_
      by_cases h4 : letB (byt s i)
      · exact (br_f (nd h4)).trans (r_ret _)
      · refine (br_t (nd' h4)).trans ?_
        refine (q_of (inB_t' (by omega) (by omega))).trans ?_
        refine (r_bs (k_isDigit _)).trans ?_
        by_cases h5 : 48 ≤ byt s i ∧ byt s i ≤ 57
        · exact (br_f (nd h5)).trans (r_ret _)
        · refine (br_t (nd' h5)).trans ?_
          refine (q_of (inB_t' (by omega) (by omega))).trans ?_
          have h6 : byt s i = 45 := by
            rcases hok with q | ⟨_, q | q⟩
            · exact absurd q h4
            · exact q
            · exact absurd q h5
          exact (br_f (nd h6)).trans (r_ret _)
    · right
      have hf : nameB s = false := by unfold nameB; rw [allB'_not h3 hok, Bool.and_false]
      rw [hf]
      have hi0 : i ≠ 0 := by
        intro h; subst h; exact hok (.inl h2)
      refine (br_t (decide_eq_true (by omega))).trans ?_
      refine (q_of (inB_t' (by omega) (by omega))).trans ?_
      refine (r_bs (k_isLetter _)).trans ?_
      refine (br_t (nd' (show ¬ letB (byt s i) from fun h => hok (.inl h)))).trans ?_
      refine (q_of (inB_t' (by omega) (by omega))).trans ?_
      refine (r_bs (k_isDigit _)).trans ?_
      refine (br_t (nd' (show ¬ (48 ≤ byt s i ∧ byt s i ≤ 57) from fun h => hok (.inr ⟨hi0, .inr h⟩)))).trans ?_
      refine (q_of (inB_t' (by omega) (by omega))).trans ?_
      exact (br_t (nd' (show ¬ byt s i = 45 from fun h => hok (.inr ⟨hi0, .inl h⟩)))).trans (r_ret _)
  · right
    have : i = s.length := by omega
    subst this
    have : nameB s = true := by unfold nameB; rw [hall, decide_eq_true (show s.length ≠ 0 from h0), decide_eq_true (show s.length ≤ 12 by omega)]; rfl
    rw [this]
    exact (br_f (decide_eq_false (by omega))).trans (r_ret _)
end Go.Ab
