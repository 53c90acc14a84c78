/- Histories: aging, events, what a mirror is behind events, right histories. Histories: the program's and the reference's walk along events; CoatHistories answers true. The brightness on a day; CoatBright answers true. The days on which a coating is due, and that it fades; CoatDue and CoatFades answer true. CoatDue and CoatFades answer true. The true brightness lies in its range; TopCoatWithin answers true. -/
import Derived.Test.YtjmmjfcapgaomaaKA

section
namespace Go.Ab
open Go
set_option maxRecDepth 1000000
set_option maxHeartbeats 1000000
set_option linter.unusedVariables false
set_option linter.unusedSimpArgs false
attribute [local congr] bindC iterC

abbrev Ag := (Int × Int) × ((Int × Int) × ((Int × Int) × Int))
abbrev Ev := List UInt8 × (Int × Int)
abbrev Sf := Bool × (Int × (Int × (Int × Int)))

/-- The number of the first error, or 0. -/
def firstIx (f : Nat → Int) : Nat → Int
  | 0 => 0
  | n + 1 => if firstErr f n ≠ 0 then firstIx f n else if f n = 0 then 0 else (n : Int)
theorem firstIx_0 {f : Nat → Int} : ∀ {n : Nat}, (∀ j, j < n → f j = 0) → firstIx f n = 0
  | 0, _ => rfl
  | n + 1, h => by rw [firstIx, firstErr_0 (fun j hj => h j (by omega)), if_neg (by decide), if_pos (h n (by omega))]
theorem firstIx_at {f : Nat → Int} {i : Nat} (h : ∀ j, j < i → f j = 0) (hi : f i ≠ 0) : ∀ {n : Nat}, i < n → firstIx f n = i
  | 0, hn => by omega
  | n + 1, hn => by
    rw [firstIx]
    by_cases e : i = n
    · subst e; rw [firstErr_0 h, if_neg (by decide), if_neg hi]
    · rw [firstErr_at h hi (n := n) (by omega), if_pos hi, firstIx_at h hi (n := n) (by omega)]
theorem firstIx_congr {f g : Nat → Int} : ∀ {n : Nat}, (∀ j, j < n → f j = g j) → firstIx f n = firstIx g n
  | 0, _ => rfl
  | n + 1, h => by rw [firstIx, firstIx, firstErr_congr (fun j hj => h j (by omega)), firstIx_congr (fun j hj => h j (by omega)), h n (by omega)]
/-- A loop that stops at the first error, and tells its number. -/
theorem iter_errI {σ ρ : Type} {b : σ → Option (σ ⊕ ρ)} (st : Nat → σ) (f : Nat → Int) (n : Nat) (hn : n ≤ 1099511627776) (F : Int → Int → ρ)
    (h1 : ∀ i : Nat, i < n → (∀ j, j < i → f j = 0) → f i ≠ 0 → b (st i) = some (.inr (F i (f i)))) (h2 : ∀ i : Nat, i < n → (∀ j, j < i → f j = 0) → f i = 0 → b (st i) = some (.inl (st (i + 1))))
    (h3 : (∀ j, j < n → f j = 0) → b (st n) = some (.inr (F 0 0))) : iterF b FUEL (st 0) = some (F (firstIx f n) (firstErr f n)) := by
  refine iter_eq (fun i x => x = st i ∧ ∀ j, j < i → f j = 0) _ n (by omega) ?_ ⟨rfl, fun j hj => by omega⟩
  rintro i x hi ⟨rfl, hp⟩
  by_cases hlt : i < n
  · by_cases q : f i = 0
    · left
      refine ⟨_, h2 i hlt hp q, hlt, rfl, fun j hj => ?_⟩
      by_cases e : j = i
      · subst e; exact q
      · exact hp j (by omega)
    · right; rw [h1 i hlt hp q, firstErr_at hp q hlt, firstIx_at hp q hlt]
  · right
    have : i = n := by omega
    subst this
    rw [h3 hp, firstErr_0 hp, firstIx_0 hp]

/-! ### Aging -/

def rgE (r : Int × Int) : Int := if (0 ≤ r.1 ∧ r.1 ≤ r.2) ∧ r.2 ≤ 1000 then 0 else 2
def wsE (w : Int) : Int := if 0 ≤ w ∧ w ≤ 100 then 0 else 2
def agI (a : Ag) (i : Nat) : Int := if i = 0 then rgE a.1 else if i = 1 then rgE a.2.1 else rgE a.2.2.1
def agE (a : Ag) : Int := if firstErr (agI a) 3 = 0 then wsE a.2.2.2 else firstErr (agI a) 3
theorem rgE_0 {r : Int × Int} (h : rgE r = 0) : 0 ≤ r.1 ∧ r.1 ≤ r.2 ∧ r.2 ≤ 1000 := by
  unfold rgE at h
  split at h
  · omega
  · cases h
theorem rgE_2 {r : Int × Int} (h : rgE r ≠ 0) : rgE r = 2 := by
  unfold rgE at *
  split
  · rename_i c; exact absurd (if_pos c) h
  · rfl
theorem agE_0 {a : Ag} (h : agE a = 0) : (0 ≤ a.1.1 ∧ a.1.1 ≤ a.1.2 ∧ a.1.2 ≤ 1000) ∧ (0 ≤ a.2.1.1 ∧ a.2.1.1 ≤ a.2.1.2 ∧ a.2.1.2 ≤ 1000) ∧ (0 ≤ a.2.2.1.1 ∧ a.2.2.1.1 ≤ a.2.2.1.2 ∧ a.2.2.1.2 ≤ 1000) ∧ (0 ≤ a.2.2.2 ∧ a.2.2.2 ≤ 100) := by
  unfold agE at h
  split at h
  · rename_i h0
    have q := firstErr_eq0 h0
    refine ⟨rgE_0 (q 0 (by omega)), rgE_0 (q 1 (by omega)), rgE_0 (q 2 (by omega)), ?_⟩
    unfold wsE at h
    split at h
    · assumption
    · cases h
  · contradiction

theorem k_CheckAging (a : Ag) : coat_CheckAging a = some ((agE a, ()), ()) := by
  simp only [coat_CheckAging, T_coat_CheckAging, agE]
  rw [r_iter]
  refine (iter_err (fun i => ((i : Int), ())) (agI a) 3 (by omega) (fun e => ((((if e = 0 then wsE a.2.2.2 else e) : Int), ()), ())) ?_ ?_ ?_)
  all_goals simp only [T_coat_CheckAging_l0]
  · intro i hi hp hb
    have : i = 0 ∨ i = 1 ∨ i = 2 := by omega
    rcases this with rfl | rfl | rfl
    · have e : agI a 0 = 2 := rgE_2 hb
      by_cases c1 : 0 ≤ a.1.1 ∧ a.1.1 ≤ a.1.2
      · by_cases c2 : (1000 : Int) < a.1.2
        · simp (maxSteps := 1000000) (disch := first | omega | assumption) only [r_ret, r_br, decide_eq_true_eq, Bool.not_eq_eq_eq_not, decide_eq_false_iff_not, ite_not, q_true, r_bind, r_iter, q_inB, q_nz, q_app, q_eq, q_bnd, q_str, w64', Option.bind_some, Option.bind_none, List.length_cons, List.length_nil, List.length_append, Nat.zero_add, if_pos, if_neg, decide_true, decide_false, if_true, if_false, Bool.not_true, Bool.not_false, Bool.false_eq_true, Bool.true_eq_false, not_true_eq_false, not_false_eq_true, reduceIte, List.nil_append, k_within, c1, c2, and_self, e]
        · exact absurd (show rgE a.1 = 0 from if_pos ⟨c1, by omega⟩) hb
      · simp (maxSteps := 1000000) (disch := first | omega | assumption) only [r_ret, r_br, decide_eq_true_eq, Bool.not_eq_eq_eq_not, decide_eq_false_iff_not, ite_not, q_true, r_bind, r_iter, q_inB, q_nz, q_app, q_eq, q_bnd, q_str, w64', Option.bind_some, Option.bind_none, List.length_cons, List.length_nil, List.length_append, Nat.zero_add, if_pos, if_neg, decide_true, decide_false, if_true, if_false, Bool.not_true, Bool.not_false, Bool.false_eq_true, Bool.true_eq_false, not_true_eq_false, not_false_eq_true, reduceIte, List.nil_append, k_within, c1, e]
    · have e : agI a 1 = 2 := rgE_2 hb
      by_cases c1 : 0 ≤ a.2.1.1 ∧ a.2.1.1 ≤ a.2.1.2
      · by_cases c2 : (1000 : Int) < a.2.1.2
        · simp (maxSteps := 1000000) (disch := first | omega | assumption) only [r_ret, r_br, decide_eq_true_eq, Bool.not_eq_eq_eq_not, decide_eq_false_iff_not, ite_not, q_true, r_bind, r_iter, q_inB, q_nz, q_app, q_eq, q_bnd, q_str, w64', Option.bind_some, Option.bind_none, List.length_cons, List.length_nil, List.length_append, Nat.zero_add, if_pos, if_neg, decide_true, decide_false, if_true, if_false, Bool.not_true, Bool.not_false, Bool.false_eq_true, Bool.true_eq_false, not_true_eq_false, not_false_eq_true, reduceIte, List.nil_append, k_within, c1, c2, and_self, e]
        · exact absurd (show rgE a.2.1 = 0 from if_pos ⟨c1, by omega⟩) hb
      · simp (maxSteps := 1000000) (disch := first | omega | assumption) only [r_ret, r_br, decide_eq_true_eq, Bool.not_eq_eq_eq_not, decide_eq_false_iff_not, ite_not, q_true, r_bind, r_iter, q_inB, q_nz, q_app, q_eq, q_bnd, q_str, w64', Option.bind_some, Option.bind_none, List.length_cons, List.length_nil, List.length_append, Nat.zero_add, if_pos, if_neg, decide_true, decide_false, if_true, if_false, Bool.not_true, Bool.not_false, Bool.false_eq_true, Bool.true_eq_false, not_true_eq_false, not_false_eq_true, reduceIte, List.nil_append, k_within, c1, e]
    · have e : agI a 2 = 2 := rgE_2 hb
      by_cases c1 : 0 ≤ a.2.2.1.1 ∧ a.2.2.1.1 ≤ a.2.2.1.2
      · by_cases c2 : (1000 : Int) < a.2.2.1.2
        · simp (maxSteps := 1000000) (disch := first | omega | assumption) only [r_ret, r_br, decide_eq_true_eq, Bool.not_eq_eq_eq_not, decide_eq_false_iff_not, ite_not, q_true, r_bind, r_iter, q_inB, q_nz, q_app, q_eq, q_bnd, q_str, w64', Option.bind_some, Option.bind_none, List.length_cons, List.length_nil, List.length_append, Nat.zero_add, if_pos, if_neg, decide_true, decide_false, if_true, if_false, Bool.not_true, Bool.not_false, Bool.false_eq_true, Bool.true_eq_false, not_true_eq_false, not_false_eq_true, reduceIte, List.nil_append, k_within, c1, c2, and_self, e]
        · exact absurd (show rgE a.2.2.1 = 0 from if_pos ⟨c1, by omega⟩) hb
      · simp (maxSteps := 1000000) (disch := first | omega | assumption) only [r_ret, r_br, decide_eq_true_eq, Bool.not_eq_eq_eq_not, decide_eq_false_iff_not, ite_not, q_true, r_bind, r_iter, q_inB, q_nz, q_app, q_eq, q_bnd, q_str, w64', Option.bind_some, Option.bind_none, List.length_cons, List.length_nil, List.length_append, Nat.zero_add, if_pos, if_neg, decide_true, decide_false, if_true, if_false, Bool.not_true, Bool.not_false, Bool.false_eq_true, Bool.true_eq_false, not_true_eq_false, not_false_eq_true, reduceIte, List.nil_append, k_within, c1, e]
  · intro i hi hp hb
    have : i = 0 ∨ i = 1 ∨ i = 2 := by omega
    rcases this with rfl | rfl | rfl
    · have q : rgE a.1 = 0 := hb
      have := rgE_0 q
      have c1 : 0 ≤ a.1.1 ∧ a.1.1 ≤ a.1.2 := by omega
      simp (maxSteps := 1000000) (disch := first | omega | assumption) only [r_ret, r_br, decide_eq_true_eq, Bool.not_eq_eq_eq_not, decide_eq_false_iff_not, ite_not, q_true, r_bind, r_iter, q_inB, q_nz, q_app, q_eq, q_bnd, q_str, w64', Option.bind_some, Option.bind_none, List.length_cons, List.length_nil, List.length_append, Nat.zero_add, if_pos, if_neg, decide_true, decide_false, if_true, if_false, Bool.not_true, Bool.not_false, Bool.false_eq_true, Bool.true_eq_false, not_true_eq_false, not_false_eq_true, reduceIte, List.nil_append, k_within, c1, and_self]
      all_goals rfl
    · have q : rgE a.2.1 = 0 := hb
      have := rgE_0 q
      have c1 : 0 ≤ a.2.1.1 ∧ a.2.1.1 ≤ a.2.1.2 := by omega
      simp (maxSteps := 1000000) (disch := first | omega | assumption) only [r_ret, r_br, decide_eq_true_eq, Bool.not_eq_eq_eq_not, decide_eq_false_iff_not, ite_not, q_true, r_bind, r_iter, q_inB, q_nz, q_app, q_eq, q_bnd, q_str, w64', Option.bind_some, Option.bind_none, List.length_cons, List.length_nil, List.length_append, Nat.zero_add, if_pos, if_neg, decide_true, decide_false, if_true, if_false, Bool.not_true, Bool.not_false, Bool.false_eq_true, Bool.true_eq_false, not_true_eq_false, not_false_eq_true, reduceIte, List.nil_append, k_within, c1, and_self]
      all_goals rfl
    · have q : rgE a.2.2.1 = 0 := hb
      have := rgE_0 q
      have c1 : 0 ≤ a.2.2.1.1 ∧ a.2.2.1.1 ≤ a.2.2.1.2 := by omega
      simp (maxSteps := 1000000) (disch := first | omega | assumption) only [r_ret, r_br, decide_eq_true_eq, Bool.not_eq_eq_eq_not, decide_eq_false_iff_not, ite_not, q_true, r_bind, r_iter, q_inB, q_nz, q_app, q_eq, q_bnd, q_str, w64', Option.bind_some, Option.bind_none, List.length_cons, List.length_nil, List.length_append, Nat.zero_add, if_pos, if_neg, decide_true, decide_false, if_true, if_false, Bool.not_true, Bool.not_false, Bool.false_eq_true, Bool.true_eq_false, not_true_eq_false, not_false_eq_true, reduceIte, List.nil_append, k_within, c1, and_self]
      all_goals rfl
  · intro hp
    unfold wsE
    by_cases c1 : 0 ≤ a.2.2.2 ∧ a.2.2.2 ≤ 100
    · simp (maxSteps := 1000000) (disch := first | omega | assumption) only [r_ret, r_br, decide_eq_true_eq, Bool.not_eq_eq_eq_not, decide_eq_false_iff_not, ite_not, q_true, r_bind, r_iter, q_inB, q_nz, q_app, q_eq, q_bnd, q_str, w64', Option.bind_some, Option.bind_none, List.length_cons, List.length_nil, List.length_append, Nat.zero_add, if_pos, if_neg, decide_true, decide_false, if_true, if_false, Bool.not_true, Bool.not_false, Bool.false_eq_true, Bool.true_eq_false, not_true_eq_false, not_false_eq_true, reduceIte, List.nil_append, k_within, c1, and_self]
    · simp (maxSteps := 1000000) (disch := first | omega | assumption) only [r_ret, r_br, decide_eq_true_eq, Bool.not_eq_eq_eq_not, decide_eq_false_iff_not, ite_not, q_true, r_bind, r_iter, q_inB, q_nz, q_app, q_eq, q_bnd, q_str, w64', Option.bind_some, Option.bind_none, List.length_cons, List.length_nil, List.length_append, Nat.zero_add, if_pos, if_neg, decide_true, decide_false, if_true, if_false, Bool.not_true, Bool.not_false, Bool.false_eq_true, Bool.true_eq_false, not_true_eq_false, not_false_eq_true, reduceIte, List.nil_append, k_within, c1]
theorem k_rCheckAging (a : Ag) : ref08xCheckAging a = some ((agE a, ()), ()) := by
  simp only [ref08xCheckAging, T_ref08xCheckAging, agE]
  rw [r_iter]
  refine (iter_err (fun i => ((i : Int), ())) (agI a) 3 (by omega) (fun e => ((((if e = 0 then wsE a.2.2.2 else e) : Int), ()), ())) ?_ ?_ ?_)
  all_goals simp only [T_ref08xCheckAging_l0]
  · intro i hi hp hb
    have : i = 0 ∨ i = 1 ∨ i = 2 := by omega
    rcases this with rfl | rfl | rfl
    · have e : agI a 0 = 2 := rgE_2 hb
      by_cases c1 : 0 ≤ a.1.1 ∧ a.1.1 ≤ a.1.2
      · by_cases c2 : (1000 : Int) < a.1.2
        · simp (maxSteps := 1000000) (disch := first | omega | assumption) only [r_ret, r_br, decide_eq_true_eq, Bool.not_eq_eq_eq_not, decide_eq_false_iff_not, ite_not, q_true, r_bind, r_iter, q_inB, q_nz, q_app, q_eq, q_bnd, q_str, w64', Option.bind_some, Option.bind_none, List.length_cons, List.length_nil, List.length_append, Nat.zero_add, if_pos, if_neg, decide_true, decide_false, if_true, if_false, Bool.not_true, Bool.not_false, Bool.false_eq_true, Bool.true_eq_false, not_true_eq_false, not_false_eq_true, reduceIte, List.nil_append, k_Within, c1, c2, and_self, e]
        · exact absurd (show rgE a.1 = 0 from if_pos ⟨c1, by omega⟩) hb
      · simp (maxSteps := 1000000) (disch := first | omega | assumption) only [r_ret, r_br, decide_eq_true_eq, Bool.not_eq_eq_eq_not, decide_eq_false_iff_not, ite_not, q_true, r_bind, r_iter, q_inB, q_nz, q_app, q_eq, q_bnd, q_str, w64', Option.bind_some, Option.bind_none, List.length_cons, List.length_nil, List.length_append, Nat.zero_add, if_pos, if_neg, decide_true, decide_false, if_true, if_false, Bool.not_true, Bool.not_false, Bool.false_eq_true, Bool.true_eq_false, not_true_eq_false, not_false_eq_true, reduceIte, List.nil_append, k_Within, c1, e]
    · have e : agI a 1 = 2 := rgE_2 hb
      by_cases c1 : 0 ≤ a.2.1.1 ∧ a.2.1.1 ≤ a.2.1.2
      · by_cases c2 : (1000 : Int) < a.2.1.2
        · simp (maxSteps := 1000000) (disch := first | omega | assumption) only [r_ret, r_br, decide_eq_true_eq, Bool.not_eq_eq_eq_not, decide_eq_false_iff_not, ite_not, q_true, r_bind, r_iter, q_inB, q_nz, q_app, q_eq, q_bnd, q_str, w64', Option.bind_some, Option.bind_none, List.length_cons, List.length_nil, List.length_append, Nat.zero_add, if_pos, if_neg, decide_true, decide_false, if_true, if_false, Bool.not_true, Bool.not_false, Bool.false_eq_true, Bool.true_eq_false, not_true_eq_false, not_false_eq_true, reduceIte, List.nil_append, k_Within, c1, c2, and_self, e]
        · exact absurd (show rgE a.2.1 = 0 from if_pos ⟨c1, by omega⟩) hb
      · simp (maxSteps := 1000000) (disch := first | omega | assumption) only [r_ret, r_br, decide_eq_true_eq, Bool.not_eq_eq_eq_not, decide_eq_false_iff_not, ite_not, q_true, r_bind, r_iter, q_inB, q_nz, q_app, q_eq, q_bnd, q_str, w64', Option.bind_some, Option.bind_none, List.length_cons, List.length_nil, List.length_append, Nat.zero_add, if_pos, if_neg, decide_true, decide_false, if_true, if_false, Bool.not_true, Bool.not_false, Bool.false_eq_true, Bool.true_eq_false, not_true_eq_false, not_false_eq_true, reduceIte, List.nil_append, k_Within, c1, e]
    · have e : agI a 2 = 2 := rgE_2 hb
      by_cases c1 : 0 ≤ a.2.2.1.1 ∧ a.2.2.1.1 ≤ a.2.2.1.2
      · by_cases c2 : (1000 : Int) < a.2.2.1.2
        · simp (maxSteps := 1000000) (disch := first | omega | assumption) only [r_ret, r_br, decide_eq_true_eq, Bool.not_eq_eq_eq_not, decide_eq_false_iff_not, ite_not, q_true, r_bind, r_iter, q_inB, q_nz, q_app, q_eq, q_bnd, q_str, w64', Option.bind_some, Option.bind_none, List.length_cons, List.length_nil, List.length_append, Nat.zero_add, if_pos, if_neg, decide_true, decide_false, if_true, if_false, Bool.not_true, Bool.not_false, Bool.false_eq_true, Bool.true_eq_false, not_true_eq_false, not_false_eq_true, reduceIte, List.nil_append, k_Within, c1, c2, and_self, e]
        · exact absurd (show rgE a.2.2.1 = 0 from if_pos ⟨c1, by omega⟩) hb
      · simp (maxSteps := 1000000) (disch := first | omega | assumption) only [r_ret, r_br, decide_eq_true_eq, Bool.not_eq_eq_eq_not, decide_eq_false_iff_not, ite_not, q_true, r_bind, r_iter, q_inB, q_nz, q_app, q_eq, q_bnd, q_str, w64', Option.bind_some, Option.bind_none, List.length_cons, List.length_nil, List.length_append, Nat.zero_add, if_pos, if_neg, decide_true, decide_false, if_true, if_false, Bool.not_true, Bool.not_false, Bool.false_eq_true, Bool.true_eq_false, not_true_eq_false, not_false_eq_true, reduceIte, List.nil_append, k_Within, c1, e]
  · intro i hi hp hb
    have : i = 0 ∨ i = 1 ∨ i = 2 := by omega
    rcases this with rfl | rfl | rfl
    · have q : rgE a.1 = 0 := hb
      have := rgE_0 q
      have c1 : 0 ≤ a.1.1 ∧ a.1.1 ≤ a.1.2 := by omega
      simp (maxSteps := 1000000) (disch := first | omega | assumption) only [r_ret, r_br, decide_eq_true_eq, Bool.not_eq_eq_eq_not, decide_eq_false_iff_not, ite_not, q_true, r_bind, r_iter, q_inB, q_nz, q_app, q_eq, q_bnd, q_str, w64', Option.bind_some, Option.bind_none, List.length_cons, List.length_nil, List.length_append, Nat.zero_add, if_pos, if_neg, decide_true, decide_false, if_true, if_false, Bool.not_true, Bool.not_false, Bool.false_eq_true, Bool.true_eq_false, not_true_eq_false, not_false_eq_true, reduceIte, List.nil_append, k_Within, c1, and_self]
      all_goals rfl
    · have q : rgE a.2.1 = 0 := hb
      have := rgE_0 q
      have c1 : 0 ≤ a.2.1.1 ∧ a.2.1.1 ≤ a.2.1.2 := by omega
      simp (maxSteps := 1000000) (disch := first | omega | assumption) only [r_ret, r_br, decide_eq_true_eq, Bool.not_eq_eq_eq_not, decide_eq_false_iff_not, ite_not, q_true, r_bind, r_iter, q_inB, q_nz, q_app, q_eq, q_bnd, q_str, w64', Option.bind_some, Option.bind_none, List.length_cons, List.length_nil, List.length_append, Nat.zero_add, if_pos, if_neg, decide_true, decide_false, if_true, if_false, Bool.not_true, Bool.not_false, Bool.false_eq_true, Bool.true_eq_false, not_true_eq_false, not_false_eq_true, reduceIte, List.nil_append, k_Within, c1, and_self]
      all_goals rfl
    · have q : rgE a.2.2.1 = 0 := hb
      have := rgE_0 q
      have c1 : 0 ≤ a.2.2.1.1 ∧ a.2.2.1.1 ≤ a.2.2.1.2 := by omega
      simp (maxSteps := 1000000) (disch := first | omega | assumption) only [r_ret, r_br, decide_eq_true_eq, Bool.not_eq_eq_eq_not, decide_eq_false_iff_not, ite_not, q_true, r_bind, r_iter, q_inB, q_nz, q_app, q_eq, q_bnd, q_str, w64', Option.bind_some, Option.bind_none, List.length_cons, List.length_nil, List.length_append, Nat.zero_add, if_pos, if_neg, decide_true, decide_false, if_true, if_false, Bool.not_true, Bool.not_false, Bool.false_eq_true, Bool.true_eq_false, not_true_eq_false, not_false_eq_true, reduceIte, List.nil_append, k_Within, c1, and_self]
      all_goals rfl
  · intro hp
    unfold wsE
    by_cases c1 : 0 ≤ a.2.2.2 ∧ a.2.2.2 ≤ 100
    · simp (maxSteps := 1000000) (disch := first | omega | assumption) only [r_ret, r_br, decide_eq_true_eq, Bool.not_eq_eq_eq_not, decide_eq_false_iff_not, ite_not, q_true, r_bind, r_iter, q_inB, q_nz, q_app, q_eq, q_bnd, q_str, w64', Option.bind_some, Option.bind_none, List.length_cons, List.length_nil, List.length_append, Nat.zero_add, if_pos, if_neg, decide_true, decide_false, if_true, if_false, Bool.not_true, Bool.not_false, Bool.false_eq_true, Bool.true_eq_false, not_true_eq_false, not_false_eq_true, reduceIte, List.nil_append, k_Within, c1, and_self]
    · simp (maxSteps := 1000000) (disch := first | omega | assumption) only [r_ret, r_br, decide_eq_true_eq, Bool.not_eq_eq_eq_not, decide_eq_false_iff_not, ite_not, q_true, r_bind, r_iter, q_inB, q_nz, q_app, q_eq, q_bnd, q_str, w64', Option.bind_some, Option.bind_none, List.length_cons, List.length_nil, List.length_append, Nat.zero_add, if_pos, if_neg, decide_true, decide_false, if_true, if_false, Bool.not_true, Bool.not_false, Bool.false_eq_true, Bool.true_eq_false, not_true_eq_false, not_false_eq_true, reduceIte, List.nil_append, k_Within, c1]

/-! ### Events -/

def evE (x : Ev) : Int := if isNm x.1 then (if 0 ≤ x.2.1 ∧ x.2.1 ≤ 100000 then (if 0 ≤ x.2.2 ∧ x.2.2 ≤ 2 then 0 else 15) else 2) else 4
theorem k_isDay (n : Int) : coat_isDay n = some ((decide (0 ≤ n ∧ n ≤ 100000), ()), ()) := by
  simp only [coat_isDay, T_coat_isDay]
  simp (maxSteps := 1000000) (disch := first | omega | assumption) only [r_ret, r_br, decide_eq_true_eq, Bool.not_eq_eq_eq_not, decide_eq_false_iff_not, ite_not, q_true, r_bind, r_iter, q_inB, q_nz, q_app, q_eq, q_bnd, q_str, w64', Option.bind_some, Option.bind_none, List.length_cons, List.length_nil, List.length_append, Nat.zero_add, if_pos, if_neg, decide_true, decide_false, if_true, if_false, Bool.not_true, Bool.not_false, Bool.false_eq_true, Bool.true_eq_false, not_true_eq_false, not_false_eq_true, reduceIte, List.nil_append, k_within]
theorem k_checkEvent {x : Ev} (hl : x.1.length ≤ 1048576) : coat_checkEvent x = some ((evE x, ()), ()) := by
  simp only [coat_checkEvent, T_coat_checkEvent, evE]
  by_cases c1 : isNm x.1
  · by_cases c2 : 0 ≤ x.2.1 ∧ x.2.1 ≤ 100000
    · by_cases c3 : 0 ≤ x.2.2 ∧ x.2.2 ≤ 2
      · simp (maxSteps := 1000000) (disch := first | omega | assumption) only [r_ret, r_br, decide_eq_true_eq, Bool.not_eq_eq_eq_not, decide_eq_false_iff_not, ite_not, q_true, r_bind, r_iter, q_inB, q_nz, q_app, q_eq, q_bnd, q_str, w64', Option.bind_some, Option.bind_none, List.length_cons, List.length_nil, List.length_append, Nat.zero_add, if_pos, if_neg, decide_true, decide_false, if_true, if_false, Bool.not_true, Bool.not_false, Bool.false_eq_true, Bool.true_eq_false, not_true_eq_false, not_false_eq_true, reduceIte, List.nil_append, k_isName, c1, k_isDay, c2, k_within, c3, and_self]
      · simp (maxSteps := 1000000) (disch := first | omega | assumption) only [r_ret, r_br, decide_eq_true_eq, Bool.not_eq_eq_eq_not, decide_eq_false_iff_not, ite_not, q_true, r_bind, r_iter, q_inB, q_nz, q_app, q_eq, q_bnd, q_str, w64', Option.bind_some, Option.bind_none, List.length_cons, List.length_nil, List.length_append, Nat.zero_add, if_pos, if_neg, decide_true, decide_false, if_true, if_false, Bool.not_true, Bool.not_false, Bool.false_eq_true, Bool.true_eq_false, not_true_eq_false, not_false_eq_true, reduceIte, List.nil_append, k_isName, c1, k_isDay, c2, k_within, c3, and_self]
    · simp (maxSteps := 1000000) (disch := first | omega | assumption) only [r_ret, r_br, decide_eq_true_eq, Bool.not_eq_eq_eq_not, decide_eq_false_iff_not, ite_not, q_true, r_bind, r_iter, q_inB, q_nz, q_app, q_eq, q_bnd, q_str, w64', Option.bind_some, Option.bind_none, List.length_cons, List.length_nil, List.length_append, Nat.zero_add, if_pos, if_neg, decide_true, decide_false, if_true, if_false, Bool.not_true, Bool.not_false, Bool.false_eq_true, Bool.true_eq_false, not_true_eq_false, not_false_eq_true, reduceIte, List.nil_append, k_isName, c1, k_isDay, c2]
  · simp (maxSteps := 1000000) (disch := first | omega | assumption) only [r_ret, r_br, decide_eq_true_eq, Bool.not_eq_eq_eq_not, decide_eq_false_iff_not, ite_not, q_true, r_bind, r_iter, q_inB, q_nz, q_app, q_eq, q_bnd, q_str, w64', Option.bind_some, Option.bind_none, List.length_cons, List.length_nil, List.length_append, Nat.zero_add, if_pos, if_neg, decide_true, decide_false, if_true, if_false, Bool.not_true, Bool.not_false, Bool.false_eq_true, Bool.true_eq_false, not_true_eq_false, not_false_eq_true, reduceIte, List.nil_append, k_isName, c1]
theorem k_rCheckEvent {x : Ev} (hl : x.1.length ≤ 1048576) : ref08xCheckEvent x = some ((evE x, ()), ()) := by
  simp only [ref08xCheckEvent, T_ref08xCheckEvent, evE]
  by_cases c1 : isNm x.1
  · by_cases c2 : 0 ≤ x.2.1 ∧ x.2.1 ≤ 100000
    · by_cases c3 : 0 ≤ x.2.2 ∧ x.2.2 ≤ 2
      · simp (maxSteps := 1000000) (disch := first | omega | assumption) only [r_ret, r_br, decide_eq_true_eq, Bool.not_eq_eq_eq_not, decide_eq_false_iff_not, ite_not, q_true, r_bind, r_iter, q_inB, q_nz, q_app, q_eq, q_bnd, q_str, w64', Option.bind_some, Option.bind_none, List.length_cons, List.length_nil, List.length_append, Nat.zero_add, if_pos, if_neg, decide_true, decide_false, if_true, if_false, Bool.not_true, Bool.not_false, Bool.false_eq_true, Bool.true_eq_false, not_true_eq_false, not_false_eq_true, reduceIte, List.nil_append, k_IsName, c1, k_Within, c2, c3, and_self]
      · simp (maxSteps := 1000000) (disch := first | omega | assumption) only [r_ret, r_br, decide_eq_true_eq, Bool.not_eq_eq_eq_not, decide_eq_false_iff_not, ite_not, q_true, r_bind, r_iter, q_inB, q_nz, q_app, q_eq, q_bnd, q_str, w64', Option.bind_some, Option.bind_none, List.length_cons, List.length_nil, List.length_append, Nat.zero_add, if_pos, if_neg, decide_true, decide_false, if_true, if_false, Bool.not_true, Bool.not_false, Bool.false_eq_true, Bool.true_eq_false, not_true_eq_false, not_false_eq_true, reduceIte, List.nil_append, k_IsName, c1, k_Within, c2, c3, and_self]
    · simp (maxSteps := 1000000) (disch := first | omega | assumption) only [r_ret, r_br, decide_eq_true_eq, Bool.not_eq_eq_eq_not, decide_eq_false_iff_not, ite_not, q_true, r_bind, r_iter, q_inB, q_nz, q_app, q_eq, q_bnd, q_str, w64', Option.bind_some, Option.bind_none, List.length_cons, List.length_nil, List.length_append, Nat.zero_add, if_pos, if_neg, decide_true, decide_false, if_true, if_false, Bool.not_true, Bool.not_false, Bool.false_eq_true, Bool.true_eq_false, not_true_eq_false, not_false_eq_true, reduceIte, List.nil_append, k_IsName, c1, k_Within, c2]
  · simp (maxSteps := 1000000) (disch := first | omega | assumption) only [r_ret, r_br, decide_eq_true_eq, Bool.not_eq_eq_eq_not, decide_eq_false_iff_not, ite_not, q_true, r_bind, r_iter, q_inB, q_nz, q_app, q_eq, q_bnd, q_str, w64', Option.bind_some, Option.bind_none, List.length_cons, List.length_nil, List.length_append, Nat.zero_add, if_pos, if_neg, decide_true, decide_false, if_true, if_false, Bool.not_true, Bool.not_false, Bool.false_eq_true, Bool.true_eq_false, not_true_eq_false, not_false_eq_true, reduceIte, List.nil_append, k_IsName, c1]
theorem evE_0 {x : Ev} (h : evE x = 0) : (0 ≤ x.2.1 ∧ x.2.1 ≤ 100000) ∧ (x.2.2 = 0 ∨ x.2.2 = 1 ∨ x.2.2 = 2) := by
  unfold evE at h
  split at h
  · split at h
    · split at h
      · omega
      · cases h
    · cases h
  · cases h

/-! ### Films -/

def agd (a : Ag) (r : Int × Int) (d : Int) : Int × Int := (max 0 (r.1 - cdiv (a.2.1.2 * d) 1000), max 0 (r.2 - a.2.1.1 * d / 1000))
def stp (a : Ag) (s : Sf) (x : Ev) : Sf :=
  if x.2.2 = 0 then (true, 0, x.2.1, a.1)
  else if x.2.2 = 1 then (s.1, s.2.1 + 1, x.2.1, (min a.1.1 ((agd a s.2.2.2 (x.2.1 - s.2.2.1)).1 + a.2.2.1.1), min a.1.2 ((agd a s.2.2.2 (x.2.1 - s.2.2.1)).2 + a.2.2.1.2)))
  else (false, s.2)
def posE (w : Int) (s : Sf) (kind : Int) : Int := if s.1 = decide (kind = 0) then 24 else if kind = 1 ∧ w ≤ s.2.1 then 16 else 0
def sf0 : Sf := (false, 0, 0, 0, 0)
def flm (a : Ag) (l : List Ev) : Nat → Sf
  | 0 => sf0
  | i + 1 => stp a (flm a l i) (gi l (i : Int))
def thn (a : Ag) (l : List Ev) (day : Int) : Nat → Sf
  | 0 => sf0
  | i + 1 => if (gi l (i : Int)).2.1 ≤ day then flm a l (i + 1) else thn a l day i
/-- The bounds of a film. -/
def SfOk (a : Ag) (s : Sf) : Prop := (0 ≤ s.2.1 ∧ s.2.1 ≤ a.2.2.2) ∧ (0 ≤ s.2.2.1 ∧ s.2.2.1 ≤ 100000) ∧ (0 ≤ s.2.2.2.1 ∧ s.2.2.2.1 ≤ s.2.2.2.2 ∧ s.2.2.2.2 ≤ 1000)

theorem mul_rg {x d : Int} (h : 0 ≤ x ∧ x ≤ 1000) (hd : -100000 ≤ d ∧ d ≤ 100000) : -100000000 ≤ x * d ∧ x * d ≤ 100000000 := by
  rcases Int.le_total 0 d with h2 | h2
  · have := Int.mul_le_mul h.2 hd.2 h2 (by omega)
    have := Int.mul_nonneg h.1 h2
    omega
  · have := Int.mul_le_mul h.2 (b := -d) (d := 100000) (by omega) (by omega) (by omega)
    have := Int.mul_nonneg h.1 (b := -d) (by omega)
    rw [Int.mul_neg] at *
    omega
theorem cdiv_bd {a b m : Int} (hb : 0 < b) (h : -m ≤ a) (h2 : a ≤ m) (hm : 0 ≤ m) : -m ≤ cdiv a b ∧ cdiv a b ≤ m := by
  have := fdiv_bd (a := 0 - a) hb (m := m) (by omega) (by omega) hm
  unfold cdiv; omega
theorem agd_bd {a : Ag} (ha : agE a = 0) {r : Int × Int} (hr : 0 ≤ r.1 ∧ r.1 ≤ r.2 ∧ r.2 ≤ 1000) {d : Int} (hd : -100000 ≤ d ∧ d ≤ 100000) :
    (-100000000 ≤ a.2.1.2 * d ∧ a.2.1.2 * d ≤ 100000000) ∧ (-100000000 ≤ a.2.1.1 * d ∧ a.2.1.1 * d ≤ 100000000) ∧ (-100000000 ≤ cdiv (a.2.1.2 * d) 1000 ∧ cdiv (a.2.1.2 * d) 1000 ≤ 100000000) ∧ (-100000000 ≤ a.2.1.1 * d / 1000 ∧ a.2.1.1 * d / 1000 ≤ 100000000) := by
  obtain ⟨-, h, -, -⟩ := agE_0 ha
  have m1 := mul_rg (x := a.2.1.2) (d := d) (by omega) hd
  have m2 := mul_rg (x := a.2.1.1) (d := d) (by omega) hd
  exact ⟨m1, m2, cdiv_bd (by omega) m1.1 m1.2 (by omega), fdiv_bd (by omega) m2.1 m2.2 (by omega)⟩
/-- What days take is at least as much at the greater loss. -/
theorem agd_rg {a : Ag} (ha : agE a = 0) {r : Int × Int} (hr : 0 ≤ r.1 ∧ r.1 ≤ r.2 ∧ r.2 ≤ 1000) {d : Int} (hd : 0 ≤ d) : 0 ≤ (agd a r d).1 ∧ (agd a r d).1 ≤ (agd a r d).2 ∧ (agd a r d).2 ≤ r.2 := by
  obtain ⟨-, h, -, -⟩ := agE_0 ha
  have m1 : a.2.1.1 * d ≤ a.2.1.2 * d := Int.mul_le_mul_of_nonneg_right h.2.1 hd
  have m2 : 0 ≤ a.2.1.1 * d := Int.mul_nonneg h.1 hd
  unfold agd cdiv
  generalize a.2.1.1 * d = u at *
  generalize a.2.1.2 * d = v at *
  simp only
  omega

theorem k_film_on {a : Ag} {s : Sf} {day : Int} (ha : agE a = 0) (hs : SfOk a s) (hd : 0 ≤ day ∧ day ≤ 100000) : coat_film_on day (a, s) = some ((agd a s.2.2.2 (day - s.2.2.1), ()), ((a, s), ())) := by
  obtain ⟨h1, h2, h3⟩ := hs
  obtain ⟨m1, m2, m3, m4⟩ := agd_bd ha h3 (d := day - s.2.2.1) (by omega)
  simp only [coat_film_on, T_coat_film_on, agd]
  simp (maxSteps := 1000000) (disch := first | omega | assumption) only [r_ret, r_br, decide_eq_true_eq, Bool.not_eq_eq_eq_not, decide_eq_false_iff_not, ite_not, q_true, r_bind, r_iter, q_inB, q_nz, q_app, q_eq, q_bnd, q_str, w64', Option.bind_some, Option.bind_none, List.length_cons, List.length_nil, List.length_append, Nat.zero_add, if_pos, if_neg, decide_true, decide_false, if_true, if_false, Bool.not_true, Bool.not_false, Bool.false_eq_true, Bool.true_eq_false, not_true_eq_false, not_false_eq_true, reduceIte, List.nil_append, k_ceil, k_floor]
  all_goals rfl
theorem k_possible (a : Ag) (s : Sf) (kind : Int) : coat_film_possible kind (a, s) = some ((posE a.2.2.2 s kind, ()), ((a, s), ())) := by
  simp only [coat_film_possible, T_coat_film_possible, posE]
  generalize decide (kind = 0) = k
  by_cases c1 : s.1 = k
  · have c1' : (s.1 == k) = true := by simpa using c1
    rw [if_pos c1]
    simp (maxSteps := 1000000) (disch := first | omega | assumption) only [r_ret, r_br, decide_eq_true_eq, Bool.not_eq_eq_eq_not, decide_eq_false_iff_not, ite_not, q_true, r_bind, r_iter, q_inB, q_nz, q_app, q_eq, q_bnd, q_str, w64', Option.bind_some, Option.bind_none, List.length_cons, List.length_nil, List.length_append, Nat.zero_add, if_pos, if_neg, decide_true, decide_false, if_true, if_false, Bool.not_true, Bool.not_false, Bool.false_eq_true, Bool.true_eq_false, not_true_eq_false, not_false_eq_true, reduceIte, List.nil_append, c1']
    all_goals rfl
  · have c1' : (s.1 == k) = false := by simpa using c1
    rw [if_neg c1]
    by_cases c2 : kind = 1
    · by_cases c3 : a.2.2.2 ≤ s.2.1
      · rw [if_pos ⟨c2, c3⟩]
        simp (maxSteps := 1000000) (disch := first | omega | assumption) only [r_ret, r_br, decide_eq_true_eq, Bool.not_eq_eq_eq_not, decide_eq_false_iff_not, ite_not, q_true, r_bind, r_iter, q_inB, q_nz, q_app, q_eq, q_bnd, q_str, w64', Option.bind_some, Option.bind_none, List.length_cons, List.length_nil, List.length_append, Nat.zero_add, if_pos, if_neg, decide_true, decide_false, if_true, if_false, Bool.not_true, Bool.not_false, Bool.false_eq_true, Bool.true_eq_false, not_true_eq_false, not_false_eq_true, reduceIte, List.nil_append, c1', c2, c3]
        all_goals rfl
      · rw [if_neg (fun h => c3 h.2)]
        simp (maxSteps := 1000000) (disch := first | omega | assumption) only [r_ret, r_br, decide_eq_true_eq, Bool.not_eq_eq_eq_not, decide_eq_false_iff_not, ite_not, q_true, r_bind, r_iter, q_inB, q_nz, q_app, q_eq, q_bnd, q_str, w64', Option.bind_some, Option.bind_none, List.length_cons, List.length_nil, List.length_append, Nat.zero_add, if_pos, if_neg, decide_true, decide_false, if_true, if_false, Bool.not_true, Bool.not_false, Bool.false_eq_true, Bool.true_eq_false, not_true_eq_false, not_false_eq_true, reduceIte, List.nil_append, c1', c2, c3]
        all_goals rfl
    · rw [if_neg (fun h => c2 h.1)]
      simp (maxSteps := 1000000) (disch := first | omega | assumption) only [r_ret, r_br, decide_eq_true_eq, Bool.not_eq_eq_eq_not, decide_eq_false_iff_not, ite_not, q_true, r_bind, r_iter, q_inB, q_nz, q_app, q_eq, q_bnd, q_str, w64', Option.bind_some, Option.bind_none, List.length_cons, List.length_nil, List.length_append, Nat.zero_add, if_pos, if_neg, decide_true, decide_false, if_true, if_false, Bool.not_true, Bool.not_false, Bool.false_eq_true, Bool.true_eq_false, not_true_eq_false, not_false_eq_true, reduceIte, List.nil_append, c1', c2]
      all_goals rfl
theorem k_take {a : Ag} {s : Sf} {x : Ev} (ha : agE a = 0) (hs : SfOk a s) (hx : 0 ≤ x.2.1 ∧ x.2.1 ≤ 100000) : coat_film_take x (a, s) = some ((), ((a, stp a s x), ())) := by
  have hon := k_film_on ha hs hx
  obtain ⟨g1, -, g3, g4⟩ := agE_0 ha
  have hs' := hs
  obtain ⟨h1, h2, h3⟩ := hs'
  obtain ⟨m1, m2, m3, m4⟩ := agd_bd ha h3 (d := x.2.1 - s.2.2.1) (by omega)
  simp only [coat_film_take, T_coat_film_take, stp]
  by_cases c1 : x.2.2 = 0
  · simp (maxSteps := 1000000) (disch := first | omega | assumption) only [r_ret, r_br, decide_eq_true_eq, Bool.not_eq_eq_eq_not, decide_eq_false_iff_not, ite_not, q_true, r_bind, r_iter, q_inB, q_nz, q_app, q_eq, q_bnd, q_str, w64', Option.bind_some, Option.bind_none, List.length_cons, List.length_nil, List.length_append, Nat.zero_add, if_pos, if_neg, decide_true, decide_false, if_true, if_false, Bool.not_true, Bool.not_false, Bool.false_eq_true, Bool.true_eq_false, not_true_eq_false, not_false_eq_true, reduceIte, List.nil_append, c1]
    all_goals rfl
  · by_cases c2 : x.2.2 = 1
    · have b1 : 0 ≤ (agd a s.2.2.2 (x.2.1 - s.2.2.1)).1 ∧ (agd a s.2.2.2 (x.2.1 - s.2.2.1)).1 ≤ 1000000000 := by simp only [agd]; omega
      have b2 : 0 ≤ (agd a s.2.2.2 (x.2.1 - s.2.2.1)).2 ∧ (agd a s.2.2.2 (x.2.1 - s.2.2.1)).2 ≤ 1000000000 := by simp only [agd]; omega
      clear m1 m2 m3 m4
      generalize agd a s.2.2.2 (x.2.1 - s.2.2.1) = r at *
      simp (maxSteps := 1000000) (disch := first | omega | assumption) only [r_ret, r_br, decide_eq_true_eq, Bool.not_eq_eq_eq_not, decide_eq_false_iff_not, ite_not, q_true, r_bind, r_iter, q_inB, q_nz, q_app, q_eq, q_bnd, q_str, w64', Option.bind_some, Option.bind_none, List.length_cons, List.length_nil, List.length_append, Nat.zero_add, if_pos, if_neg, decide_true, decide_false, if_true, if_false, Bool.not_true, Bool.not_false, Bool.false_eq_true, Bool.true_eq_false, not_true_eq_false, not_false_eq_true, reduceIte, List.nil_append, c1, c2, hon]
      all_goals rfl
    · simp (maxSteps := 1000000) (disch := first | omega | assumption) only [r_ret, r_br, decide_eq_true_eq, Bool.not_eq_eq_eq_not, decide_eq_false_iff_not, ite_not, q_true, r_bind, r_iter, q_inB, q_nz, q_app, q_eq, q_bnd, q_str, w64', Option.bind_some, Option.bind_none, List.length_cons, List.length_nil, List.length_append, Nat.zero_add, if_pos, if_neg, decide_true, decide_false, if_true, if_false, Bool.not_true, Bool.not_false, Bool.false_eq_true, Bool.true_eq_false, not_true_eq_false, not_false_eq_true, reduceIte, List.nil_append, c1, c2]
      all_goals rfl

/-! ### Right histories -/

def hsE (a : Ag) (l : List Ev) (i : Nat) : Int :=
  if evE (gi l (i : Int)) = 0 then
    (if (gi l (i : Int)).1 = (gi l (0 : Int)).1 then
      (if 0 < i ∧ (gi l (i : Int)).2.1 < (gi l ((i : Int) - 1)).2.1 then 9 else posE a.2.2.2 (flm a l i) (gi l (i : Int)).2.2)
    else 13)
  else evE (gi l (i : Int))
def hisE (a : Ag) (l : List Ev) : Int := if (40 : Int) < l.length then 8 else firstErr (hsE a l) l.length
def hisI (a : Ag) (l : List Ev) : Int := if (40 : Int) < l.length then 0 else firstIx (hsE a l) l.length
abbrev EvOk (l : List Ev) : Prop := ∀ i : Nat, i < l.length → (gi l (i : Int)).1.length ≤ 1048576

theorem hsE_0 {a : Ag} {l : List Ev} {i : Nat} (h : hsE a l i = 0) : evE (gi l (i : Int)) = 0 ∧ (gi l (i : Int)).1 = (gi l (0 : Int)).1 ∧ (0 < i → (gi l ((i : Int) - 1)).2.1 ≤ (gi l (i : Int)).2.1) ∧ posE a.2.2.2 (flm a l i) (gi l (i : Int)).2.2 = 0 := by
  unfold hsE at h
  split at h
  · split at h
    · split at h
      · cases h
      · refine ⟨‹_›, ‹_›, by omega, h⟩
    · cases h
  · contradiction
theorem posE_0 {w kind : Int} {s : Sf} (h : posE w s kind = 0) : s.1 ≠ decide (kind = 0) ∧ (kind = 1 → s.2.1 < w) := by
  unfold posE at h
  split at h
  · cases h
  · split at h
    · cases h
    · exact ⟨‹_›, by omega⟩
theorem flm_day {a : Ag} {l : List Ev} : ∀ {i : Nat}, (∀ j, j < i → hsE a l j = 0) → 0 < i → (flm a l i).2.2.1 ≤ (gi l ((i : Int) - 1)).2.1
  | 0, _, h => by omega
  | i + 1, hp, _ => by
    obtain ⟨h1, h2, h3, h4⟩ := hsE_0 (hp i (by omega))
    obtain ⟨e1, e2⟩ := evE_0 h1
    rw [show ((i + 1 : Nat) : Int) - 1 = (i : Int) by omega]
    have ih := flm_day (i := i) (fun j hj => hp j (by omega))
    simp only [flm, stp]
    rcases e2 with e | e | e
    · rw [if_pos e]; exact Int.le_refl _
    · rw [if_neg (by omega), if_pos e]; exact Int.le_refl _
    · rw [if_neg (by omega), if_neg (by omega)]
      by_cases q : 0 < i
      · exact Int.le_trans (ih q) (h3 q)
      · have : i = 0 := by omega
        subst this
        simp only [flm, sf0]; omega
theorem flm_ok {a : Ag} {l : List Ev} (ha : agE a = 0) : ∀ i : Nat, (∀ j, j < i → hsE a l j = 0) → SfOk a (flm a l i)
  | 0, _ => by
    obtain ⟨-, -, -, h⟩ := agE_0 ha
    simp only [flm, sf0, SfOk]; omega
  | i + 1, hp => by
    have hp' : ∀ j, j < i → hsE a l j = 0 := fun j hj => hp j (by omega)
    have hs := flm_ok ha i hp'
    obtain ⟨h1, h2, h3, h4⟩ := hsE_0 (hp i (by omega))
    obtain ⟨e1, e2⟩ := evE_0 h1
    obtain ⟨p1, p2⟩ := posE_0 h4
    obtain ⟨g1, g2, g3, g4⟩ := agE_0 ha
    have hd : (flm a l i).2.2.1 ≤ (gi l (i : Int)).2.1 := by
      by_cases q : 0 < i
      · exact Int.le_trans (flm_day hp' q) (h3 q)
      · have : i = 0 := by omega
        subst this
        simp only [flm, sf0]; exact e1.1
    have hs' := hs
    obtain ⟨s1, s2, s3⟩ := hs'
    have ag := agd_rg ha s3 (d := (gi l (i : Int)).2.1 - (flm a l i).2.2.1) (by omega)
    simp only [flm, stp]
    rcases e2 with e | e | e
    · rw [if_pos e]; simp only [SfOk]; omega
    · rw [if_neg (by omega), if_pos e]
      have := p2 e
      simp only [SfOk]
      generalize agd a (flm a l i).2.2.2 ((gi l (i : Int)).2.1 - (flm a l i).2.2.1) = r at *
      omega
    · rw [if_neg (by omega), if_neg (by omega)]; exact hs
end Go.Ab
end

section
namespace Go.Ab
open Go
set_option maxRecDepth 1000000
set_option maxHeartbeats 1000000
set_option linter.unusedVariables false
set_option linter.unusedSimpArgs false
attribute [local congr] bindC iterC

abbrev fmD : Ag × Sf := ((((Ty.int IntKind.i64).pair (Ty.int IntKind.i64)).pair (((Ty.int IntKind.i64).pair (Ty.int IntKind.i64)).pair (((Ty.int IntKind.i64).pair (Ty.int IntKind.i64)).pair (Ty.int IntKind.i64)))).pair (Ty.bool.pair ((Ty.int IntKind.i64).pair ((Ty.int IntKind.i64).pair ((Ty.int IntKind.i64).pair (Ty.int IntKind.i64)))))).d

def folE (a : Ag) (l : List Ev) : Int := if agE a = 0 then hisE a l else agE a
def folI (a : Ag) (l : List Ev) : Int := if agE a = 0 then hisI a l else 0
def folV (a : Ag) (l : List Ev) (day : Int) : Ag × Sf := if folE a l = 0 then (a, thn a l day l.length) else fmD

theorem k_follow_loop {a : Ag} {l : List Ev} (ha : agE a = 0) (h40 : ¬ (40 : Int) < l.length) (hw : EvOk l) (day : Int) :
    iterF (fun y : Int × (Ag × Sf) × (Ag × Sf) × Unit => (T_coat_follow_l1 l day y.1 y.2.1 y.2.2.1).run) FUEL (0, (a, sf0), (a, sf0), ()) = some (((decide (firstErr (hsE a l) l.length = 0), if firstErr (hsE a l) l.length = 0 then (a, thn a l day l.length) else fmD), (firstIx (hsE a l) l.length, (firstErr (hsE a l) l.length, ()))), ()) := by
  refine iter_errI (fun i => ((i : Int), (a, flm a l i), (a, thn a l day i), ())) (hsE a l) l.length (by omega) (fun i e => (((decide (e = 0), if e = 0 then (a, thn a l day l.length) else fmD), (i, (e, ()))), ())) ?_ ?_ ?_
  all_goals simp only [T_coat_follow_l1]
  · intro i hi hp hb
    have hc := k_checkEvent (hw i hi)
    have hpo := k_possible a (flm a l i) (gi l (i : Int)).2.2
    have hg : 0 < i → ((i : Int) - 1) = ((i - 1 : Nat) : Int) := by omega
    unfold hsE at hb ⊢
    by_cases c1 : evE (gi l (i : Int)) = 0
    · rw [if_pos c1] at hb ⊢
      by_cases c2 : (gi l (i : Int)).1 = (gi l (0 : Int)).1
      · rw [if_pos c2] at hb ⊢
        have c2 : decide ((gi l (i : Int)).1 = (gi l (0 : Int)).1) = true := decide_eq_true c2
        by_cases c3 : (0 : Int) < i
        · by_cases c4 : (gi l (i : Int)).2.1 < (gi l ((i : Int) - 1)).2.1
          · rw [if_pos ⟨by omega, c4⟩]
            simp (maxSteps := 1000000) (disch := first | omega | assumption) only [r_ret, r_br, decide_eq_true_eq, Bool.not_eq_eq_eq_not, decide_eq_false_iff_not, ite_not, q_true, r_bind, r_iter, q_inB, q_nz, q_app, q_eq, q_bnd, q_str, w64', Option.bind_some, Option.bind_none, List.length_cons, List.length_nil, List.length_append, Nat.zero_add, if_pos, if_neg, decide_true, decide_false, if_true, if_false, Bool.not_true, Bool.not_false, Bool.false_eq_true, Bool.true_eq_false, not_true_eq_false, not_false_eq_true, reduceIte, List.nil_append, hc, c1, c2, c3, c4]
            all_goals rfl
          · have c5 : ¬ (0 < i ∧ (gi l (i : Int)).2.1 < (gi l ((i : Int) - 1)).2.1) := fun h => c4 h.2
            rw [if_neg c5] at hb ⊢
            simp (maxSteps := 1000000) (disch := first | omega | assumption) only [r_ret, r_br, decide_eq_true_eq, Bool.not_eq_eq_eq_not, decide_eq_false_iff_not, ite_not, q_true, r_bind, r_iter, q_inB, q_nz, q_app, q_eq, q_bnd, q_str, w64', Option.bind_some, Option.bind_none, List.length_cons, List.length_nil, List.length_append, Nat.zero_add, if_pos, if_neg, decide_true, decide_false, if_true, if_false, Bool.not_true, Bool.not_false, Bool.false_eq_true, Bool.true_eq_false, not_true_eq_false, not_false_eq_true, reduceIte, List.nil_append, hc, c1, c2, c3, c4, hpo, hb]
            all_goals rfl
        · have c5 : ¬ (0 < i ∧ (gi l (i : Int)).2.1 < (gi l ((i : Int) - 1)).2.1) := by omega
          rw [if_neg c5] at hb ⊢
          simp (maxSteps := 1000000) (disch := first | omega | assumption) only [r_ret, r_br, decide_eq_true_eq, Bool.not_eq_eq_eq_not, decide_eq_false_iff_not, ite_not, q_true, r_bind, r_iter, q_inB, q_nz, q_app, q_eq, q_bnd, q_str, w64', Option.bind_some, Option.bind_none, List.length_cons, List.length_nil, List.length_append, Nat.zero_add, if_pos, if_neg, decide_true, decide_false, if_true, if_false, Bool.not_true, Bool.not_false, Bool.false_eq_true, Bool.true_eq_false, not_true_eq_false, not_false_eq_true, reduceIte, List.nil_append, hc, c1, c2, c3, hpo, hb]
          all_goals rfl
      · rw [if_neg c2] at hb ⊢
        simp (maxSteps := 1000000) (disch := first | omega | assumption) only [r_ret, r_br, decide_eq_true_eq, Bool.not_eq_eq_eq_not, decide_eq_false_iff_not, ite_not, q_true, r_bind, r_iter, q_inB, q_nz, q_app, q_eq, q_bnd, q_str, w64', Option.bind_some, Option.bind_none, List.length_cons, List.length_nil, List.length_append, Nat.zero_add, if_pos, if_neg, decide_true, decide_false, if_true, if_false, Bool.not_true, Bool.not_false, Bool.false_eq_true, Bool.true_eq_false, not_true_eq_false, not_false_eq_true, reduceIte, List.nil_append, hc, c1, c2]
        all_goals rfl
    · rw [if_neg c1] at hb ⊢
      simp (maxSteps := 1000000) (disch := first | omega | assumption) only [r_ret, r_br, decide_eq_true_eq, Bool.not_eq_eq_eq_not, decide_eq_false_iff_not, ite_not, q_true, r_bind, r_iter, q_inB, q_nz, q_app, q_eq, q_bnd, q_str, w64', Option.bind_some, Option.bind_none, List.length_cons, List.length_nil, List.length_append, Nat.zero_add, if_pos, if_neg, decide_true, decide_false, if_true, if_false, Bool.not_true, Bool.not_false, Bool.false_eq_true, Bool.true_eq_false, not_true_eq_false, not_false_eq_true, reduceIte, List.nil_append, hc, c1]
      all_goals rfl
  · intro i hi hp hb
    have hc := k_checkEvent (hw i hi)
    have hpo := k_possible a (flm a l i) (gi l (i : Int)).2.2
    obtain ⟨c1, c2, c3, c4⟩ := hsE_0 hb
    have c2 : decide ((gi l (i : Int)).1 = (gi l (0 : Int)).1) = true := decide_eq_true c2
    have ht := k_take (x := gi l (i : Int)) ha (flm_ok ha i hp) (evE_0 c1).1
    simp only [thn, flm]
    by_cases d : (gi l (i : Int)).2.1 ≤ day
    · by_cases c : (0 : Int) < i
      · have c5 : ¬ (gi l (i : Int)).2.1 < (gi l ((i : Int) - 1)).2.1 := Int.not_lt.2 (c3 (by omega))
        simp (maxSteps := 1000000) (disch := first | omega | assumption) only [r_ret, r_br, decide_eq_true_eq, Bool.not_eq_eq_eq_not, decide_eq_false_iff_not, ite_not, q_true, r_bind, r_iter, q_inB, q_nz, q_app, q_eq, q_bnd, q_str, w64', Option.bind_some, Option.bind_none, List.length_cons, List.length_nil, List.length_append, Nat.zero_add, if_pos, if_neg, decide_true, decide_false, if_true, if_false, Bool.not_true, Bool.not_false, Bool.false_eq_true, Bool.true_eq_false, not_true_eq_false, not_false_eq_true, reduceIte, List.nil_append, hc, c1, c2, c, c5, hpo, c4, ht, d]
        all_goals rfl
      · simp (maxSteps := 1000000) (disch := first | omega | assumption) only [r_ret, r_br, decide_eq_true_eq, Bool.not_eq_eq_eq_not, decide_eq_false_iff_not, ite_not, q_true, r_bind, r_iter, q_inB, q_nz, q_app, q_eq, q_bnd, q_str, w64', Option.bind_some, Option.bind_none, List.length_cons, List.length_nil, List.length_append, Nat.zero_add, if_pos, if_neg, decide_true, decide_false, if_true, if_false, Bool.not_true, Bool.not_false, Bool.false_eq_true, Bool.true_eq_false, not_true_eq_false, not_false_eq_true, reduceIte, List.nil_append, hc, c1, c2, c, hpo, c4, ht, d]
        all_goals rfl
    · by_cases c : (0 : Int) < i
      · have c5 : ¬ (gi l (i : Int)).2.1 < (gi l ((i : Int) - 1)).2.1 := Int.not_lt.2 (c3 (by omega))
        simp (maxSteps := 1000000) (disch := first | omega | assumption) only [r_ret, r_br, decide_eq_true_eq, Bool.not_eq_eq_eq_not, decide_eq_false_iff_not, ite_not, q_true, r_bind, r_iter, q_inB, q_nz, q_app, q_eq, q_bnd, q_str, w64', Option.bind_some, Option.bind_none, List.length_cons, List.length_nil, List.length_append, Nat.zero_add, if_pos, if_neg, decide_true, decide_false, if_true, if_false, Bool.not_true, Bool.not_false, Bool.false_eq_true, Bool.true_eq_false, not_true_eq_false, not_false_eq_true, reduceIte, List.nil_append, hc, c1, c2, c, c5, hpo, c4, ht, d]
        all_goals rfl
      · simp (maxSteps := 1000000) (disch := first | omega | assumption) only [r_ret, r_br, decide_eq_true_eq, Bool.not_eq_eq_eq_not, decide_eq_false_iff_not, ite_not, q_true, r_bind, r_iter, q_inB, q_nz, q_app, q_eq, q_bnd, q_str, w64', Option.bind_some, Option.bind_none, List.length_cons, List.length_nil, List.length_append, Nat.zero_add, if_pos, if_neg, decide_true, decide_false, if_true, if_false, Bool.not_true, Bool.not_false, Bool.false_eq_true, Bool.true_eq_false, not_true_eq_false, not_false_eq_true, reduceIte, List.nil_append, hc, c1, c2, c, hpo, c4, ht, d]
        all_goals rfl
  · intro hp
    simp (maxSteps := 1000000) (disch := first | omega | assumption) only [r_ret, r_br, decide_eq_true_eq, Bool.not_eq_eq_eq_not, decide_eq_false_iff_not, ite_not, q_true, r_bind, r_iter, q_inB, q_nz, q_app, q_eq, q_bnd, q_str, w64', Option.bind_some, Option.bind_none, List.length_cons, List.length_nil, List.length_append, Nat.zero_add, if_pos, if_neg, decide_true, decide_false, if_true, if_false, Bool.not_true, Bool.not_false, Bool.false_eq_true, Bool.true_eq_false, not_true_eq_false, not_false_eq_true, reduceIte, List.nil_append, ]
    all_goals rfl

theorem k_follow {a : Ag} {l : List Ev} (hl : l.length ≤ 1048576) (hw : EvOk l) (day : Int) :
    coat_follow a l day = some (((decide (folE a l = 0), folV a l day), (folI a l, (folE a l, ()))), ()) := by
  simp only [coat_follow, T_coat_follow]
  unfold folV
  by_cases ha : agE a = 0
  · have e1 : folE a l = hisE a l := if_pos ha
    have e2 : folI a l = hisI a l := if_pos ha
    rw [e1, e2]
    unfold hisE hisI
    by_cases h40 : (40 : Int) < l.length
    · simp (maxSteps := 1000000) (disch := first | omega | assumption) only [r_ret, r_br, decide_eq_true_eq, Bool.not_eq_eq_eq_not, decide_eq_false_iff_not, ite_not, q_true, r_bind, r_iter, q_inB, q_nz, q_app, q_eq, q_bnd, q_str, w64', Option.bind_some, Option.bind_none, List.length_cons, List.length_nil, List.length_append, Nat.zero_add, if_pos, if_neg, decide_true, decide_false, if_true, if_false, Bool.not_true, Bool.not_false, Bool.false_eq_true, Bool.true_eq_false, not_true_eq_false, not_false_eq_true, reduceIte, List.nil_append, k_CheckAging, ha, h40]
      all_goals rfl
    · have h := k_follow_loop ha h40 hw day
      simp (maxSteps := 1000000) (disch := first | omega | assumption) only [r_ret, r_br, decide_eq_true_eq, Bool.not_eq_eq_eq_not, decide_eq_false_iff_not, ite_not, q_true, r_bind, r_iter, q_inB, q_nz, q_app, q_eq, q_bnd, q_str, w64', Option.bind_some, Option.bind_none, List.length_cons, List.length_nil, List.length_append, Nat.zero_add, if_pos, if_neg, decide_true, decide_false, if_true, if_false, Bool.not_true, Bool.not_false, Bool.false_eq_true, Bool.true_eq_false, not_true_eq_false, not_false_eq_true, reduceIte, List.nil_append, k_CheckAging, ha, h40]
      exact h
  · have e1 : folE a l = agE a := if_neg ha
    have e2 : folI a l = 0 := if_neg ha
    rw [e1, e2]
    simp (maxSteps := 1000000) (disch := first | omega | assumption) only [r_ret, r_br, decide_eq_true_eq, Bool.not_eq_eq_eq_not, decide_eq_false_iff_not, ite_not, q_true, r_bind, r_iter, q_inB, q_nz, q_app, q_eq, q_bnd, q_str, w64', Option.bind_some, Option.bind_none, List.length_cons, List.length_nil, List.length_append, Nat.zero_add, if_pos, if_neg, decide_true, decide_false, if_true, if_false, Bool.not_true, Bool.not_false, Bool.false_eq_true, Bool.true_eq_false, not_true_eq_false, not_false_eq_true, reduceIte, List.nil_append, k_CheckAging, ha]
    all_goals rfl

theorem k_CheckHistory {a : Ag} {l : List Ev} (hl : l.length ≤ 1048576) (hw : EvOk l) : coat_CheckHistory a l = some ((folI a l, (folE a l, ())), ()) := by
  have h := k_follow (a := a) hl hw 100000
  simp only [coat_CheckHistory, T_coat_CheckHistory]
  by_cases c : folE a l = 0
  · simp (maxSteps := 1000000) (disch := first | omega | assumption) only [r_ret, r_br, decide_eq_true_eq, Bool.not_eq_eq_eq_not, decide_eq_false_iff_not, ite_not, q_true, r_bind, r_iter, q_inB, q_nz, q_app, q_eq, q_bnd, q_str, w64', Option.bind_some, Option.bind_none, List.length_cons, List.length_nil, List.length_append, Nat.zero_add, if_pos, if_neg, decide_true, decide_false, if_true, if_false, Bool.not_true, Bool.not_false, Bool.false_eq_true, Bool.true_eq_false, not_true_eq_false, not_false_eq_true, reduceIte, List.nil_append, h, c]
  · simp (maxSteps := 1000000) (disch := first | omega | assumption) only [r_ret, r_br, decide_eq_true_eq, Bool.not_eq_eq_eq_not, decide_eq_false_iff_not, ite_not, q_true, r_bind, r_iter, q_inB, q_nz, q_app, q_eq, q_bnd, q_str, w64', Option.bind_some, Option.bind_none, List.length_cons, List.length_nil, List.length_append, Nat.zero_add, if_pos, if_neg, decide_true, decide_false, if_true, if_false, Bool.not_true, Bool.not_false, Bool.false_eq_true, Bool.true_eq_false, not_true_eq_false, not_false_eq_true, reduceIte, List.nil_append, h, c]

/-! ### The reference -/

def sta (w : Int) (l : List Ev) : Nat → Int
  | 0 => -1
  | i + 1 => if (gi l (i : Int)).2.2 = 0 then w else if (gi l (i : Int)).2.2 = 1 then sta w l i - 1 else if (gi l (i : Int)).2.2 = 2 then -1 else sta w l i
theorem sta_bd {w : Int} (hw : 0 ≤ w ∧ w ≤ 100) (l : List Ev) : ∀ i : Nat, -1 - (i : Int) ≤ sta w l i ∧ sta w l i ≤ 100
  | 0 => by simp only [sta]; omega
  | i + 1 => by
    have := sta_bd hw l i
    simp only [sta]
    split
    · omega
    · split
      · omega
      · split <;> omega
theorem sta_congr {w : Int} {l m : List Ev} : ∀ {n : Nat}, (∀ j : Nat, j < n → gi l (j : Int) = gi m (j : Int)) → sta w l n = sta w m n
  | 0, _ => rfl
  | n + 1, h => by rw [sta, sta, sta_congr (fun j hj => h j (by omega)), h n (by omega)]
theorem k_rstate {a : Ag} {l : List Ev} (hl : l.length ≤ 1048576) (hw : 0 ≤ a.2.2.2 ∧ a.2.2.2 ≤ 100) : ref08xstate a l = some ((sta a.2.2.2 l l.length, ()), ()) := by
  simp only [ref08xstate, T_ref08xstate]
  rw [r_iter]
  refine iter_eq (fun i x => x = (sta a.2.2.2 l i, (i : Int), ())) _ l.length (by omega) ?_ rfl
  rintro i x hi rfl
  simp only [T_ref08xstate_l0]
  by_cases hlt : i < l.length
  · left
    have hb := sta_bd hw l i
    refine ⟨(sta a.2.2.2 l (i + 1), (i : Int) + 1, ()), ?_, hlt, rfl⟩
    simp only [sta]
    by_cases c0 : (gi l (i : Int)).2.2 = 0
    · simp (maxSteps := 1000000) (disch := first | omega | assumption) only [r_ret, r_br, decide_eq_true_eq, Bool.not_eq_eq_eq_not, decide_eq_false_iff_not, ite_not, q_true, r_bind, r_iter, q_inB, q_nz, q_app, q_eq, q_bnd, q_str, w64', Option.bind_some, Option.bind_none, List.length_cons, List.length_nil, List.length_append, Nat.zero_add, if_pos, if_neg, decide_true, decide_false, if_true, if_false, Bool.not_true, Bool.not_false, Bool.false_eq_true, Bool.true_eq_false, not_true_eq_false, not_false_eq_true, reduceIte, List.nil_append, c0]
      all_goals rfl
    · by_cases c1 : (gi l (i : Int)).2.2 = 1
      · simp (maxSteps := 1000000) (disch := first | omega | assumption) only [r_ret, r_br, decide_eq_true_eq, Bool.not_eq_eq_eq_not, decide_eq_false_iff_not, ite_not, q_true, r_bind, r_iter, q_inB, q_nz, q_app, q_eq, q_bnd, q_str, w64', Option.bind_some, Option.bind_none, List.length_cons, List.length_nil, List.length_append, Nat.zero_add, if_pos, if_neg, decide_true, decide_false, if_true, if_false, Bool.not_true, Bool.not_false, Bool.false_eq_true, Bool.true_eq_false, not_true_eq_false, not_false_eq_true, reduceIte, List.nil_append, c0, c1]
        all_goals rfl
      · by_cases c2 : (gi l (i : Int)).2.2 = 2
        · simp (maxSteps := 1000000) (disch := first | omega | assumption) only [r_ret, r_br, decide_eq_true_eq, Bool.not_eq_eq_eq_not, decide_eq_false_iff_not, ite_not, q_true, r_bind, r_iter, q_inB, q_nz, q_app, q_eq, q_bnd, q_str, w64', Option.bind_some, Option.bind_none, List.length_cons, List.length_nil, List.length_append, Nat.zero_add, if_pos, if_neg, decide_true, decide_false, if_true, if_false, Bool.not_true, Bool.not_false, Bool.false_eq_true, Bool.true_eq_false, not_true_eq_false, not_false_eq_true, reduceIte, List.nil_append, c0, c1, c2]
          all_goals rfl
        · simp (maxSteps := 1000000) (disch := first | omega | assumption) only [r_ret, r_br, decide_eq_true_eq, Bool.not_eq_eq_eq_not, decide_eq_false_iff_not, ite_not, q_true, r_bind, r_iter, q_inB, q_nz, q_app, q_eq, q_bnd, q_str, w64', Option.bind_some, Option.bind_none, List.length_cons, List.length_nil, List.length_append, Nat.zero_add, if_pos, if_neg, decide_true, decide_false, if_true, if_false, Bool.not_true, Bool.not_false, Bool.false_eq_true, Bool.true_eq_false, not_true_eq_false, not_false_eq_true, reduceIte, List.nil_append, c0, c1, c2]
          all_goals rfl
  · right
    have : i = l.length := by omega
    subst this
    simp (maxSteps := 1000000) (disch := first | omega | assumption) only [r_ret, r_br, decide_eq_true_eq, Bool.not_eq_eq_eq_not, decide_eq_false_iff_not, ite_not, q_true, r_bind, r_iter, q_inB, q_nz, q_app, q_eq, q_bnd, q_str, w64', Option.bind_some, Option.bind_none, List.length_cons, List.length_nil, List.length_append, Nat.zero_add, if_pos, if_neg, decide_true, decide_false, if_true, if_false, Bool.not_true, Bool.not_false, Bool.false_eq_true, Bool.true_eq_false, not_true_eq_false, not_false_eq_true, reduceIte, List.nil_append, ]

/-- What both sides know of a mirror. -/
theorem sta_flm {a : Ag} {l : List Ev} (ha : agE a = 0) : ∀ {i : Nat}, (∀ j, j < i → hsE a l j = 0) → ((flm a l i).1 = true ∧ sta a.2.2.2 l i = a.2.2.2 - (flm a l i).2.1) ∨ ((flm a l i).1 = false ∧ sta a.2.2.2 l i = -1)
  | 0, _ => .inr ⟨rfl, rfl⟩
  | i + 1, hp => by
    have ih := sta_flm ha (i := i) (fun j hj => hp j (by omega))
    obtain ⟨h1, h2, h3, h4⟩ := hsE_0 (hp i (by omega))
    obtain ⟨e1, e2⟩ := evE_0 h1
    obtain ⟨p1, p2⟩ := posE_0 h4
    simp only [flm, stp, sta]
    rcases e2 with e | e | e
    · left; rw [if_pos e, if_pos e]; simp
    · rw [if_neg (by omega), if_pos e, if_neg (by omega), if_pos e]
      rw [e, show decide ((1 : Int) = 0) = false from rfl] at p1
      rcases ih with ih | ih
      · left; exact ⟨ih.1, by rw [ih.2]; simp only; omega⟩
      · exact absurd ih.1 p1
    · right
      rw [if_neg (by omega), if_neg (by omega), if_neg (by omega), if_neg (by omega), if_pos e]
      exact ⟨rfl, rfl⟩
theorem posE_ref {a : Ag} {l : List Ev} (ha : agE a = 0) {i : Nat} (hp : ∀ j, j < i → hsE a l j = 0) {kind : Int} :
    posE a.2.2.2 (flm a l i) kind = if (decide (kind = 0) != decide (sta a.2.2.2 l i < 0)) = true then 24 else if kind = 1 ∧ sta a.2.2.2 l i = 0 then 16 else 0 := by
  obtain ⟨⟨w1, w2⟩, -, -⟩ := flm_ok ha i hp
  unfold posE
  rcases sta_flm ha hp with ⟨h1, h2⟩ | ⟨h1, h2⟩
  · have e : decide (sta a.2.2.2 l i < 0) = false := decide_eq_false (by omega)
    rw [h1, e]
    by_cases c : kind = 0
    · rw [decide_eq_true c]; rfl
    · rw [decide_eq_false c]
      show (if kind = 1 ∧ a.2.2.2 ≤ (flm a l i).2.1 then (16 : Int) else 0) = if kind = 1 ∧ sta a.2.2.2 l i = 0 then 16 else 0
      by_cases c2 : kind = 1 ∧ a.2.2.2 ≤ (flm a l i).2.1
      · rw [if_pos c2, if_pos ⟨c2.1, by omega⟩]
      · rw [if_neg c2, if_neg (fun h => c2 ⟨h.1, by omega⟩)]
  · have e : decide (sta a.2.2.2 l i < 0) = true := decide_eq_true (by omega)
    rw [h1, e]
    by_cases c : kind = 0
    · rw [decide_eq_true c]
      show (if kind = 1 ∧ a.2.2.2 ≤ (flm a l i).2.1 then (16 : Int) else 0) = if kind = 1 ∧ sta a.2.2.2 l i = 0 then 16 else 0
      rw [if_neg (by omega), if_neg (by omega)]
    · rw [decide_eq_false c]; rfl
theorem k_rCheckHistory {a : Ag} {l : List Ev} (ha : agE a = 0) (hl : l.length ≤ 1048576) (hw : EvOk l) : ref08xCheckHistory a l = some ((hisI a l, (hisE a l, ())), ()) := by
  obtain ⟨g1, g2, g3, g4⟩ := agE_0 ha
  simp only [ref08xCheckHistory, T_ref08xCheckHistory]
  unfold hisE hisI
  by_cases h40 : (40 : Int) < l.length
  · simp (maxSteps := 1000000) (disch := first | omega | assumption) only [r_ret, r_br, decide_eq_true_eq, Bool.not_eq_eq_eq_not, decide_eq_false_iff_not, ite_not, q_true, r_bind, r_iter, q_inB, q_nz, q_app, q_eq, q_bnd, q_str, w64', Option.bind_some, Option.bind_none, List.length_cons, List.length_nil, List.length_append, Nat.zero_add, if_pos, if_neg, decide_true, decide_false, if_true, if_false, Bool.not_true, Bool.not_false, Bool.false_eq_true, Bool.true_eq_false, not_true_eq_false, not_false_eq_true, reduceIte, List.nil_append, h40]
  simp (maxSteps := 1000000) (disch := first | omega | assumption) only [r_ret, r_br, decide_eq_true_eq, Bool.not_eq_eq_eq_not, decide_eq_false_iff_not, ite_not, q_true, r_bind, r_iter, q_inB, q_nz, q_app, q_eq, q_bnd, q_str, w64', Option.bind_some, Option.bind_none, List.length_cons, List.length_nil, List.length_append, Nat.zero_add, if_pos, if_neg, decide_true, decide_false, if_true, if_false, Bool.not_true, Bool.not_false, Bool.false_eq_true, Bool.true_eq_false, not_true_eq_false, not_false_eq_true, reduceIte, List.nil_append, h40]
  refine iter_errI (fun i => ((i : Int), ())) (hsE a l) l.length (by omega) (fun i e => ((i, (e, ())), ())) ?_ ?_ ?_
  all_goals simp only [T_ref08xCheckHistory_l0]
  · intro i hi hp hb
    have hc := k_rCheckEvent (hw i hi)
    have hs := k_rstate (a := a) (l := part l 0 (i : Int)) (by rw [part_len (by omega)]; omega) g4
    rw [part_len (by omega), sta_congr (m := l) (fun j hj => gi_part hj)] at hs
    unfold hsE at hb ⊢
    by_cases c1 : evE (gi l (i : Int)) = 0
    · rw [if_pos c1] at hb ⊢
      by_cases c2 : (gi l (i : Int)).1 = (gi l (0 : Int)).1
      · rw [if_pos c2] at hb ⊢
        have c2 : decide ((gi l (i : Int)).1 = (gi l (0 : Int)).1) = true := decide_eq_true c2
        by_cases c3 : (0 : Int) < i
        · by_cases c4 : (gi l (i : Int)).2.1 < (gi l ((i : Int) - 1)).2.1
          · rw [if_pos ⟨by omega, c4⟩]
            simp (maxSteps := 1000000) (disch := first | omega | assumption) only [r_ret, r_br, decide_eq_true_eq, Bool.not_eq_eq_eq_not, decide_eq_false_iff_not, ite_not, q_true, r_bind, r_iter, q_inB, q_nz, q_app, q_eq, q_bnd, q_str, w64', Option.bind_some, Option.bind_none, List.length_cons, List.length_nil, List.length_append, Nat.zero_add, if_pos, if_neg, decide_true, decide_false, if_true, if_false, Bool.not_true, Bool.not_false, Bool.false_eq_true, Bool.true_eq_false, not_true_eq_false, not_false_eq_true, reduceIte, List.nil_append, hc, c1, c2, c3, c4]
            all_goals rfl
          · have c5 : ¬ (0 < i ∧ (gi l (i : Int)).2.1 < (gi l ((i : Int) - 1)).2.1) := fun h => c4 h.2
            rw [if_neg c5, posE_ref ha hp] at hb ⊢
            by_cases c6 : (decide ((gi l (i : Int)).2.2 = 0) != decide (sta a.2.2.2 l i < 0)) = true
            · simp (maxSteps := 1000000) (disch := first | omega | assumption) only [r_ret, r_br, decide_eq_true_eq, Bool.not_eq_eq_eq_not, decide_eq_false_iff_not, ite_not, q_true, r_bind, r_iter, q_inB, q_nz, q_app, q_eq, q_bnd, q_str, w64', Option.bind_some, Option.bind_none, List.length_cons, List.length_nil, List.length_append, Nat.zero_add, if_pos, if_neg, decide_true, decide_false, if_true, if_false, Bool.not_true, Bool.not_false, Bool.false_eq_true, Bool.true_eq_false, not_true_eq_false, not_false_eq_true, reduceIte, List.nil_append, hc, c1, c2, c3, c4, hs, c6]
              all_goals rfl
            · rw [if_neg c6] at hb ⊢
              by_cases c7 : (gi l (i : Int)).2.2 = 1 ∧ sta a.2.2.2 l i = 0
              · rw [if_pos c7]
                have c8 : decide ((gi l (i : Int)).2.2 = 1) = true := decide_eq_true c7.1
                have c9 : decide (sta a.2.2.2 l i = 0) = true := decide_eq_true c7.2
                simp (maxSteps := 1000000) (disch := first | omega | assumption) only [r_ret, r_br, decide_eq_true_eq, Bool.not_eq_eq_eq_not, decide_eq_false_iff_not, ite_not, q_true, r_bind, r_iter, q_inB, q_nz, q_app, q_eq, q_bnd, q_str, w64', Option.bind_some, Option.bind_none, List.length_cons, List.length_nil, List.length_append, Nat.zero_add, if_pos, if_neg, decide_true, decide_false, if_true, if_false, Bool.not_true, Bool.not_false, Bool.false_eq_true, Bool.true_eq_false, not_true_eq_false, not_false_eq_true, reduceIte, List.nil_append, hc, c1, c2, c3, c4, hs, c6, c8, c9]
                all_goals (first | rfl | (rw [if_pos c7.2]))
              · exact absurd (if_neg c7) hb
        · have c5 : ¬ (0 < i ∧ (gi l (i : Int)).2.1 < (gi l ((i : Int) - 1)).2.1) := by omega
          rw [if_neg c5, posE_ref ha hp] at hb ⊢
          by_cases c6 : (decide ((gi l (i : Int)).2.2 = 0) != decide (sta a.2.2.2 l i < 0)) = true
          · simp (maxSteps := 1000000) (disch := first | omega | assumption) only [r_ret, r_br, decide_eq_true_eq, Bool.not_eq_eq_eq_not, decide_eq_false_iff_not, ite_not, q_true, r_bind, r_iter, q_inB, q_nz, q_app, q_eq, q_bnd, q_str, w64', Option.bind_some, Option.bind_none, List.length_cons, List.length_nil, List.length_append, Nat.zero_add, if_pos, if_neg, decide_true, decide_false, if_true, if_false, Bool.not_true, Bool.not_false, Bool.false_eq_true, Bool.true_eq_false, not_true_eq_false, not_false_eq_true, reduceIte, List.nil_append, hc, c1, c2, c3, hs, c6]
            all_goals rfl
          · rw [if_neg c6] at hb ⊢
            by_cases c7 : (gi l (i : Int)).2.2 = 1 ∧ sta a.2.2.2 l i = 0
            · rw [if_pos c7]
              have c8 : decide ((gi l (i : Int)).2.2 = 1) = true := decide_eq_true c7.1
              have c9 : decide (sta a.2.2.2 l i = 0) = true := decide_eq_true c7.2
              simp (maxSteps := 1000000) (disch := first | omega | assumption) only [r_ret, r_br, decide_eq_true_eq, Bool.not_eq_eq_eq_not, decide_eq_false_iff_not, ite_not, q_true, r_bind, r_iter, q_inB, q_nz, q_app, q_eq, q_bnd, q_str, w64', Option.bind_some, Option.bind_none, List.length_cons, List.length_nil, List.length_append, Nat.zero_add, if_pos, if_neg, decide_true, decide_false, if_true, if_false, Bool.not_true, Bool.not_false, Bool.false_eq_true, Bool.true_eq_false, not_true_eq_false, not_false_eq_true, reduceIte, List.nil_append, hc, c1, c2, c3, hs, c6, c8, c9]
              all_goals (first | rfl | (rw [if_pos c7.2]))
            · exact absurd (if_neg c7) hb
      · rw [if_neg c2] at hb ⊢
        simp (maxSteps := 1000000) (disch := first | omega | assumption) only [r_ret, r_br, decide_eq_true_eq, Bool.not_eq_eq_eq_not, decide_eq_false_iff_not, ite_not, q_true, r_bind, r_iter, q_inB, q_nz, q_app, q_eq, q_bnd, q_str, w64', Option.bind_some, Option.bind_none, List.length_cons, List.length_nil, List.length_append, Nat.zero_add, if_pos, if_neg, decide_true, decide_false, if_true, if_false, Bool.not_true, Bool.not_false, Bool.false_eq_true, Bool.true_eq_false, not_true_eq_false, not_false_eq_true, reduceIte, List.nil_append, hc, c1, c2]
        all_goals rfl
    · rw [if_neg c1] at hb ⊢
      simp (maxSteps := 1000000) (disch := first | omega | assumption) only [r_ret, r_br, decide_eq_true_eq, Bool.not_eq_eq_eq_not, decide_eq_false_iff_not, ite_not, q_true, r_bind, r_iter, q_inB, q_nz, q_app, q_eq, q_bnd, q_str, w64', Option.bind_some, Option.bind_none, List.length_cons, List.length_nil, List.length_append, Nat.zero_add, if_pos, if_neg, decide_true, decide_false, if_true, if_false, Bool.not_true, Bool.not_false, Bool.false_eq_true, Bool.true_eq_false, not_true_eq_false, not_false_eq_true, reduceIte, List.nil_append, hc, c1]
      all_goals rfl
  · intro i hi hp hb
    have hc := k_rCheckEvent (hw i hi)
    have hs := k_rstate (a := a) (l := part l 0 (i : Int)) (by rw [part_len (by omega)]; omega) g4
    rw [part_len (by omega), sta_congr (m := l) (fun j hj => gi_part hj)] at hs
    obtain ⟨c1, c2, c3, c4⟩ := hsE_0 hb
    have c2 : decide ((gi l (i : Int)).1 = (gi l (0 : Int)).1) = true := decide_eq_true c2
    rw [posE_ref ha hp] at c4
    have c6 : ¬ (decide ((gi l (i : Int)).2.2 = 0) != decide (sta a.2.2.2 l i < 0)) = true := fun h => by rw [if_pos h] at c4; cases c4
    rw [if_neg c6] at c4
    have c7 : ¬ ((gi l (i : Int)).2.2 = 1 ∧ sta a.2.2.2 l i = 0) := fun h => by rw [if_pos h] at c4; cases c4
    by_cases c : (0 : Int) < i
    · have c5 : ¬ (gi l (i : Int)).2.1 < (gi l ((i : Int) - 1)).2.1 := Int.not_lt.2 (c3 (by omega))
      by_cases k1 : (gi l (i : Int)).2.2 = 1
      · have k2 : ¬ sta a.2.2.2 l i = 0 := fun h => c7 ⟨k1, h⟩
        have k1 : decide ((gi l (i : Int)).2.2 = 1) = true := decide_eq_true k1
        simp (maxSteps := 1000000) (disch := first | omega | assumption) only [r_ret, r_br, decide_eq_true_eq, Bool.not_eq_eq_eq_not, decide_eq_false_iff_not, ite_not, q_true, r_bind, r_iter, q_inB, q_nz, q_app, q_eq, q_bnd, q_str, w64', Option.bind_some, Option.bind_none, List.length_cons, List.length_nil, List.length_append, Nat.zero_add, if_pos, if_neg, decide_true, decide_false, if_true, if_false, Bool.not_true, Bool.not_false, Bool.false_eq_true, Bool.true_eq_false, not_true_eq_false, not_false_eq_true, reduceIte, List.nil_append, hc, c1, c2, c, c5, hs, c6, k1, k2]
        all_goals rfl
      · simp (maxSteps := 1000000) (disch := first | omega | assumption) only [r_ret, r_br, decide_eq_true_eq, Bool.not_eq_eq_eq_not, decide_eq_false_iff_not, ite_not, q_true, r_bind, r_iter, q_inB, q_nz, q_app, q_eq, q_bnd, q_str, w64', Option.bind_some, Option.bind_none, List.length_cons, List.length_nil, List.length_append, Nat.zero_add, if_pos, if_neg, decide_true, decide_false, if_true, if_false, Bool.not_true, Bool.not_false, Bool.false_eq_true, Bool.true_eq_false, not_true_eq_false, not_false_eq_true, reduceIte, List.nil_append, hc, c1, c2, c, c5, hs, c6, k1]
        all_goals rfl
    · by_cases k1 : (gi l (i : Int)).2.2 = 1
      · have k2 : ¬ sta a.2.2.2 l i = 0 := fun h => c7 ⟨k1, h⟩
        have k1 : decide ((gi l (i : Int)).2.2 = 1) = true := decide_eq_true k1
        simp (maxSteps := 1000000) (disch := first | omega | assumption) only [r_ret, r_br, decide_eq_true_eq, Bool.not_eq_eq_eq_not, decide_eq_false_iff_not, ite_not, q_true, r_bind, r_iter, q_inB, q_nz, q_app, q_eq, q_bnd, q_str, w64', Option.bind_some, Option.bind_none, List.length_cons, List.length_nil, List.length_append, Nat.zero_add, if_pos, if_neg, decide_true, decide_false, if_true, if_false, Bool.not_true, Bool.not_false, Bool.false_eq_true, Bool.true_eq_false, not_true_eq_false, not_false_eq_true, reduceIte, List.nil_append, hc, c1, c2, c, hs, c6, k1, k2]
        all_goals rfl
      · simp (maxSteps := 1000000) (disch := first | omega | assumption) only [r_ret, r_br, decide_eq_true_eq, Bool.not_eq_eq_eq_not, decide_eq_false_iff_not, ite_not, q_true, r_bind, r_iter, q_inB, q_nz, q_app, q_eq, q_bnd, q_str, w64', Option.bind_some, Option.bind_none, List.length_cons, List.length_nil, List.length_append, Nat.zero_add, if_pos, if_neg, decide_true, decide_false, if_true, if_false, Bool.not_true, Bool.not_false, Bool.false_eq_true, Bool.true_eq_false, not_true_eq_false, not_false_eq_true, reduceIte, List.nil_append, hc, c1, c2, c, hs, c6, k1]
        all_goals rfl
  · intro hp
    simp (maxSteps := 1000000) (disch := first | omega | assumption) only [r_ret, r_br, decide_eq_true_eq, Bool.not_eq_eq_eq_not, decide_eq_false_iff_not, ite_not, q_true, r_bind, r_iter, q_inB, q_nz, q_app, q_eq, q_bnd, q_str, w64', Option.bind_some, Option.bind_none, List.length_cons, List.length_nil, List.length_append, Nat.zero_add, if_pos, if_neg, decide_true, decide_false, if_true, if_false, Bool.not_true, Bool.not_false, Bool.false_eq_true, Bool.true_eq_false, not_true_eq_false, not_false_eq_true, reduceIte, List.nil_append, ]

/-! ### The law -/

theorem k_events {l : List Ev} (h : l.length ≤ 1048576) : law08xevents l = some ((l, ()), ()) := by
  simp only [law08xevents, T_law08xevents]
  simp (maxSteps := 1000000) (disch := first | omega | assumption) only [r_ret, r_br, decide_eq_true_eq, Bool.not_eq_eq_eq_not, decide_eq_false_iff_not, ite_not, q_true, r_bind, r_iter, q_inB, q_nz, q_app, q_eq, q_bnd, q_str, w64', Option.bind_some, Option.bind_none, List.length_cons, List.length_nil, List.length_append, Nat.zero_add, if_pos, if_neg, decide_true, decide_false, if_true, if_false, Bool.not_true, Bool.not_false, Bool.false_eq_true, Bool.true_eq_false, not_true_eq_false, not_false_eq_true, reduceIte, List.nil_append, ]
theorem k_Past_l0 {l : List Ev} (h : l.length ≤ 1048576) : ∃ b : Bool, iterF (fun y : Int × Unit => (T_law08xPast_l0 l y.1).run) FUEL (0, ()) = some ((b, ()), ()) := by
  obtain ⟨r, h1, b, h2⟩ := iter_post (b := fun y : Int × Unit => (T_law08xPast_l0 l y.1).run) (fun i x => x = ((i : Int), ())) (fun r => ∃ b : Bool, r = ((b, ()), ())) l.length (by omega) (by
    rintro i x hi rfl
    simp only [T_law08xPast_l0]
    by_cases hlt : i < l.length
    · by_cases c : (20 : Int) < (gi l (i : Int)).1.length
      · right; exact ⟨_, by simp (maxSteps := 1000000) (disch := first | omega | assumption) only [r_ret, r_br, decide_eq_true_eq, Bool.not_eq_eq_eq_not, decide_eq_false_iff_not, ite_not, q_true, r_bind, r_iter, q_inB, q_nz, q_app, q_eq, q_bnd, q_str, w64', Option.bind_some, Option.bind_none, List.length_cons, List.length_nil, List.length_append, Nat.zero_add, if_pos, if_neg, decide_true, decide_false, if_true, if_false, Bool.not_true, Bool.not_false, Bool.false_eq_true, Bool.true_eq_false, not_true_eq_false, not_false_eq_true, reduceIte, List.nil_append, c] <;> rfl, _, rfl⟩
      · left; exact ⟨_, by simp (maxSteps := 1000000) (disch := first | omega | assumption) only [r_ret, r_br, decide_eq_true_eq, Bool.not_eq_eq_eq_not, decide_eq_false_iff_not, ite_not, q_true, r_bind, r_iter, q_inB, q_nz, q_app, q_eq, q_bnd, q_str, w64', Option.bind_some, Option.bind_none, List.length_cons, List.length_nil, List.length_append, Nat.zero_add, if_pos, if_neg, decide_true, decide_false, if_true, if_false, Bool.not_true, Bool.not_false, Bool.false_eq_true, Bool.true_eq_false, not_true_eq_false, not_false_eq_true, reduceIte, List.nil_append, c] <;> rfl, hlt, rfl⟩
    · right; exact ⟨_, by simp (maxSteps := 1000000) (disch := first | omega | assumption) only [r_ret, r_br, decide_eq_true_eq, Bool.not_eq_eq_eq_not, decide_eq_false_iff_not, ite_not, q_true, r_bind, r_iter, q_inB, q_nz, q_app, q_eq, q_bnd, q_str, w64', Option.bind_some, Option.bind_none, List.length_cons, List.length_nil, List.length_append, Nat.zero_add, if_pos, if_neg, decide_true, decide_false, if_true, if_false, Bool.not_true, Bool.not_false, Bool.false_eq_true, Bool.true_eq_false, not_true_eq_false, not_false_eq_true, reduceIte, List.nil_append, ] <;> rfl, _, rfl⟩) rfl
  exact ⟨b, by rw [← h2]; exact h1⟩
theorem k_Past {l : List Ev} (h : l.length ≤ 1048576) : ∃ b : Bool, law08xPast l = some ((b, ()), ()) := by
  obtain ⟨b, hb⟩ := k_Past_l0 h
  simp only [law08xPast, T_law08xPast]
  by_cases c1 : (10 : Int) < l.length
  · by_cases c2 : (l.length : Int) ≤ 40
    · exact ⟨false, by simp (maxSteps := 1000000) (disch := first | omega | assumption) only [r_ret, r_br, decide_eq_true_eq, Bool.not_eq_eq_eq_not, decide_eq_false_iff_not, ite_not, q_true, r_bind, r_iter, q_inB, q_nz, q_app, q_eq, q_bnd, q_str, w64', Option.bind_some, Option.bind_none, List.length_cons, List.length_nil, List.length_append, Nat.zero_add, if_pos, if_neg, decide_true, decide_false, if_true, if_false, Bool.not_true, Bool.not_false, Bool.false_eq_true, Bool.true_eq_false, not_true_eq_false, not_false_eq_true, reduceIte, List.nil_append, c1, c2]⟩
    · by_cases c3 : (43 : Int) < l.length
      · exact ⟨false, by simp (maxSteps := 1000000) (disch := first | omega | assumption) only [r_ret, r_br, decide_eq_true_eq, Bool.not_eq_eq_eq_not, decide_eq_false_iff_not, ite_not, q_true, r_bind, r_iter, q_inB, q_nz, q_app, q_eq, q_bnd, q_str, w64', Option.bind_some, Option.bind_none, List.length_cons, List.length_nil, List.length_append, Nat.zero_add, if_pos, if_neg, decide_true, decide_false, if_true, if_false, Bool.not_true, Bool.not_false, Bool.false_eq_true, Bool.true_eq_false, not_true_eq_false, not_false_eq_true, reduceIte, List.nil_append, c1, c2, c3]⟩
      · exact ⟨b, by simp (maxSteps := 1000000) (disch := first | omega | assumption) only [r_ret, r_br, decide_eq_true_eq, Bool.not_eq_eq_eq_not, decide_eq_false_iff_not, ite_not, q_true, r_bind, r_iter, q_inB, q_nz, q_app, q_eq, q_bnd, q_str, w64', Option.bind_some, Option.bind_none, List.length_cons, List.length_nil, List.length_append, Nat.zero_add, if_pos, if_neg, decide_true, decide_false, if_true, if_false, Bool.not_true, Bool.not_false, Bool.false_eq_true, Bool.true_eq_false, not_true_eq_false, not_false_eq_true, reduceIte, List.nil_append, c1, c2, c3, hb]⟩
  · exact ⟨b, by simp (maxSteps := 1000000) (disch := first | omega | assumption) only [r_ret, r_br, decide_eq_true_eq, Bool.not_eq_eq_eq_not, decide_eq_false_iff_not, ite_not, q_true, r_bind, r_iter, q_inB, q_nz, q_app, q_eq, q_bnd, q_str, w64', Option.bind_some, Option.bind_none, List.length_cons, List.length_nil, List.length_append, Nat.zero_add, if_pos, if_neg, decide_true, decide_false, if_true, if_false, Bool.not_true, Bool.not_false, Bool.false_eq_true, Bool.true_eq_false, not_true_eq_false, not_false_eq_true, reduceIte, List.nil_append, c1, hb]⟩
theorem flm_congr {a : Ag} {l m : List Ev} : ∀ {n : Nat}, (∀ j : Nat, j < n → gi l (j : Int) = gi m (j : Int)) → flm a l n = flm a m n
  | 0, _ => rfl
  | n + 1, h => by rw [flm, flm, flm_congr (fun j hj => h j (by omega)), h n (by omega)]
theorem hsE_congr {a : Ag} {l m : List Ev} {n : Nat} (h : ∀ j : Nat, j < n → gi l (j : Int) = gi m (j : Int)) {i : Nat} (hi : i < n) : hsE a l i = hsE a m i := by
  unfold hsE
  have h0 := h 0 (by omega)
  rw [show (((0 : Nat) : Nat) : Int) = 0 by omega] at h0
  rw [h i hi, h0, flm_congr (m := m) (fun j hj => h j (by omega))]
  by_cases c : 0 < i
  · have := h (i - 1) (by omega)
    rw [show ((i - 1 : Nat) : Int) = (i : Int) - 1 by omega] at this
    rw [this]
  · have e : i = 0 := by omega
    subst e
    simp
theorem hisE_inv {a : Ag} {l : List Ev} (h : hisE a l = 0) : l.length ≤ 40 ∧ ∀ j : Nat, j < l.length → hsE a l j = 0 := by
  unfold hisE at h
  split at h
  · cases h
  · exact ⟨by omega, firstErr_eq0 h⟩
theorem folE_part {a : Ag} {l : List Ev} (h : folE a l = 0) {n : Nat} (hn : n ≤ l.length) : folE a (part l 0 (n : Int)) = 0 := by
  unfold folE at *
  split at h
  · rename_i ha
    rw [if_pos ha]
    obtain ⟨h1, h2⟩ := hisE_inv h
    unfold hisE
    rw [part_len hn, if_neg (by omega)]
    exact firstErr_0 (fun j hj => by rw [hsE_congr (m := l) (n := n) (fun k hk => gi_part hk) hj]; exact h2 j (by omega))
  · contradiction
theorem evok_part {l : List Ev} (hw : EvOk l) {n : Nat} (hn : n ≤ l.length) : EvOk (part l 0 (n : Int)) := by
  intro i hi
  rw [part_len hn] at hi
  rw [gi_part hi]; exact hw i (by omega)

attribute [local irreducible] agE hisE hisI folE folI
set_option maxHeartbeats 4000000 in
theorem k_CoatHistories0 {a : Ag} {l : List Ev} (hl : l.length ≤ 1048576) (hw : EvOk l) : law08xCoatHistories a l = some ((true, ()), ()) := by
  obtain ⟨b1, hb1⟩ := k_Past hl
  have hk := k_CheckHistory (a := a) hl hw
  simp only [law08xCoatHistories, T_law08xCoatHistories]
  cases b1 with
  | false => simp (maxSteps := 1000000) (disch := first | omega | assumption) only [r_ret, r_br, decide_eq_true_eq, Bool.not_eq_eq_eq_not, decide_eq_false_iff_not, ite_not, q_true, r_bind, r_iter, q_inB, q_nz, q_app, q_eq, q_bnd, q_str, w64', Option.bind_some, Option.bind_none, List.length_cons, List.length_nil, List.length_append, Nat.zero_add, if_pos, if_neg, decide_true, decide_false, if_true, if_false, Bool.not_true, Bool.not_false, Bool.false_eq_true, Bool.true_eq_false, not_true_eq_false, not_false_eq_true, reduceIte, List.nil_append, awake_ok, hb1]
  | true =>
    by_cases ha : agE a = 0
    · have e1 : folE a l = hisE a l := by unfold folE; exact if_pos ha
      have e2 : folI a l = hisI a l := by unfold folI; exact if_pos ha
      have hr := k_rCheckHistory ha hl hw
      rw [e1, e2] at hk
      by_cases h0 : hisE a l = 0
      · by_cases hz : (l.length : Int) = 0
        · simp (maxSteps := 1000000) (disch := first | omega | assumption) only [r_ret, r_br, decide_eq_true_eq, Bool.not_eq_eq_eq_not, decide_eq_false_iff_not, ite_not, q_true, r_bind, r_iter, q_inB, q_nz, q_app, q_eq, q_bnd, q_str, w64', Option.bind_some, Option.bind_none, List.length_cons, List.length_nil, List.length_append, Nat.zero_add, if_pos, if_neg, decide_true, decide_false, if_true, if_false, Bool.not_true, Bool.not_false, Bool.false_eq_true, Bool.true_eq_false, not_true_eq_false, not_false_eq_true, reduceIte, List.nil_append, awake_ok, hb1, k_events, hk, k_rCheckAging, k_CheckAging, ha, hr, h0, hz]
        · have hn : l.length - 1 ≤ l.length := by omega
          have hp := folE_part (e1.trans h0) hn
          have hk2 := k_CheckHistory (a := a) (l := part l 0 ((l.length - 1 : Nat) : Int)) (by rw [part_len hn]; omega) (evok_part hw hn)
          have hk3 := k_events (l := part l 0 ((l.length - 1 : Nat) : Int)) (by rw [part_len hn]; omega)
          rw [hp] at hk2
          rw [show ((l.length - 1 : Nat) : Int) = (l.length : Int) - 1 by omega] at hk2 hk3
          clear e1 e2 hp
          simp (maxSteps := 1000000) (disch := first | omega | assumption) only [r_ret, r_br, decide_eq_true_eq, Bool.not_eq_eq_eq_not, decide_eq_false_iff_not, ite_not, q_true, r_bind, r_iter, q_inB, q_nz, q_app, q_eq, q_bnd, q_str, w64', Option.bind_some, Option.bind_none, List.length_cons, List.length_nil, List.length_append, Nat.zero_add, if_pos, if_neg, decide_true, decide_false, if_true, if_false, Bool.not_true, Bool.not_false, Bool.false_eq_true, Bool.true_eq_false, not_true_eq_false, not_false_eq_true, reduceIte, List.nil_append, awake_ok, hb1, k_events, hk, k_rCheckAging, k_CheckAging, ha, hr, h0, hz, hk2, hk3]
      · clear e1 e2
        simp (maxSteps := 1000000) (disch := first | omega | assumption) only [r_ret, r_br, decide_eq_true_eq, Bool.not_eq_eq_eq_not, decide_eq_false_iff_not, ite_not, q_true, r_bind, r_iter, q_inB, q_nz, q_app, q_eq, q_bnd, q_str, w64', Option.bind_some, Option.bind_none, List.length_cons, List.length_nil, List.length_append, Nat.zero_add, if_pos, if_neg, decide_true, decide_false, if_true, if_false, Bool.not_true, Bool.not_false, Bool.false_eq_true, Bool.true_eq_false, not_true_eq_false, not_false_eq_true, reduceIte, List.nil_append, awake_ok, hb1, k_events, hk, k_rCheckAging, k_CheckAging, ha, hr, h0]
    · have e1 : folE a l = agE a := by unfold folE; exact if_neg ha
      have e2 : folI a l = 0 := by unfold folI; exact if_neg ha
      rw [e1, e2] at hk
      clear e1 e2
      simp (maxSteps := 1000000) (disch := first | omega | assumption) only [r_ret, r_br, decide_eq_true_eq, Bool.not_eq_eq_eq_not, decide_eq_false_iff_not, ite_not, q_true, r_bind, r_iter, q_inB, q_nz, q_app, q_eq, q_bnd, q_str, w64', Option.bind_some, Option.bind_none, List.length_cons, List.length_nil, List.length_append, Nat.zero_add, if_pos, if_neg, decide_true, decide_false, if_true, if_false, Bool.not_true, Bool.not_false, Bool.false_eq_true, Bool.true_eq_false, not_true_eq_false, not_false_eq_true, reduceIte, List.nil_append, awake_ok, hb1, k_events, hk, k_rCheckAging, k_CheckAging, ha]
theorem evs_in {l : List Ev} (b : bulkT (.list (.pair .str (.pair (.int .i64) (.int .i64)))) l ≤ 1048576) : l.length ≤ 1048576 ∧ EvOk l := mats_in b
theorem k_CoatHistories {a : Ag} {l : List Ev} (b0 : bulkT (.pair (.pair (.int .i64) (.int .i64)) (.pair (.pair (.int .i64) (.int .i64)) (.pair (.pair (.int .i64) (.int .i64)) (.int .i64)))) a ≤ 1048576) (w0 : wfT (.pair (.pair (.int .i64) (.int .i64)) (.pair (.pair (.int .i64) (.int .i64)) (.pair (.pair (.int .i64) (.int .i64)) (.int .i64)))) a)
    (b1 : bulkT (.list (.pair .str (.pair (.int .i64) (.int .i64)))) l ≤ 1048576) (w1 : wfT (.list (.pair .str (.pair (.int .i64) (.int .i64)))) l) : law08xCoatHistories a l = some ((true, ()), ()) :=
  k_CoatHistories0 (evs_in b1).1 (evs_in b1).2
end Go.Ab
end

section
namespace Go.Ab
open Go
set_option maxRecDepth 1000000
set_option maxHeartbeats 1000000
set_option linter.unusedVariables false
set_option linter.unusedSimpArgs false
attribute [local congr] bindC iterC

/-- How many events lie behind the last one up to a day. -/
def cnt (l : List Ev) (day : Int) : Nat → Nat
  | 0 => 0
  | i + 1 => if (gi l (i : Int)).2.1 ≤ day then i + 1 else cnt l day i
theorem cnt_le (l : List Ev) (day : Int) : ∀ n, cnt l day n ≤ n
  | 0 => Nat.le_refl _
  | n + 1 => by
    have := cnt_le l day n
    rw [cnt]; split <;> omega
theorem thn_cnt (a : Ag) (l : List Ev) (day : Int) : ∀ n, thn a l day n = flm a l (cnt l day n)
  | 0 => rfl
  | n + 1 => by rw [thn, cnt, thn_cnt a l day n]; split <;> rfl
theorem days_mono {a : Ag} {l : List Ev} {n : Nat} (h : ∀ j, j < n → hsE a l j = 0) : ∀ {j i : Nat}, i ≤ j → j < n → (gi l (i : Int)).2.1 ≤ (gi l (j : Int)).2.1
  | 0, i, h1, h2 => by
    have : i = 0 := by omega
    subst this; exact Int.le_refl _
  | j + 1, i, h1, h2 => by
    by_cases e : i = j + 1
    · subst e; exact Int.le_refl _
    · have q := (hsE_0 (h (j + 1) h2)).2.2.1 (by omega)
      rw [show ((j + 1 : Nat) : Int) - 1 = (j : Int) by omega] at q
      exact Int.le_trans (days_mono h (j := j) (i := i) (by omega) (by omega)) q
theorem cnt_all {l : List Ev} {day : Int} : ∀ {n : Nat}, (∀ j : Nat, j < n → (gi l (j : Int)).2.1 ≤ day) → cnt l day n = n
  | 0, _ => rfl
  | n + 1, h => by rw [cnt, if_pos (h n (by omega))]
theorem cnt_stop {l : List Ev} {day : Int} {i : Nat} (h : ∀ j : Nat, j < i → (gi l (j : Int)).2.1 ≤ day) : ∀ {n : Nat}, i ≤ n → (∀ j : Nat, i ≤ j → j < n → day < (gi l (j : Int)).2.1) → cnt l day n = i
  | 0, hi, _ => by simp only [cnt]; omega
  | n + 1, hi, h2 => by
    by_cases e : i = n + 1
    · subst e; exact cnt_all h
    · have := h2 n (by omega) (by omega)
      rw [cnt, if_neg (by omega)]
      exact cnt_stop h (by omega) (fun j h3 h4 => h2 j h3 (by omega))

theorem thn_ok {a : Ag} {l : List Ev} (ha : agE a = 0) {n : Nat} (hp : ∀ j, j < n → hsE a l j = 0) (day : Int) : SfOk a (thn a l day n) := by
  rw [thn_cnt]
  have := cnt_le l day n
  exact flm_ok ha _ (fun j hj => hp j (by omega))
theorem folE_inv {a : Ag} {l : List Ev} (h : folE a l = 0) : agE a = 0 ∧ hisE a l = 0 ∧ l.length ≤ 40 ∧ ∀ j : Nat, j < l.length → hsE a l j = 0 := by
  unfold folE at h
  split at h
  · exact ⟨‹_›, h, hisE_inv h⟩
  · contradiction

def rdE (a : Ag) (l : List Ev) (day : Int) : Int := if folE a l = 0 then (if 0 ≤ day ∧ day ≤ 100000 then 0 else 2) else folE a l
def rdV (a : Ag) (l : List Ev) (day : Int) : Ag × Sf := if rdE a l day = 0 then (a, thn a l day l.length) else fmD
theorem k_read {a : Ag} {l : List Ev} (hl : l.length ≤ 1048576) (hw : EvOk l) (day : Int) : coat_read a l day = some (((decide (rdE a l day = 0), rdV a l day), (rdE a l day, ())), ()) := by
  have h := k_follow (a := a) hl hw day
  simp only [coat_read, T_coat_read]
  by_cases c : folE a l = 0
  · have e1 : folV a l day = (a, thn a l day l.length) := if_pos c
    rw [c, e1] at h
    by_cases d : 0 ≤ day ∧ day ≤ 100000
    · have e2 : rdE a l day = 0 := by unfold rdE; rw [if_pos c, if_pos d]
      have e3 : rdV a l day = (a, thn a l day l.length) := if_pos e2
      rw [e2, e3]
      simp (maxSteps := 1000000) (disch := first | omega | assumption) only [r_ret, r_br, decide_eq_true_eq, Bool.not_eq_eq_eq_not, decide_eq_false_iff_not, ite_not, q_true, r_bind, r_iter, q_inB, q_nz, q_app, q_eq, q_bnd, q_str, w64', Option.bind_some, Option.bind_none, List.length_cons, List.length_nil, List.length_append, Nat.zero_add, if_pos, if_neg, decide_true, decide_false, if_true, if_false, Bool.not_true, Bool.not_false, Bool.false_eq_true, Bool.true_eq_false, not_true_eq_false, not_false_eq_true, reduceIte, List.nil_append, h, k_isDay, d, and_self]
      all_goals rfl
    · have e2 : rdE a l day = 2 := by unfold rdE; rw [if_pos c, if_neg d]
      have e3 : rdV a l day = fmD := if_neg (by rw [e2]; decide)
      rw [e2, e3]
      simp (maxSteps := 1000000) (disch := first | omega | assumption) only [r_ret, r_br, decide_eq_true_eq, Bool.not_eq_eq_eq_not, decide_eq_false_iff_not, ite_not, q_true, r_bind, r_iter, q_inB, q_nz, q_app, q_eq, q_bnd, q_str, w64', Option.bind_some, Option.bind_none, List.length_cons, List.length_nil, List.length_append, Nat.zero_add, if_pos, if_neg, decide_true, decide_false, if_true, if_false, Bool.not_true, Bool.not_false, Bool.false_eq_true, Bool.true_eq_false, not_true_eq_false, not_false_eq_true, reduceIte, List.nil_append, h, k_isDay, d]
      all_goals rfl
  · have e1 : folV a l day = fmD := if_neg c
    have e2 : rdE a l day = folE a l := if_neg c
    have e3 : rdV a l day = fmD := if_neg (by rw [e2]; exact c)
    rw [e1] at h
    rw [e2, e3]
    simp (maxSteps := 1000000) (disch := first | omega | assumption) only [r_ret, r_br, decide_eq_true_eq, Bool.not_eq_eq_eq_not, decide_eq_false_iff_not, ite_not, q_true, r_bind, r_iter, q_inB, q_nz, q_app, q_eq, q_bnd, q_str, w64', Option.bind_some, Option.bind_none, List.length_cons, List.length_nil, List.length_append, Nat.zero_add, if_pos, if_neg, decide_true, decide_false, if_true, if_false, Bool.not_true, Bool.not_false, Bool.false_eq_true, Bool.true_eq_false, not_true_eq_false, not_false_eq_true, reduceIte, List.nil_append, h, c]
    all_goals rfl

def brE (a : Ag) (l : List Ev) (day : Int) : Int := if rdE a l day = 0 then (if (thn a l day l.length).1 = true then 0 else 24) else rdE a l day
def brV (a : Ag) (l : List Ev) (day : Int) : Int × Int := if brE a l day = 0 then agd a (thn a l day l.length).2.2.2 (day - (thn a l day l.length).2.2.1) else (0, 0)
theorem rdE_inv {a : Ag} {l : List Ev} {day : Int} (h : rdE a l day = 0) : folE a l = 0 ∧ 0 ≤ day ∧ day ≤ 100000 := by
  unfold rdE at h
  split at h
  · split at h
    · exact ⟨‹_›, ‹_›⟩
    · cases h
  · contradiction
theorem k_Bright {a : Ag} {l : List Ev} (hl : l.length ≤ 1048576) (hw : EvOk l) (day : Int) : coat_Bright a l day = some ((brV a l day, (brE a l day, ())), ()) := by
  have h := k_read (a := a) hl hw day
  simp only [coat_Bright, T_coat_Bright]
  by_cases c : rdE a l day = 0
  · have e1 : rdV a l day = (a, thn a l day l.length) := if_pos c
    rw [c, e1] at h
    obtain ⟨f0, d⟩ := rdE_inv c
    obtain ⟨ha, h0, h40, hp⟩ := folE_inv f0
    have hon := k_film_on ha (thn_ok ha hp day) d
    by_cases c2 : (thn a l day l.length).1 = true
    · have e2 : brE a l day = 0 := by unfold brE; rw [if_pos c, if_pos c2]
      have e3 : brV a l day = agd a (thn a l day l.length).2.2.2 (day - (thn a l day l.length).2.2.1) := if_pos e2
      rw [e2, e3]
      clear e1 e2 e3
      generalize thn a l day l.length = s at *
      obtain ⟨s1, s2⟩ := s
      simp only at c2
      subst c2
      simp (maxSteps := 1000000) (disch := first | omega | assumption) only [r_ret, r_br, decide_eq_true_eq, Bool.not_eq_eq_eq_not, decide_eq_false_iff_not, ite_not, q_true, r_bind, r_iter, q_inB, q_nz, q_app, q_eq, q_bnd, q_str, w64', Option.bind_some, Option.bind_none, List.length_cons, List.length_nil, List.length_append, Nat.zero_add, if_pos, if_neg, decide_true, decide_false, if_true, if_false, Bool.not_true, Bool.not_false, Bool.false_eq_true, Bool.true_eq_false, not_true_eq_false, not_false_eq_true, reduceIte, List.nil_append, h, hon]
      all_goals rfl
    · have e2 : brE a l day = 24 := by unfold brE; rw [if_pos c, if_neg c2]
      have e3 : brV a l day = (0, 0) := if_neg (by rw [e2]; decide)
      rw [e2, e3]
      have c3 : (thn a l day l.length).1 = false := by simpa using c2
      simp (maxSteps := 1000000) (disch := first | omega | assumption) only [r_ret, r_br, decide_eq_true_eq, Bool.not_eq_eq_eq_not, decide_eq_false_iff_not, ite_not, q_true, r_bind, r_iter, q_inB, q_nz, q_app, q_eq, q_bnd, q_str, w64', Option.bind_some, Option.bind_none, List.length_cons, List.length_nil, List.length_append, Nat.zero_add, if_pos, if_neg, decide_true, decide_false, if_true, if_false, Bool.not_true, Bool.not_false, Bool.false_eq_true, Bool.true_eq_false, not_true_eq_false, not_false_eq_true, reduceIte, List.nil_append, h, c3]
      all_goals rfl
  · have e1 : rdV a l day = fmD := if_neg c
    have e2 : brE a l day = rdE a l day := if_neg c
    have e3 : brV a l day = (0, 0) := if_neg (by rw [e2]; exact c)
    rw [e1] at h
    rw [e2, e3]
    simp (maxSteps := 1000000) (disch := first | omega | assumption) only [r_ret, r_br, decide_eq_true_eq, Bool.not_eq_eq_eq_not, decide_eq_false_iff_not, ite_not, q_true, r_bind, r_iter, q_inB, q_nz, q_app, q_eq, q_bnd, q_str, w64', Option.bind_some, Option.bind_none, List.length_cons, List.length_nil, List.length_append, Nat.zero_add, if_pos, if_neg, decide_true, decide_false, if_true, if_false, Bool.not_true, Bool.not_false, Bool.false_eq_true, Bool.true_eq_false, not_true_eq_false, not_false_eq_true, reduceIte, List.nil_append, h, c]
    all_goals rfl

/-! ### The reference -/

theorem k_past {a : Ag} {l : List Ev} (hl : l.length ≤ 1048576) (hw : EvOk l) : law08xpast a l = some ((folE a l, ()), ()) := by
  simp only [law08xpast, T_law08xpast]
  by_cases ha : agE a = 0
  · have e1 : folE a l = hisE a l := if_pos ha
    rw [e1]
    simp (maxSteps := 1000000) (disch := first | omega | assumption) only [r_ret, r_br, decide_eq_true_eq, Bool.not_eq_eq_eq_not, decide_eq_false_iff_not, ite_not, q_true, r_bind, r_iter, q_inB, q_nz, q_app, q_eq, q_bnd, q_str, w64', Option.bind_some, Option.bind_none, List.length_cons, List.length_nil, List.length_append, Nat.zero_add, if_pos, if_neg, decide_true, decide_false, if_true, if_false, Bool.not_true, Bool.not_false, Bool.false_eq_true, Bool.true_eq_false, not_true_eq_false, not_false_eq_true, reduceIte, List.nil_append, k_rCheckAging, ha, k_rCheckHistory ha hl hw]
  · have e1 : folE a l = agE a := if_neg ha
    rw [e1]
    simp (maxSteps := 1000000) (disch := first | omega | assumption) only [r_ret, r_br, decide_eq_true_eq, Bool.not_eq_eq_eq_not, decide_eq_false_iff_not, ite_not, q_true, r_bind, r_iter, q_inB, q_nz, q_app, q_eq, q_bnd, q_str, w64', Option.bind_some, Option.bind_none, List.length_cons, List.length_nil, List.length_append, Nat.zero_add, if_pos, if_neg, decide_true, decide_false, if_true, if_false, Bool.not_true, Bool.not_false, Bool.false_eq_true, Bool.true_eq_false, not_true_eq_false, not_false_eq_true, reduceIte, List.nil_append, k_rCheckAging, ha]

def upTo (l : List Ev) (day : Int) : Nat → List Ev
  | 0 => []
  | i + 1 => if (gi l (i : Int)).2.1 ≤ day then upTo l day i ++ [gi l (i : Int)] else upTo l day i
theorem upTo_len (l : List Ev) (day : Int) : ∀ n, (upTo l day n).length ≤ n
  | 0 => Nat.le_refl _
  | n + 1 => by
    have := upTo_len l day n
    rw [upTo]; split
    · rw [List.length_append, List.length_singleton]; omega
    · omega
theorem gi_app_l {α : Type} [Inhabited α] {u : List α} {x : α} {j : Nat} (h : j < u.length) : gi (u ++ [x]) (j : Int) = gi u (j : Int) := by
  simp [gi, List.getD, List.getElem?_append_left h]
theorem gi_app_r {α : Type} [Inhabited α] {u : List α} {x : α} : gi (u ++ [x]) ((u.length : Nat) : Int) = x := by
  simp [gi, List.getD]
theorem upTo_spec {l : List Ev} {day : Int} : ∀ {n : Nat}, (∀ i j : Nat, i ≤ j → j < n → (gi l (i : Int)).2.1 ≤ (gi l (j : Int)).2.1) → (upTo l day n).length = cnt l day n ∧ ∀ j : Nat, j < cnt l day n → gi (upTo l day n) (j : Int) = gi l (j : Int)
  | 0, _ => ⟨rfl, fun j hj => by simp only [cnt] at hj; omega⟩
  | n + 1, h => by
    obtain ⟨h1, h2⟩ := upTo_spec (n := n) (fun i j h3 h4 => h i j h3 (by omega))
    by_cases c : (gi l (n : Int)).2.1 ≤ day
    · have e : cnt l day n = n := cnt_all (fun j hj => Int.le_trans (h j n (by omega) (by omega)) c)
      rw [upTo, cnt, if_pos c, if_pos c]
      rw [e] at h1 h2
      refine ⟨by rw [List.length_append, List.length_singleton, h1], fun j hj => ?_⟩
      by_cases q : j = n
      · subst q
        have := gi_app_r (u := upTo l day j) (x := gi l (j : Int))
        rw [h1] at this; exact this
      · rw [gi_app_l (by omega)]; exact h2 j (by omega)
    · rw [upTo, cnt, if_neg c, if_neg c]; exact ⟨h1, h2⟩
theorem k_Until {l : List Ev} (hl : l.length ≤ 1048576) (day : Int) : ref08xUntil l day = some ((upTo l day l.length, ()), ()) := by
  simp only [ref08xUntil, T_ref08xUntil, decide_true, q_true]
  rw [r_iter]
  refine iter_eq (fun i x => x = (upTo l day i, (i : Int), ())) _ l.length (by omega) ?_ rfl
  rintro i x hi rfl
  have hb := upTo_len l day i
  simp only [T_ref08xUntil_l0]
  by_cases hlt : i < l.length
  · left
    refine ⟨(upTo l day (i + 1), (i : Int) + 1, ()), ?_, hlt, rfl⟩
    rw [upTo]
    by_cases c0 : (gi l (i : Int)).2.1 ≤ day
    · simp (maxSteps := 1000000) (disch := first | omega | assumption) only [r_ret, r_br, decide_eq_true_eq, Bool.not_eq_eq_eq_not, decide_eq_false_iff_not, ite_not, q_true, r_bind, r_iter, q_inB, q_nz, q_app, q_eq, q_bnd, q_str, w64', Option.bind_some, Option.bind_none, List.length_cons, List.length_nil, List.length_append, Nat.zero_add, if_pos, if_neg, decide_true, decide_false, if_true, if_false, Bool.not_true, Bool.not_false, Bool.false_eq_true, Bool.true_eq_false, not_true_eq_false, not_false_eq_true, reduceIte, List.nil_append, c0]
      all_goals rfl
    · simp (maxSteps := 1000000) (disch := first | omega | assumption) only [r_ret, r_br, decide_eq_true_eq, Bool.not_eq_eq_eq_not, decide_eq_false_iff_not, ite_not, q_true, r_bind, r_iter, q_inB, q_nz, q_app, q_eq, q_bnd, q_str, w64', Option.bind_some, Option.bind_none, List.length_cons, List.length_nil, List.length_append, Nat.zero_add, if_pos, if_neg, decide_true, decide_false, if_true, if_false, Bool.not_true, Bool.not_false, Bool.false_eq_true, Bool.true_eq_false, not_true_eq_false, not_false_eq_true, reduceIte, List.nil_append, c0]
      all_goals rfl
  · right
    have : i = l.length := by omega
    subst this
    simp (maxSteps := 1000000) (disch := first | omega | assumption) only [r_ret, r_br, decide_eq_true_eq, Bool.not_eq_eq_eq_not, decide_eq_false_iff_not, ite_not, q_true, r_bind, r_iter, q_inB, q_nz, q_app, q_eq, q_bnd, q_str, w64', Option.bind_some, Option.bind_none, List.length_cons, List.length_nil, List.length_append, Nat.zero_add, if_pos, if_neg, decide_true, decide_false, if_true, if_false, Bool.not_true, Bool.not_false, Bool.false_eq_true, Bool.true_eq_false, not_true_eq_false, not_false_eq_true, reduceIte, List.nil_append, ]
theorem k_StateOn {a : Ag} {l : List Ev} (ha : agE a = 0) (hp : ∀ j, j < l.length → hsE a l j = 0) (hl : l.length ≤ 1048576) (day : Int) : ref08xStateOn a l day = some ((sta a.2.2.2 l (cnt l day l.length), ()), ()) := by
  obtain ⟨g1, g2, g3, g4⟩ := agE_0 ha
  obtain ⟨h1, h2⟩ := upTo_spec (l := l) (day := day) (n := l.length) (fun i j h3 h4 => days_mono hp h3 h4)
  have hu := upTo_len l day l.length
  have hs := k_rstate (a := a) (l := upTo l day l.length) (by omega) g4
  rw [h1, sta_congr h2] at hs
  simp only [ref08xStateOn, T_ref08xStateOn]
  simp (maxSteps := 1000000) (disch := first | omega | assumption) only [r_ret, r_br, decide_eq_true_eq, Bool.not_eq_eq_eq_not, decide_eq_false_iff_not, ite_not, q_true, r_bind, r_iter, q_inB, q_nz, q_app, q_eq, q_bnd, q_str, w64', Option.bind_some, Option.bind_none, List.length_cons, List.length_nil, List.length_append, Nat.zero_add, if_pos, if_neg, decide_true, decide_false, if_true, if_false, Bool.not_true, Bool.not_false, Bool.false_eq_true, Bool.true_eq_false, not_true_eq_false, not_false_eq_true, reduceIte, List.nil_append, k_Until, hs]
theorem k_aged {a : Ag} {r : Int × Int} {d : Int} (ha : agE a = 0) (hr : 0 ≤ r.1 ∧ r.1 ≤ r.2 ∧ r.2 ≤ 1000) (hd : -100000 ≤ d ∧ d ≤ 100000) : ref08xaged a r d = some ((agd a r d, ()), ()) := by
  obtain ⟨m1, m2, m3, m4⟩ := agd_bd ha hr hd
  simp only [ref08xaged, T_ref08xaged, agd]
  simp (maxSteps := 1000000) (disch := first | omega | assumption) only [r_ret, r_br, decide_eq_true_eq, Bool.not_eq_eq_eq_not, decide_eq_false_iff_not, ite_not, q_true, r_bind, r_iter, q_inB, q_nz, q_app, q_eq, q_bnd, q_str, w64', Option.bind_some, Option.bind_none, List.length_cons, List.length_nil, List.length_append, Nat.zero_add, if_pos, if_neg, decide_true, decide_false, if_true, if_false, Bool.not_true, Bool.not_false, Bool.false_eq_true, Bool.true_eq_false, not_true_eq_false, not_false_eq_true, reduceIte, List.nil_append, k_Ceil, k_Floor]
theorem k_rBright {a : Ag} {l : List Ev} (ha : agE a = 0) (h0 : hisE a l = 0) {day : Int} (hd : 0 ≤ day ∧ day ≤ 100000) :
    ref08xBright a l day = some ((agd a (flm a l (cnt l day l.length)).2.2.2 (day - (flm a l (cnt l day l.length)).2.2.1), ()), ()) := by
  obtain ⟨h40, hp⟩ := hisE_inv h0
  obtain ⟨g1, g2, g3, g4⟩ := agE_0 ha
  simp only [ref08xBright, T_ref08xBright]
  rw [r_iter]
  refine iter_eq (fun i x => x = ((flm a l i).2.2.1, (i : Int), (flm a l i).2.2.2, ()) ∧ ∀ j : Nat, j < i → (gi l (j : Int)).2.1 ≤ day) _ l.length (by omega) ?_ ⟨rfl, fun j hj => by omega⟩
  rintro i x hi ⟨rfl, hj⟩
  obtain ⟨s1, s2, s3⟩ := flm_ok ha i (fun j hj => hp j (by omega))
  have hag := k_aged ha s3 (d := day - (flm a l i).2.2.1) (by omega)
  simp only [T_ref08xBright_l0]
  by_cases hlt : i < l.length
  · by_cases hday : (gi l (i : Int)).2.1 ≤ day
    · left
      obtain ⟨q1, q2, q3, q4⟩ := hsE_0 (hp i hlt)
      obtain ⟨e1, e2⟩ := evE_0 q1
      refine ⟨((flm a l (i + 1)).2.2.1, (i : Int) + 1, (flm a l (i + 1)).2.2.2, ()), ?_, hlt, rfl, fun j hj2 => ?_⟩
      · have hag2 := k_aged ha s3 (d := (gi l (i : Int)).2.1 - (flm a l i).2.2.1) (by omega)
        obtain ⟨m1, m2, m3, m4⟩ := agd_bd ha s3 (d := (gi l (i : Int)).2.1 - (flm a l i).2.2.1) (by omega)
        have b1 : 0 ≤ (agd a (flm a l i).2.2.2 ((gi l (i : Int)).2.1 - (flm a l i).2.2.1)).1 ∧ (agd a (flm a l i).2.2.2 ((gi l (i : Int)).2.1 - (flm a l i).2.2.1)).1 ≤ 1000000000 := by simp only [agd]; omega
        have b2 : 0 ≤ (agd a (flm a l i).2.2.2 ((gi l (i : Int)).2.1 - (flm a l i).2.2.1)).2 ∧ (agd a (flm a l i).2.2.2 ((gi l (i : Int)).2.1 - (flm a l i).2.2.1)).2 ≤ 1000000000 := by simp only [agd]; omega
        clear m1 m2 m3 m4 hag
        simp only [flm, stp]
        rcases e2 with e | e | e
        · have n1 : ¬ (gi l (i : Int)).2.2 = 1 := by omega
          simp (maxSteps := 1000000) (disch := first | omega | assumption) only [r_ret, r_br, decide_eq_true_eq, Bool.not_eq_eq_eq_not, decide_eq_false_iff_not, ite_not, q_true, r_bind, r_iter, q_inB, q_nz, q_app, q_eq, q_bnd, q_str, w64', Option.bind_some, Option.bind_none, List.length_cons, List.length_nil, List.length_append, Nat.zero_add, if_pos, if_neg, decide_true, decide_false, if_true, if_false, Bool.not_true, Bool.not_false, Bool.false_eq_true, Bool.true_eq_false, not_true_eq_false, not_false_eq_true, reduceIte, List.nil_append, hday, e, n1]
          all_goals rfl
        · have n1 : ¬ (gi l (i : Int)).2.2 = 0 := by omega
          generalize agd a (flm a l i).2.2.2 ((gi l (i : Int)).2.1 - (flm a l i).2.2.1) = r at *
          simp (maxSteps := 1000000) (disch := first | omega | assumption) only [r_ret, r_br, decide_eq_true_eq, Bool.not_eq_eq_eq_not, decide_eq_false_iff_not, ite_not, q_true, r_bind, r_iter, q_inB, q_nz, q_app, q_eq, q_bnd, q_str, w64', Option.bind_some, Option.bind_none, List.length_cons, List.length_nil, List.length_append, Nat.zero_add, if_pos, if_neg, decide_true, decide_false, if_true, if_false, Bool.not_true, Bool.not_false, Bool.false_eq_true, Bool.true_eq_false, not_true_eq_false, not_false_eq_true, reduceIte, List.nil_append, hday, e, n1, hag2]
          rw [Int.min_comm a.1.1, Int.min_comm a.1.2]
          all_goals rfl
        · have n1 : ¬ (gi l (i : Int)).2.2 = 0 := by omega
          have n2 : ¬ (gi l (i : Int)).2.2 = 1 := by omega
          simp (maxSteps := 1000000) (disch := first | omega | assumption) only [r_ret, r_br, decide_eq_true_eq, Bool.not_eq_eq_eq_not, decide_eq_false_iff_not, ite_not, q_true, r_bind, r_iter, q_inB, q_nz, q_app, q_eq, q_bnd, q_str, w64', Option.bind_some, Option.bind_none, List.length_cons, List.length_nil, List.length_append, Nat.zero_add, if_pos, if_neg, decide_true, decide_false, if_true, if_false, Bool.not_true, Bool.not_false, Bool.false_eq_true, Bool.true_eq_false, not_true_eq_false, not_false_eq_true, reduceIte, List.nil_append, hday, n1, n2]
          all_goals rfl
      · by_cases q : j = i
        · subst q; exact hday
        · exact hj j (by omega)
    · right
      have e : cnt l day l.length = i := cnt_stop hj hi (fun j h1 h2 => Int.lt_of_lt_of_le (Int.not_le.1 hday) (days_mono hp h1 h2))
      rw [e]
      simp (maxSteps := 1000000) (disch := first | omega | assumption) only [r_ret, r_br, decide_eq_true_eq, Bool.not_eq_eq_eq_not, decide_eq_false_iff_not, ite_not, q_true, r_bind, r_iter, q_inB, q_nz, q_app, q_eq, q_bnd, q_str, w64', Option.bind_some, Option.bind_none, List.length_cons, List.length_nil, List.length_append, Nat.zero_add, if_pos, if_neg, decide_true, decide_false, if_true, if_false, Bool.not_true, Bool.not_false, Bool.false_eq_true, Bool.true_eq_false, not_true_eq_false, not_false_eq_true, reduceIte, List.nil_append, hday, hag]
  · right
    have : i = l.length := by omega
    subst this
    rw [cnt_all hj]
    simp (maxSteps := 1000000) (disch := first | omega | assumption) only [r_ret, r_br, decide_eq_true_eq, Bool.not_eq_eq_eq_not, decide_eq_false_iff_not, ite_not, q_true, r_bind, r_iter, q_inB, q_nz, q_app, q_eq, q_bnd, q_str, w64', Option.bind_some, Option.bind_none, List.length_cons, List.length_nil, List.length_append, Nat.zero_add, if_pos, if_neg, decide_true, decide_false, if_true, if_false, Bool.not_true, Bool.not_false, Bool.false_eq_true, Bool.true_eq_false, not_true_eq_false, not_false_eq_true, reduceIte, List.nil_append, hag]

/-! ### The law -/

theorem sta_neg {a : Ag} {l : List Ev} (ha : agE a = 0) {i : Nat} (hp : ∀ j, j < i → hsE a l j = 0) : sta a.2.2.2 l i < 0 ↔ ¬ (flm a l i).1 = true := by
  obtain ⟨⟨w1, w2⟩, -, -⟩ := flm_ok ha i hp
  rcases sta_flm ha hp with ⟨h1, h2⟩ | ⟨h1, h2⟩
  · rw [h1, h2]; constructor
    · intro h; omega
    · intro h; exact absurd rfl h
  · rw [h1, h2]; constructor
    · intro h; decide
    · intro h; omega

attribute [local irreducible] agE hisE hisI folE folI rdE rdV brE brV agd flm thn sta cnt
set_option maxHeartbeats 4000000 in
theorem k_CoatBright0 {a : Ag} {l : List Ev} (hl : l.length ≤ 1048576) (hw : EvOk l) (day : Int) : law08xCoatBright a l day = some ((true, ()), ()) := by
  obtain ⟨b1, hb1⟩ := k_Past hl
  have hk := k_Bright (a := a) hl hw day
  have hq := k_past (a := a) hl hw
  simp only [law08xCoatBright, T_law08xCoatBright]
  cases b1 with
  | false => simp (maxSteps := 1000000) (disch := first | omega | assumption) only [r_ret, r_br, decide_eq_true_eq, Bool.not_eq_eq_eq_not, decide_eq_false_iff_not, ite_not, q_true, r_bind, r_iter, q_inB, q_nz, q_app, q_eq, q_bnd, q_str, w64', Option.bind_some, Option.bind_none, List.length_cons, List.length_nil, List.length_append, Nat.zero_add, if_pos, if_neg, decide_true, decide_false, if_true, if_false, Bool.not_true, Bool.not_false, Bool.false_eq_true, Bool.true_eq_false, not_true_eq_false, not_false_eq_true, reduceIte, List.nil_append, awake_ok, hb1]
  | true =>
    by_cases c : folE a l = 0
    · rw [c] at hq
      obtain ⟨ha, h0, h40, hp⟩ := folE_inv c
      by_cases d : 0 ≤ day ∧ day ≤ 100000
      · have e1 : rdE a l day = 0 := by unfold rdE; rw [if_pos c, if_pos d]
        have hst := k_StateOn ha hp hl day
        have hcl := cnt_le l day l.length
        have hn := sta_neg ha (i := cnt l day l.length) (fun j hj => hp j (by omega))
        rw [← thn_cnt] at hn
        by_cases c2 : (thn a l day l.length).1 = true
        · have e2 : brE a l day = 0 := by unfold brE; rw [if_pos e1, if_pos c2]
          have e3 : brV a l day = agd a (thn a l day l.length).2.2.2 (day - (thn a l day l.length).2.2.1) := by unfold brV; exact if_pos e2
          have hr := k_rBright ha h0 d
          rw [← thn_cnt, ← e3] at hr
          rw [e2] at hk
          have n1 : ¬ sta a.2.2.2 l (cnt l day l.length) < 0 := fun h => hn.1 h c2
          clear e1 e2 e3 hn hcl
          simp (maxSteps := 1000000) (disch := first | omega | assumption) only [r_ret, r_br, decide_eq_true_eq, Bool.not_eq_eq_eq_not, decide_eq_false_iff_not, ite_not, q_true, r_bind, r_iter, q_inB, q_nz, q_app, q_eq, q_bnd, q_str, w64', Option.bind_some, Option.bind_none, List.length_cons, List.length_nil, List.length_append, Nat.zero_add, if_pos, if_neg, decide_true, decide_false, if_true, if_false, Bool.not_true, Bool.not_false, Bool.false_eq_true, Bool.true_eq_false, not_true_eq_false, not_false_eq_true, reduceIte, List.nil_append, awake_ok, hb1, k_events, hk, hq, k_Within, d, and_self, hst, n1, hr, Bool.and_self]
        · have e2 : brE a l day = 24 := by unfold brE; rw [if_pos e1, if_neg c2]
          have e3 : brV a l day = (0, 0) := by unfold brV; exact if_neg (by rw [e2]; decide)
          rw [e2, e3] at hk
          have n1 : sta a.2.2.2 l (cnt l day l.length) < 0 := hn.2 c2
          clear e1 e2 e3 hn hcl
          simp (maxSteps := 1000000) (disch := first | omega | assumption) only [r_ret, r_br, decide_eq_true_eq, Bool.not_eq_eq_eq_not, decide_eq_false_iff_not, ite_not, q_true, r_bind, r_iter, q_inB, q_nz, q_app, q_eq, q_bnd, q_str, w64', Option.bind_some, Option.bind_none, List.length_cons, List.length_nil, List.length_append, Nat.zero_add, if_pos, if_neg, decide_true, decide_false, if_true, if_false, Bool.not_true, Bool.not_false, Bool.false_eq_true, Bool.true_eq_false, not_true_eq_false, not_false_eq_true, reduceIte, List.nil_append, awake_ok, hb1, k_events, hk, hq, k_Within, d, and_self, hst, n1, Bool.and_self]
      · have e1 : rdE a l day = 2 := by unfold rdE; rw [if_pos c, if_neg d]
        have e2 : brE a l day = 2 := by unfold brE; rw [if_neg (by rw [e1]; decide), e1]
        have e3 : brV a l day = (0, 0) := by unfold brV; exact if_neg (by rw [e2]; decide)
        rw [e2, e3] at hk
        clear e1 e2 e3
        simp (maxSteps := 1000000) (disch := first | omega | assumption) only [r_ret, r_br, decide_eq_true_eq, Bool.not_eq_eq_eq_not, decide_eq_false_iff_not, ite_not, q_true, r_bind, r_iter, q_inB, q_nz, q_app, q_eq, q_bnd, q_str, w64', Option.bind_some, Option.bind_none, List.length_cons, List.length_nil, List.length_append, Nat.zero_add, if_pos, if_neg, decide_true, decide_false, if_true, if_false, Bool.not_true, Bool.not_false, Bool.false_eq_true, Bool.true_eq_false, not_true_eq_false, not_false_eq_true, reduceIte, List.nil_append, awake_ok, hb1, k_events, hk, hq, k_Within, d, Bool.and_self]
    · have e1 : rdE a l day = folE a l := by unfold rdE; exact if_neg c
      have e2 : brE a l day = folE a l := by unfold brE; rw [if_neg (by rw [e1]; exact c), e1]
      have e3 : brV a l day = (0, 0) := by unfold brV; exact if_neg (by rw [e2]; exact c)
      rw [e2, e3] at hk
      clear e1 e2 e3
      simp (maxSteps := 1000000) (disch := first | omega | assumption) only [r_ret, r_br, decide_eq_true_eq, Bool.not_eq_eq_eq_not, decide_eq_false_iff_not, ite_not, q_true, r_bind, r_iter, q_inB, q_nz, q_app, q_eq, q_bnd, q_str, w64', Option.bind_some, Option.bind_none, List.length_cons, List.length_nil, List.length_append, Nat.zero_add, if_pos, if_neg, decide_true, decide_false, if_true, if_false, Bool.not_true, Bool.not_false, Bool.false_eq_true, Bool.true_eq_false, not_true_eq_false, not_false_eq_true, reduceIte, List.nil_append, awake_ok, hb1, k_events, hk, hq, c, Bool.and_self]
theorem k_CoatBright {a : Ag} {l : List Ev} {day : Int} (b0 : bulkT (.pair (.pair (.int .i64) (.int .i64)) (.pair (.pair (.int .i64) (.int .i64)) (.pair (.pair (.int .i64) (.int .i64)) (.int .i64)))) a ≤ 1048576) (w0 : wfT (.pair (.pair (.int .i64) (.int .i64)) (.pair (.pair (.int .i64) (.int .i64)) (.pair (.pair (.int .i64) (.int .i64)) (.int .i64)))) a)
    (b1 : bulkT (.list (.pair .str (.pair (.int .i64) (.int .i64)))) l ≤ 1048576) (w1 : wfT (.list (.pair .str (.pair (.int .i64) (.int .i64)))) l) (b2 : bulkT (.int .i64) day ≤ 1048576) (w2 : wfT (.int .i64) day) : law08xCoatBright a l day = some ((true, ()), ()) :=
  k_CoatBright0 (evs_in b1).1 (evs_in b1).2 day
end Go.Ab
end

section
namespace Go.Ab
open Go
set_option maxRecDepth 1000000
set_option maxHeartbeats 1000000
set_option linter.unusedVariables false
set_option linter.unusedSimpArgs false
attribute [local congr] bindC iterC

/-- The first day from s on, of n days, on which p is so; else the day behind them. -/
def fd (p : Int → Bool) (s : Int) : Nat → Int
  | 0 => s
  | n + 1 => if p s = true then s else fd p (s + 1) n
theorem fd_bd (p : Int → Bool) : ∀ (n : Nat) (s : Int), s ≤ fd p s n ∧ fd p s n ≤ s + n
  | 0, s => by simp only [fd]; omega
  | n + 1, s => by
    have := fd_bd p n (s + 1)
    rw [fd]; split <;> omega
theorem fd_before {p : Int → Bool} : ∀ {n : Nat} {s d : Int}, s ≤ d → d < fd p s n → p d = false
  | 0, s, d, h1, h2 => by simp only [fd] at h2; omega
  | n + 1, s, d, h1, h2 => by
    rw [fd] at h2
    split at h2
    · omega
    · rename_i c
      by_cases e : d = s
      · subst e; simpa using c
      · exact fd_before (n := n) (s := s + 1) (by omega) h2
theorem fd_at {p : Int → Bool} : ∀ {n : Nat} {s : Int}, fd p s n < s + n → p (fd p s n) = true
  | 0, s, h => by simp only [fd] at h; omega
  | n + 1, s, h => by
    rw [fd] at h ⊢
    split
    · assumption
    · rename_i c
      rw [if_neg c] at h
      exact fd_at (by omega)
theorem fd_skip {p : Int → Bool} : ∀ {i n : Nat} {s : Int}, (∀ j : Nat, j < i → p (s + j) = false) → fd p s (i + n) = fd p (s + i) n
  | 0, n, s, _ => by simp
  | i + 1, n, s, h => by
    have h0 := h 0 (by omega)
    rw [show s + ((0 : Nat) : Int) = s by omega] at h0
    rw [show i + 1 + n = (i + n) + 1 by omega, fd, if_neg (by rw [h0]; decide), fd_skip (i := i) (fun j hj => by
      have := h (j + 1) (by omega)
      rw [show s + ((j + 1 : Nat) : Int) = s + 1 + j by omega] at this; exact this), show s + 1 + (i : Int) = s + ((i + 1 : Nat) : Int) by omega]

def dkLo (a : Ag) (s : Sf) (least d : Int) : Bool := decide ((agd a s.2.2.2 (d - s.2.2.1)).1 < least)
def dkHi (a : Ag) (s : Sf) (least d : Int) : Bool := decide ((agd a s.2.2.2 (d - s.2.2.1)).2 < least)

theorem k_dueLo {a : Ag} {s : Sf} {least : Int} (ha : agE a = 0) (hs : SfOk a s) :
    coat_DueDays_c1xDueDaysc2 least (a, s) = some ((fd (dkLo a s least) s.2.2.1 (100001 - s.2.2.1).toNat, ()), (least, ((a, s), ()))) := by
  obtain ⟨h1, h2, h3⟩ := hs
  simp only [coat_DueDays_c1xDueDaysc2, T_coat_DueDays_c1xDueDaysc2]
  rw [r_iter]
  refine iter_eq (fun i x => x = (s.2.2.1 + i, (a, s), least, ()) ∧ ∀ j : Nat, j < i → dkLo a s least (s.2.2.1 + j) = false) _ (100001 - s.2.2.1).toNat (by omega) ?_ ⟨by simp, fun j hj => by omega⟩
  rintro i x hi ⟨rfl, hj⟩
  simp only [T_coat_DueDays_c1xDueDaysc2xl0]
  have e : fd (dkLo a s least) s.2.2.1 (100001 - s.2.2.1).toNat = fd (dkLo a s least) (s.2.2.1 + i) ((100001 - s.2.2.1).toNat - i) := by
    rw [← fd_skip hj, show i + ((100001 - s.2.2.1).toNat - i) = (100001 - s.2.2.1).toNat by omega]
  by_cases hlt : i < (100001 - s.2.2.1).toNat
  · have hon := k_film_on (day := s.2.2.1 + i) ha ⟨h1, h2, h3⟩ (by omega)
    by_cases c : (agd a s.2.2.2 (s.2.2.1 + i - s.2.2.1)).1 < least
    · right
      rw [e, show (100001 - s.2.2.1).toNat - i = ((100001 - s.2.2.1).toNat - i - 1) + 1 by omega, fd, if_pos (show dkLo a s least (s.2.2.1 + i) = true from decide_eq_true c)]
      simp (maxSteps := 1000000) (disch := first | omega | assumption) only [↓r_ret, ↓r_fail, ↓r_br, ↓r_bind, ↓r_iter, ↓r_req, decide_eq_true_eq, Bool.not_eq_eq_eq_not, decide_eq_false_iff_not, ite_not, inB_t', app_t', bnd_t', str_t', nz_t, Int.reduceEq, Int.reduceLT, Int.reduceLE, w64', Option.bind_some, Option.bind_none, List.length_cons, List.length_nil, List.length_append, Nat.zero_add, if_pos, if_neg, decide_true, decide_false, if_true, if_false, Bool.not_true, Bool.not_false, Bool.false_eq_true, Bool.true_eq_false, not_true_eq_false, not_false_eq_true, ↓reduceIte, List.nil_append, hon, coat_DueDays_c2, T_coat_DueDays_c2, c]
      all_goals rfl
    · left
      refine ⟨(s.2.2.1 + (i + 1 : Nat), (a, s), least, ()), ?_, hlt, rfl, fun j hj2 => ?_⟩
      · rw [show s.2.2.1 + ((i + 1 : Nat) : Int) = s.2.2.1 + i + 1 by omega]
        simp (maxSteps := 1000000) (disch := first | omega | assumption) only [↓r_ret, ↓r_fail, ↓r_br, ↓r_bind, ↓r_iter, ↓r_req, decide_eq_true_eq, Bool.not_eq_eq_eq_not, decide_eq_false_iff_not, ite_not, inB_t', app_t', bnd_t', str_t', nz_t, Int.reduceEq, Int.reduceLT, Int.reduceLE, w64', Option.bind_some, Option.bind_none, List.length_cons, List.length_nil, List.length_append, Nat.zero_add, if_pos, if_neg, decide_true, decide_false, if_true, if_false, Bool.not_true, Bool.not_false, Bool.false_eq_true, Bool.true_eq_false, not_true_eq_false, not_false_eq_true, ↓reduceIte, List.nil_append, hon, coat_DueDays_c2, T_coat_DueDays_c2, c]
        all_goals rfl
      · by_cases q : j = i
        · subst q; exact decide_eq_false c
        · exact hj j (by omega)
  · right
    rw [e, show (100001 - s.2.2.1).toNat - i = 0 by omega, fd]
    simp (maxSteps := 1000000) (disch := first | omega | assumption) only [↓r_ret, ↓r_fail, ↓r_br, ↓r_bind, ↓r_iter, ↓r_req, decide_eq_true_eq, Bool.not_eq_eq_eq_not, decide_eq_false_iff_not, ite_not, inB_t', app_t', bnd_t', str_t', nz_t, Int.reduceEq, Int.reduceLT, Int.reduceLE, w64', Option.bind_some, Option.bind_none, List.length_cons, List.length_nil, List.length_append, Nat.zero_add, if_pos, if_neg, decide_true, decide_false, if_true, if_false, Bool.not_true, Bool.not_false, Bool.false_eq_true, Bool.true_eq_false, not_true_eq_false, not_false_eq_true, ↓reduceIte, List.nil_append, ]
    all_goals rfl
theorem k_dueHi {a : Ag} {s : Sf} {least : Int} (ha : agE a = 0) (hs : SfOk a s) :
    coat_DueDays_c1xDueDaysc3 least (a, s) = some ((fd (dkHi a s least) s.2.2.1 (100001 - s.2.2.1).toNat, ()), (least, ((a, s), ()))) := by
  obtain ⟨h1, h2, h3⟩ := hs
  simp only [coat_DueDays_c1xDueDaysc3, T_coat_DueDays_c1xDueDaysc3]
  rw [r_iter]
  refine iter_eq (fun i x => x = (s.2.2.1 + i, (a, s), least, ()) ∧ ∀ j : Nat, j < i → dkHi a s least (s.2.2.1 + j) = false) _ (100001 - s.2.2.1).toNat (by omega) ?_ ⟨by simp, fun j hj => by omega⟩
  rintro i x hi ⟨rfl, hj⟩
  simp only [T_coat_DueDays_c1xDueDaysc3xl0]
  have e : fd (dkHi a s least) s.2.2.1 (100001 - s.2.2.1).toNat = fd (dkHi a s least) (s.2.2.1 + i) ((100001 - s.2.2.1).toNat - i) := by
    rw [← fd_skip hj, show i + ((100001 - s.2.2.1).toNat - i) = (100001 - s.2.2.1).toNat by omega]
  by_cases hlt : i < (100001 - s.2.2.1).toNat
  · have hon := k_film_on (day := s.2.2.1 + i) ha ⟨h1, h2, h3⟩ (by omega)
    by_cases c : (agd a s.2.2.2 (s.2.2.1 + i - s.2.2.1)).2 < least
    · right
      rw [e, show (100001 - s.2.2.1).toNat - i = ((100001 - s.2.2.1).toNat - i - 1) + 1 by omega, fd, if_pos (show dkHi a s least (s.2.2.1 + i) = true from decide_eq_true c)]
      simp (maxSteps := 1000000) (disch := first | omega | assumption) only [↓r_ret, ↓r_fail, ↓r_br, ↓r_bind, ↓r_iter, ↓r_req, decide_eq_true_eq, Bool.not_eq_eq_eq_not, decide_eq_false_iff_not, ite_not, inB_t', app_t', bnd_t', str_t', nz_t, Int.reduceEq, Int.reduceLT, Int.reduceLE, w64', Option.bind_some, Option.bind_none, List.length_cons, List.length_nil, List.length_append, Nat.zero_add, if_pos, if_neg, decide_true, decide_false, if_true, if_false, Bool.not_true, Bool.not_false, Bool.false_eq_true, Bool.true_eq_false, not_true_eq_false, not_false_eq_true, ↓reduceIte, List.nil_append, hon, coat_DueDays_c3, T_coat_DueDays_c3, c]
      all_goals rfl
    · left
      refine ⟨(s.2.2.1 + (i + 1 : Nat), (a, s), least, ()), ?_, hlt, rfl, fun j hj2 => ?_⟩
      · rw [show s.2.2.1 + ((i + 1 : Nat) : Int) = s.2.2.1 + i + 1 by omega]
        simp (maxSteps := 1000000) (disch := first | omega | assumption) only [↓r_ret, ↓r_fail, ↓r_br, ↓r_bind, ↓r_iter, ↓r_req, decide_eq_true_eq, Bool.not_eq_eq_eq_not, decide_eq_false_iff_not, ite_not, inB_t', app_t', bnd_t', str_t', nz_t, Int.reduceEq, Int.reduceLT, Int.reduceLE, w64', Option.bind_some, Option.bind_none, List.length_cons, List.length_nil, List.length_append, Nat.zero_add, if_pos, if_neg, decide_true, decide_false, if_true, if_false, Bool.not_true, Bool.not_false, Bool.false_eq_true, Bool.true_eq_false, not_true_eq_false, not_false_eq_true, ↓reduceIte, List.nil_append, hon, coat_DueDays_c3, T_coat_DueDays_c3, c]
        all_goals rfl
      · by_cases q : j = i
        · subst q; exact decide_eq_false c
        · exact hj j (by omega)
  · right
    rw [e, show (100001 - s.2.2.1).toNat - i = 0 by omega, fd]
    simp (maxSteps := 1000000) (disch := first | omega | assumption) only [↓r_ret, ↓r_fail, ↓r_br, ↓r_bind, ↓r_iter, ↓r_req, decide_eq_true_eq, Bool.not_eq_eq_eq_not, decide_eq_false_iff_not, ite_not, inB_t', app_t', bnd_t', str_t', nz_t, Int.reduceEq, Int.reduceLT, Int.reduceLE, w64', Option.bind_some, Option.bind_none, List.length_cons, List.length_nil, List.length_append, Nat.zero_add, if_pos, if_neg, decide_true, decide_false, if_true, if_false, Bool.not_true, Bool.not_false, Bool.false_eq_true, Bool.true_eq_false, not_true_eq_false, not_false_eq_true, ↓reduceIte, List.nil_append, ]
    all_goals rfl

/-! ### The program's answer -/

abbrev end_ (a : Ag) (l : List Ev) : Sf := flm a l l.length
def duE (a : Ag) (l : List Ev) (least : Int) : Int := if folE a l = 0 then (if (flm a l l.length).1 = true then (if 0 ≤ least ∧ least ≤ 1000 then 0 else 2) else 24) else folE a l
def duLo (a : Ag) (l : List Ev) (least : Int) : Int := fd (dkLo a (flm a l l.length) least) (flm a l l.length).2.2.1 (100001 - (flm a l l.length).2.2.1).toNat
def duHi (a : Ag) (l : List Ev) (least : Int) : Int := fd (dkHi a (flm a l l.length) least) (flm a l l.length).2.2.1 (100001 - (flm a l l.length).2.2.1).toNat
def duV (a : Ag) (l : List Ev) (least : Int) : Int × Int := if duE a l least = 0 then (duLo a l least, duHi a l least) else (0, 0)

theorem thn_end {a : Ag} {l : List Ev} (hp : ∀ j, j < l.length → hsE a l j = 0) {day : Int} (h : ∀ j : Nat, j < l.length → (gi l (j : Int)).2.1 ≤ day) : thn a l day l.length = flm a l l.length := by
  rw [thn_cnt, cnt_all h]
theorem days_max {a : Ag} {l : List Ev} (hp : ∀ j, j < l.length → hsE a l j = 0) : ∀ j : Nat, j < l.length → (gi l (j : Int)).2.1 ≤ 100000 := fun j hj => (evE_0 (hsE_0 (hp j hj)).1).1.2

theorem k_DueDays {a : Ag} {l : List Ev} (hl : l.length ≤ 1048576) (hw : EvOk l) (least : Int) : coat_DueDays a l least = some ((duV a l least, (duE a l least, ())), ()) := by
  have h := k_follow (a := a) hl hw 100000
  simp only [coat_DueDays, T_coat_DueDays]
  by_cases c : folE a l = 0
  · obtain ⟨ha, h0, h40, hp⟩ := folE_inv c
    have e1 : folV a l 100000 = (a, flm a l l.length) := by unfold folV; rw [if_pos c, thn_end hp (days_max hp)]
    rw [c, e1] at h
    have hs := flm_ok ha l.length hp
    have hlo := k_dueLo (least := least) ha hs
    have hhi := k_dueHi (least := least) ha hs
    by_cases c2 : (flm a l l.length).1 = true
    · by_cases c3 : 0 ≤ least ∧ least ≤ 1000
      · have e2 : duE a l least = 0 := by unfold duE; rw [if_pos c, if_pos c2, if_pos c3]
        have e3 : duV a l least = (duLo a l least, duHi a l least) := if_pos e2
        rw [e2, e3]
        unfold duLo duHi
        clear e1 e2 e3 hs hp
        generalize flm a l l.length = s at *
        obtain ⟨s1, s2⟩ := s
        simp only at c2
        subst c2
        simp (maxSteps := 1000000) (disch := first | omega | assumption) only [↓r_ret, ↓r_fail, ↓r_br, ↓r_bind, ↓r_iter, ↓r_req, decide_eq_true_eq, Bool.not_eq_eq_eq_not, decide_eq_false_iff_not, ite_not, inB_t', app_t', bnd_t', str_t', nz_t, Int.reduceEq, Int.reduceLT, Int.reduceLE, w64', Option.bind_some, Option.bind_none, List.length_cons, List.length_nil, List.length_append, Nat.zero_add, if_pos, if_neg, decide_true, decide_false, if_true, if_false, Bool.not_true, Bool.not_false, Bool.false_eq_true, Bool.true_eq_false, not_true_eq_false, not_false_eq_true, ↓reduceIte, List.nil_append, h, k_within, c3, and_self, hlo, hhi]
        all_goals rfl
      · have e2 : duE a l least = 2 := by unfold duE; rw [if_pos c, if_pos c2, if_neg c3]
        have e3 : duV a l least = (0, 0) := if_neg (by rw [e2]; decide)
        rw [e2, e3]
        simp (maxSteps := 1000000) (disch := first | omega | assumption) only [↓r_ret, ↓r_fail, ↓r_br, ↓r_bind, ↓r_iter, ↓r_req, decide_eq_true_eq, Bool.not_eq_eq_eq_not, decide_eq_false_iff_not, ite_not, inB_t', app_t', bnd_t', str_t', nz_t, Int.reduceEq, Int.reduceLT, Int.reduceLE, w64', Option.bind_some, Option.bind_none, List.length_cons, List.length_nil, List.length_append, Nat.zero_add, if_pos, if_neg, decide_true, decide_false, if_true, if_false, Bool.not_true, Bool.not_false, Bool.false_eq_true, Bool.true_eq_false, not_true_eq_false, not_false_eq_true, ↓reduceIte, List.nil_append, h, k_within, c2, c3]
    · have e2 : duE a l least = 24 := by unfold duE; rw [if_pos c, if_neg c2]
      have e3 : duV a l least = (0, 0) := if_neg (by rw [e2]; decide)
      have c4 : (flm a l l.length).1 = false := by simpa using c2
      rw [e2, e3]
      simp (maxSteps := 1000000) (disch := first | omega | assumption) only [↓r_ret, ↓r_fail, ↓r_br, ↓r_bind, ↓r_iter, ↓r_req, decide_eq_true_eq, Bool.not_eq_eq_eq_not, decide_eq_false_iff_not, ite_not, inB_t', app_t', bnd_t', str_t', nz_t, Int.reduceEq, Int.reduceLT, Int.reduceLE, w64', Option.bind_some, Option.bind_none, List.length_cons, List.length_nil, List.length_append, Nat.zero_add, if_pos, if_neg, decide_true, decide_false, if_true, if_false, Bool.not_true, Bool.not_false, Bool.false_eq_true, Bool.true_eq_false, not_true_eq_false, not_false_eq_true, ↓reduceIte, List.nil_append, h, c4]
  · have e1 : folV a l 100000 = fmD := if_neg c
    have e2 : duE a l least = folE a l := if_neg c
    have e3 : duV a l least = (0, 0) := if_neg (by rw [e2]; exact c)
    rw [e2, e3]
    simp (maxSteps := 1000000) (disch := first | omega | assumption) only [↓r_ret, ↓r_fail, ↓r_br, ↓r_bind, ↓r_iter, ↓r_req, decide_eq_true_eq, Bool.not_eq_eq_eq_not, decide_eq_false_iff_not, ite_not, inB_t', app_t', bnd_t', str_t', nz_t, Int.reduceEq, Int.reduceLT, Int.reduceLE, w64', Option.bind_some, Option.bind_none, List.length_cons, List.length_nil, List.length_append, Nat.zero_add, if_pos, if_neg, decide_true, decide_false, if_true, if_false, Bool.not_true, Bool.not_false, Bool.false_eq_true, Bool.true_eq_false, not_true_eq_false, not_false_eq_true, ↓reduceIte, List.nil_append, h, c]

/-! ### The reference -/

theorem flm_last {a : Ag} {l : List Ev} {i : Nat} (h : (flm a l (i + 1)).1 = true) (h2 : evE (gi l (i : Int)) = 0) : (flm a l (i + 1)).2.2.1 = (gi l (i : Int)).2.1 := by
  obtain ⟨e1, e2⟩ := evE_0 h2
  simp only [flm, stp] at h ⊢
  rcases e2 with e | e | e
  · rw [if_pos e]
  · rw [if_neg (by omega), if_pos e]
  · rw [if_neg (by omega), if_neg (by omega)] at h; cases h
/-- The end of a right history that leaves a coating. -/
theorem end_day {a : Ag} {l : List Ev} (hp : ∀ j, j < l.length → hsE a l j = 0) (h : (flm a l l.length).1 = true) : 0 < l.length ∧ (flm a l l.length).2.2.1 = (gi l ((l.length : Int) - 1)).2.1 := by
  have h0 : 0 < l.length := by
    rcases Nat.eq_zero_or_pos l.length with e | e
    · rw [e] at h; cases h
    · exact e
  refine ⟨h0, ?_⟩
  obtain ⟨n, hn⟩ : ∃ n, l.length = n + 1 := ⟨l.length - 1, by omega⟩
  rw [hn] at h hp ⊢
  rw [flm_last h (hsE_0 (hp n (by omega))).1, show ((n + 1 : Nat) : Int) - 1 = (n : Int) by omega]
theorem days_last {a : Ag} {l : List Ev} (hp : ∀ j, j < l.length → hsE a l j = 0) (h0 : 0 < l.length) {day : Int} (h : (gi l ((l.length : Int) - 1)).2.1 ≤ day) : ∀ j : Nat, j < l.length → (gi l (j : Int)).2.1 ≤ day := fun j hj => by
  have := days_mono hp (j := l.length - 1) (i := j) (by omega) (by omega)
  rw [show ((l.length - 1 : Nat) : Int) = (l.length : Int) - 1 by omega] at this
  omega
theorem agd_0 {a : Ag} {r : Int × Int} (hr : 0 ≤ r.1 ∧ r.1 ≤ r.2 ∧ r.2 ≤ 1000) : agd a r 0 = r := by
  unfold agd cdiv
  simp only [Int.mul_zero]
  obtain ⟨r1, r2⟩ := r
  simp only at hr ⊢
  rw [show (0 : Int) - (0 - 0) / 1000 = 0 by decide, show (0 : Int) / 1000 = 0 by decide, Int.sub_zero, Int.sub_zero, Int.max_eq_right (by omega), Int.max_eq_right (by omega)]

theorem fd_down {p : Int → Bool} {s : Int} {n : Nat} : fd p s (n + 1) = if p s = true then s else fd p (s + 1) n := rfl
theorem k_rDueDays {a : Ag} {l : List Ev} (c : folE a l = 0) (least : Int) : ref08xDueDays a l least = some ((duV a l least, (duE a l least, ())), ()) := by
  obtain ⟨ha, h0, h40, hp⟩ := folE_inv c
  obtain ⟨g1, g2, g3, g4⟩ := agE_0 ha
  have hst := k_rstate (a := a) (l := l) (by omega) g4
  have hn := sta_neg ha hp
  have hs := flm_ok ha l.length hp
  simp only [ref08xDueDays, T_ref08xDueDays]
  by_cases c2 : (flm a l l.length).1 = true
  · have n1 : ¬ sta a.2.2.2 l l.length < 0 := fun h => hn.1 h c2
    by_cases c3 : 0 ≤ least ∧ least ≤ 1000
    · have e2 : duE a l least = 0 := by unfold duE; rw [if_pos c, if_pos c2, if_pos c3]
      have e3 : duV a l least = (duLo a l least, duHi a l least) := if_pos e2
      rw [e2, e3]
      obtain ⟨k1, k2⟩ := end_day hp c2
      have hb := k_rBright ha h0 (day := (gi l ((l.length : Int) - 1)).2.1) (by
        have := days_max hp (l.length - 1) (by omega)
        have q := (evE_0 (hsE_0 (hp (l.length - 1) (by omega))).1).1
        rw [show ((l.length - 1 : Nat) : Int) = (l.length : Int) - 1 by omega] at this q
        omega)
      rw [cnt_all (days_last hp k1 (Int.le_refl _)), k2, Int.sub_self, agd_0 hs.2.2] at hb
      simp (maxSteps := 1000000) (disch := first | omega | assumption) only [↓r_ret, ↓r_fail, ↓r_br, ↓r_bind, ↓r_iter, ↓r_req, decide_eq_true_eq, Bool.not_eq_eq_eq_not, decide_eq_false_iff_not, ite_not, inB_t', app_t', bnd_t', str_t', nz_t, Int.reduceEq, Int.reduceLT, Int.reduceLE, w64', Option.bind_some, Option.bind_none, List.length_cons, List.length_nil, List.length_append, Nat.zero_add, if_pos, if_neg, decide_true, decide_false, if_true, if_false, Bool.not_true, Bool.not_false, Bool.false_eq_true, Bool.true_eq_false, not_true_eq_false, not_false_eq_true, ↓reduceIte, List.nil_append, hst, n1, k_Within, c3, and_self, hb]
      have hs' := hs
      obtain ⟨h1, h2, h3⟩ := hs'
      refine iter_eq (fun i x => x = (100000 - (i : Int), (fd (dkLo a (flm a l l.length) least) (100001 - (i : Int)) i, fd (dkHi a (flm a l l.length) least) (100001 - (i : Int)) i), ())) _ (100001 - (flm a l l.length).2.2.1).toNat (by omega) ?_ rfl
      rintro i x hi rfl
      simp only [T_ref08xDueDays_l3]
      by_cases hlt : i < (100001 - (flm a l l.length).2.2.1).toNat
      · left
        have hag := k_aged (d := 100000 - (i : Int) - (gi l ((l.length : Int) - 1)).2.1) ha h3 (by omega)
        have q1 : dkLo a (flm a l l.length) least (100000 - (i : Int)) = decide ((agd a (flm a l l.length).2.2.2 (100000 - (i : Int) - (gi l ((l.length : Int) - 1)).2.1)).1 < least) := by unfold dkLo; rw [k2]
        have q2 : dkHi a (flm a l l.length) least (100000 - (i : Int)) = decide ((agd a (flm a l l.length).2.2.2 (100000 - (i : Int) - (gi l ((l.length : Int) - 1)).2.1)).2 < least) := by unfold dkHi; rw [k2]
        refine ⟨_, ?_, hlt, rfl⟩
        rw [fd_down, fd_down, show (100001 : Int) - ((i + 1 : Nat) : Int) = 100000 - (i : Int) by omega, show (100000 : Int) - ((i + 1 : Nat) : Int) = 100000 - (i : Int) - 1 by omega, q1, q2, show (100000 : Int) - (i : Int) + 1 = 100001 - (i : Int) by omega]
        rw [k2] at hlt h2
        by_cases d1 : (agd a (flm a l l.length).2.2.2 (100000 - (i : Int) - (gi l ((l.length : Int) - 1)).2.1)).1 < least
        · by_cases d2 : (agd a (flm a l l.length).2.2.2 (100000 - (i : Int) - (gi l ((l.length : Int) - 1)).2.1)).2 < least
          · simp (maxSteps := 1000000) (disch := first | omega | assumption) only [↓r_ret, ↓r_fail, ↓r_br, ↓r_bind, ↓r_iter, ↓r_req, decide_eq_true_eq, Bool.not_eq_eq_eq_not, decide_eq_false_iff_not, ite_not, inB_t', app_t', bnd_t', str_t', nz_t, Int.reduceEq, Int.reduceLT, Int.reduceLE, w64', Option.bind_some, Option.bind_none, List.length_cons, List.length_nil, List.length_append, Nat.zero_add, if_pos, if_neg, decide_true, decide_false, if_true, if_false, Bool.not_true, Bool.not_false, Bool.false_eq_true, Bool.true_eq_false, not_true_eq_false, not_false_eq_true, ↓reduceIte, List.nil_append, hag, d1, d2]
            all_goals rfl
          · simp (maxSteps := 1000000) (disch := first | omega | assumption) only [↓r_ret, ↓r_fail, ↓r_br, ↓r_bind, ↓r_iter, ↓r_req, decide_eq_true_eq, Bool.not_eq_eq_eq_not, decide_eq_false_iff_not, ite_not, inB_t', app_t', bnd_t', str_t', nz_t, Int.reduceEq, Int.reduceLT, Int.reduceLE, w64', Option.bind_some, Option.bind_none, List.length_cons, List.length_nil, List.length_append, Nat.zero_add, if_pos, if_neg, decide_true, decide_false, if_true, if_false, Bool.not_true, Bool.not_false, Bool.false_eq_true, Bool.true_eq_false, not_true_eq_false, not_false_eq_true, ↓reduceIte, List.nil_append, hag, d1, d2]
            all_goals rfl
        · by_cases d2 : (agd a (flm a l l.length).2.2.2 (100000 - (i : Int) - (gi l ((l.length : Int) - 1)).2.1)).2 < least
          · simp (maxSteps := 1000000) (disch := first | omega | assumption) only [↓r_ret, ↓r_fail, ↓r_br, ↓r_bind, ↓r_iter, ↓r_req, decide_eq_true_eq, Bool.not_eq_eq_eq_not, decide_eq_false_iff_not, ite_not, inB_t', app_t', bnd_t', str_t', nz_t, Int.reduceEq, Int.reduceLT, Int.reduceLE, w64', Option.bind_some, Option.bind_none, List.length_cons, List.length_nil, List.length_append, Nat.zero_add, if_pos, if_neg, decide_true, decide_false, if_true, if_false, Bool.not_true, Bool.not_false, Bool.false_eq_true, Bool.true_eq_false, not_true_eq_false, not_false_eq_true, ↓reduceIte, List.nil_append, hag, d1, d2]
            all_goals rfl
          · simp (maxSteps := 1000000) (disch := first | omega | assumption) only [↓r_ret, ↓r_fail, ↓r_br, ↓r_bind, ↓r_iter, ↓r_req, decide_eq_true_eq, Bool.not_eq_eq_eq_not, decide_eq_false_iff_not, ite_not, inB_t', app_t', bnd_t', str_t', nz_t, Int.reduceEq, Int.reduceLT, Int.reduceLE, w64', Option.bind_some, Option.bind_none, List.length_cons, List.length_nil, List.length_append, Nat.zero_add, if_pos, if_neg, decide_true, decide_false, if_true, if_false, Bool.not_true, Bool.not_false, Bool.false_eq_true, Bool.true_eq_false, not_true_eq_false, not_false_eq_true, ↓reduceIte, List.nil_append, hag, d1, d2]
            all_goals rfl
      · right
        have e : i = (100001 - (flm a l l.length).2.2.1).toNat := by omega
        have e4 : (100001 : Int) - (i : Int) = (flm a l l.length).2.2.1 := by omega
        unfold duLo duHi
        rw [e4, ← e]
        rw [k2] at hlt h2 e4
        simp (maxSteps := 1000000) (disch := first | omega | assumption) only [↓r_ret, ↓r_fail, ↓r_br, ↓r_bind, ↓r_iter, ↓r_req, decide_eq_true_eq, Bool.not_eq_eq_eq_not, decide_eq_false_iff_not, ite_not, inB_t', app_t', bnd_t', str_t', nz_t, Int.reduceEq, Int.reduceLT, Int.reduceLE, w64', Option.bind_some, Option.bind_none, List.length_cons, List.length_nil, List.length_append, Nat.zero_add, if_pos, if_neg, decide_true, decide_false, if_true, if_false, Bool.not_true, Bool.not_false, Bool.false_eq_true, Bool.true_eq_false, not_true_eq_false, not_false_eq_true, ↓reduceIte, List.nil_append, ]
        all_goals rfl
    · have e2 : duE a l least = 2 := by unfold duE; rw [if_pos c, if_pos c2, if_neg c3]
      have e3 : duV a l least = (0, 0) := if_neg (by rw [e2]; decide)
      rw [e2, e3]
      simp (maxSteps := 1000000) (disch := first | omega | assumption) only [↓r_ret, ↓r_fail, ↓r_br, ↓r_bind, ↓r_iter, ↓r_req, decide_eq_true_eq, Bool.not_eq_eq_eq_not, decide_eq_false_iff_not, ite_not, inB_t', app_t', bnd_t', str_t', nz_t, Int.reduceEq, Int.reduceLT, Int.reduceLE, w64', Option.bind_some, Option.bind_none, List.length_cons, List.length_nil, List.length_append, Nat.zero_add, if_pos, if_neg, decide_true, decide_false, if_true, if_false, Bool.not_true, Bool.not_false, Bool.false_eq_true, Bool.true_eq_false, not_true_eq_false, not_false_eq_true, ↓reduceIte, List.nil_append, hst, n1, k_Within, c3]
  · have n1 : sta a.2.2.2 l l.length < 0 := hn.2 c2
    have e2 : duE a l least = 24 := by unfold duE; rw [if_pos c, if_neg c2]
    have e3 : duV a l least = (0, 0) := if_neg (by rw [e2]; decide)
    rw [e2, e3]
    simp (maxSteps := 1000000) (disch := first | omega | assumption) only [↓r_ret, ↓r_fail, ↓r_br, ↓r_bind, ↓r_iter, ↓r_req, decide_eq_true_eq, Bool.not_eq_eq_eq_not, decide_eq_false_iff_not, ite_not, inB_t', app_t', bnd_t', str_t', nz_t, Int.reduceEq, Int.reduceLT, Int.reduceLE, w64', Option.bind_some, Option.bind_none, List.length_cons, List.length_nil, List.length_append, Nat.zero_add, if_pos, if_neg, decide_true, decide_false, if_true, if_false, Bool.not_true, Bool.not_false, Bool.false_eq_true, Bool.true_eq_false, not_true_eq_false, not_false_eq_true, ↓reduceIte, List.nil_append, hst, n1]
end Go.Ab
end

section
namespace Go.Ab
open Go
set_option maxRecDepth 1000000
set_option maxHeartbeats 4000000
set_option linter.unusedVariables false
set_option linter.unusedSimpArgs false
attribute [local congr] bindC iterC

/-- The brightness behind the last event. -/
theorem br_late {a : Ag} {l : List Ev} (c : folE a l = 0) (c2 : (flm a l l.length).1 = true) {day : Int} (h1 : (flm a l l.length).2.2.1 ≤ day) (h2 : day ≤ 100000) :
    brE a l day = 0 ∧ brV a l day = agd a (flm a l l.length).2.2.2 (day - (flm a l l.length).2.2.1) := by
  obtain ⟨ha, h0, h40, hp⟩ := folE_inv c
  obtain ⟨k1, k2⟩ := end_day hp c2
  have hs := (flm_ok ha l.length hp).2.1
  have e := thn_end hp (day := day) (days_last hp k1 (by omega))
  have e1 : rdE a l day = 0 := by unfold rdE; rw [if_pos c, if_pos (by omega)]
  have e2 : brE a l day = 0 := by unfold brE; rw [if_pos e1, e, if_pos c2]
  refine ⟨e2, ?_⟩
  unfold brV
  rw [if_pos e2, e]

theorem k_CoatDue0 {a : Ag} {l : List Ev} (hl : l.length ≤ 1048576) (hw : EvOk l) (least : Int) : law08xCoatDue a l least = some ((true, ()), ()) := by
  obtain ⟨b1, hb1⟩ := k_Past hl
  have hk := k_DueDays (a := a) hl hw least
  have hq := k_past (a := a) hl hw
  simp only [law08xCoatDue, T_law08xCoatDue]
  cases b1 with
  | false => simp (maxSteps := 1000000) (disch := first | omega | assumption) only [↓r_ret, ↓r_fail, ↓r_br, ↓r_bind, ↓r_iter, ↓r_req, decide_eq_true_eq, Bool.not_eq_eq_eq_not, decide_eq_false_iff_not, ite_not, inB_t', app_t', bnd_t', str_t', nz_t, Int.reduceEq, Int.reduceLT, Int.reduceLE, w64', Option.bind_some, Option.bind_none, List.length_cons, List.length_nil, List.length_append, Nat.zero_add, if_pos, if_neg, decide_true, decide_false, if_true, if_false, Bool.not_true, Bool.not_false, Bool.false_eq_true, Bool.true_eq_false, not_true_eq_false, not_false_eq_true, ↓reduceIte, List.nil_append, awake_ok, hb1]
  | true =>
    by_cases c : folE a l = 0
    · rw [c] at hq
      have hr := k_rDueDays c least
      obtain ⟨ha, h0, h40, hp⟩ := folE_inv c
      by_cases c3 : duE a l least = 0
      · rw [c3] at hk hr
        have c2 : (flm a l l.length).1 = true := by
          unfold duE at c3
          rw [if_pos c] at c3
          split at c3
          · assumption
          · cases c3
        obtain ⟨k1, k2⟩ := end_day hp c2
        have e3 : duV a l least = (duLo a l least, duHi a l least) := by unfold duV; rw [if_pos c3]
        rw [e3] at hk hr
        have hs := (flm_ok ha l.length hp).2.1
        by_cases d1 : 100000 < duLo a l least
        · simp (maxSteps := 1000000) (disch := first | omega | assumption) only [↓r_ret, ↓r_fail, ↓r_br, ↓r_bind, ↓r_iter, ↓r_req, decide_eq_true_eq, Bool.not_eq_eq_eq_not, decide_eq_false_iff_not, ite_not, inB_t', app_t', bnd_t', str_t', nz_t, Int.reduceEq, Int.reduceLT, Int.reduceLE, w64', Option.bind_some, Option.bind_none, List.length_cons, List.length_nil, List.length_append, Nat.zero_add, if_pos, if_neg, decide_true, decide_false, if_true, if_false, Bool.not_true, Bool.not_false, Bool.false_eq_true, Bool.true_eq_false, not_true_eq_false, not_false_eq_true, ↓reduceIte, List.nil_append, awake_ok, hb1, k_events, hk, hq, hr, Bool.and_self, d1]
        · by_cases d2 : duLo a l least ≤ (gi l ((l.length : Int) - 1)).2.1
          · simp (maxSteps := 1000000) (disch := first | omega | assumption) only [↓r_ret, ↓r_fail, ↓r_br, ↓r_bind, ↓r_iter, ↓r_req, decide_eq_true_eq, Bool.not_eq_eq_eq_not, decide_eq_false_iff_not, ite_not, inB_t', app_t', bnd_t', str_t', nz_t, Int.reduceEq, Int.reduceLT, Int.reduceLE, w64', Option.bind_some, Option.bind_none, List.length_cons, List.length_nil, List.length_append, Nat.zero_add, if_pos, if_neg, decide_true, decide_false, if_true, if_false, Bool.not_true, Bool.not_false, Bool.false_eq_true, Bool.true_eq_false, not_true_eq_false, not_false_eq_true, ↓reduceIte, List.nil_append, awake_ok, hb1, k_events, hk, hq, hr, Bool.and_self, d1, d2]
          · obtain ⟨u1, u2⟩ := br_late c c2 (day := duLo a l least) (by omega) (by omega)
            obtain ⟨v1, v2⟩ := br_late c c2 (day := duLo a l least - 1) (by omega) (by omega)
            have hb := k_Bright (a := a) hl hw (duLo a l least)
            have hb2 := k_Bright (a := a) hl hw (duLo a l least - 1)
            rw [u1, u2] at hb
            rw [v1, v2] at hb2
            have q1 : dkLo a (flm a l l.length) least (duLo a l least) = true := fd_at (n := (100001 - (flm a l l.length).2.2.1).toNat) (by unfold duLo at d1; omega)
            have q2 : dkLo a (flm a l l.length) least (duLo a l least - 1) = false := fd_before (n := (100001 - (flm a l l.length).2.2.1).toNat) (s := (flm a l l.length).2.2.1) (by omega) (by unfold duLo; omega)
            have q3 : (agd a (flm a l l.length).2.2.2 (duLo a l least - (flm a l l.length).2.2.1)).1 < least := of_decide_eq_true q1
            have q4 : least ≤ (agd a (flm a l l.length).2.2.2 (duLo a l least - 1 - (flm a l l.length).2.2.1)).1 := Int.not_lt.1 (of_decide_eq_false q2)
            clear e3 u1 u2 v1 v2 q1 q2
            simp (maxSteps := 1000000) (disch := first | omega | assumption) only [↓r_ret, ↓r_fail, ↓r_br, ↓r_bind, ↓r_iter, ↓r_req, decide_eq_true_eq, Bool.not_eq_eq_eq_not, decide_eq_false_iff_not, ite_not, inB_t', app_t', bnd_t', str_t', nz_t, Int.reduceEq, Int.reduceLT, Int.reduceLE, w64', Option.bind_some, Option.bind_none, List.length_cons, List.length_nil, List.length_append, Nat.zero_add, if_pos, if_neg, decide_true, decide_false, if_true, if_false, Bool.not_true, Bool.not_false, Bool.false_eq_true, Bool.true_eq_false, not_true_eq_false, not_false_eq_true, ↓reduceIte, List.nil_append, awake_ok, hb1, k_events, hk, hq, hr, Bool.and_self, d1, d2, hb, hb2, q3, q4]
      · have e3 : duV a l least = (0, 0) := by unfold duV; rw [if_neg c3]
        rw [e3] at hk hr
        simp (maxSteps := 1000000) (disch := first | omega | assumption) only [↓r_ret, ↓r_fail, ↓r_br, ↓r_bind, ↓r_iter, ↓r_req, decide_eq_true_eq, Bool.not_eq_eq_eq_not, decide_eq_false_iff_not, ite_not, inB_t', app_t', bnd_t', str_t', nz_t, Int.reduceEq, Int.reduceLT, Int.reduceLE, w64', Option.bind_some, Option.bind_none, List.length_cons, List.length_nil, List.length_append, Nat.zero_add, if_pos, if_neg, decide_true, decide_false, if_true, if_false, Bool.not_true, Bool.not_false, Bool.false_eq_true, Bool.true_eq_false, not_true_eq_false, not_false_eq_true, ↓reduceIte, List.nil_append, awake_ok, hb1, k_events, hk, hq, hr, Bool.and_self, c3]
    · have e2 : duE a l least = folE a l := if_neg c
      have e3 : duV a l least = (0, 0) := if_neg (by rw [e2]; exact c)
      rw [e2, e3] at hk
      simp (maxSteps := 1000000) (disch := first | omega | assumption) only [↓r_ret, ↓r_fail, ↓r_br, ↓r_bind, ↓r_iter, ↓r_req, decide_eq_true_eq, Bool.not_eq_eq_eq_not, decide_eq_false_iff_not, ite_not, inB_t', app_t', bnd_t', str_t', nz_t, Int.reduceEq, Int.reduceLT, Int.reduceLE, w64', Option.bind_some, Option.bind_none, List.length_cons, List.length_nil, List.length_append, Nat.zero_add, if_pos, if_neg, decide_true, decide_false, if_true, if_false, Bool.not_true, Bool.not_false, Bool.false_eq_true, Bool.true_eq_false, not_true_eq_false, not_false_eq_true, ↓reduceIte, List.nil_append, awake_ok, hb1, k_events, hk, hq, c, Bool.and_self]
theorem k_CoatDue {a : Ag} {l : List Ev} {least : Int} (b0 : bulkT (.pair (.pair (.int .i64) (.int .i64)) (.pair (.pair (.int .i64) (.int .i64)) (.pair (.pair (.int .i64) (.int .i64)) (.int .i64)))) a ≤ 1048576) (w0 : wfT (.pair (.pair (.int .i64) (.int .i64)) (.pair (.pair (.int .i64) (.int .i64)) (.pair (.pair (.int .i64) (.int .i64)) (.int .i64)))) a)
    (b1 : bulkT (.list (.pair .str (.pair (.int .i64) (.int .i64)))) l ≤ 1048576) (w1 : wfT (.list (.pair .str (.pair (.int .i64) (.int .i64)))) l) (b2 : bulkT (.int .i64) least ≤ 1048576) (w2 : wfT (.int .i64) least) : law08xCoatDue a l least = some ((true, ()), ()) :=
  k_CoatDue0 (evs_in b1).1 (evs_in b1).2 least

/-! ### Fades -/

theorem cdiv_mono {u v b : Int} (hb : 0 < b) (h : u ≤ v) : cdiv u b ≤ cdiv v b := by
  have := Int.ediv_le_ediv (a := 0 - v) (b := 0 - u) hb (by omega)
  unfold cdiv; omega
/-- Later days are darker. -/
theorem agd_later {a : Ag} (ha : agE a = 0) (r : Int × Int) {d e : Int} (h : d ≤ e) : (agd a r e).1 ≤ (agd a r d).1 ∧ (agd a r e).2 ≤ (agd a r d).2 := by
  obtain ⟨-, g, -, -⟩ := agE_0 ha
  have m1 := cdiv_mono (b := 1000) (by omega) (Int.mul_le_mul_of_nonneg_left h (c := a.2.1.2) (by omega))
  have m2 := Int.ediv_le_ediv (c := 1000) (by omega) (Int.mul_le_mul_of_nonneg_left h (c := a.2.1.1) (by omega))
  simp only [agd]; omega
/-- Greater losses are darker. -/
theorem agd_more {a m : Ag} (h1 : a.2.1.1 ≤ m.2.1.1) (h2 : a.2.1.2 ≤ m.2.1.2) {r q : Int × Int} (h3 : q.1 ≤ r.1) (h4 : q.2 ≤ r.2) {d : Int} (hd : 0 ≤ d) : (agd m q d).1 ≤ (agd a r d).1 ∧ (agd m q d).2 ≤ (agd a r d).2 := by
  have m1 := cdiv_mono (b := 1000) (by omega) (Int.mul_le_mul_of_nonneg_right h2 hd)
  have m2 := Int.ediv_le_ediv (c := 1000) (by omega) (Int.mul_le_mul_of_nonneg_right h1 hd)
  simp only [agd]; omega
theorem flm_same {a m : Ag} (l : List Ev) : ∀ i : Nat, (flm m l i).1 = (flm a l i).1 ∧ (flm m l i).2.1 = (flm a l i).2.1 ∧ (flm m l i).2.2.1 = (flm a l i).2.2.1
  | 0 => ⟨rfl, rfl, rfl⟩
  | i + 1 => by
    obtain ⟨h1, h2, h3⟩ := flm_same (a := a) (m := m) l i
    simp only [flm, stp]
    split
    · exact ⟨rfl, rfl, rfl⟩
    · split
      · exact ⟨h1, by simp only [h2], rfl⟩
      · exact ⟨rfl, h2, h3⟩
theorem hsE_same {a m : Ag} (hw : m.2.2.2 = a.2.2.2) (l : List Ev) (i : Nat) : hsE m l i = hsE a l i := by
  obtain ⟨h1, h2, h3⟩ := flm_same (a := a) (m := m) l i
  unfold hsE posE
  rw [hw, h1, h2]
theorem folE_same {a m : Ag} (ha : agE a = 0) (hm : agE m = 0) (hw : m.2.2.2 = a.2.2.2) (l : List Ev) : folE m l = folE a l := by
  unfold folE hisE
  rw [if_pos ha, if_pos hm, firstErr_congr (fun j _ => hsE_same hw l j)]
theorem flm_step_day {a : Ag} {l : List Ev} {i : Nat} (hp : ∀ j, j < i → hsE a l j = 0) (h : hsE a l i = 0) : (flm a l i).2.2.1 ≤ (gi l (i : Int)).2.1 := by
  obtain ⟨h1, h2, h3, h4⟩ := hsE_0 h
  by_cases q : 0 < i
  · exact Int.le_trans (flm_day hp q) (h3 q)
  · have : i = 0 := by omega
    subst this
    simp only [flm, sf0]; exact (evE_0 h1).1.1
theorem flm_less {a m : Ag} (h0 : m.1 = a.1) (h1 : a.2.1.1 ≤ m.2.1.1) (h2 : a.2.1.2 ≤ m.2.1.2) (h3 : m.2.2.1 = a.2.2.1) {l : List Ev} : ∀ {i : Nat}, (∀ j, j < i → hsE a l j = 0) → (flm m l i).2.2.2.1 ≤ (flm a l i).2.2.2.1 ∧ (flm m l i).2.2.2.2 ≤ (flm a l i).2.2.2.2
  | 0, _ => ⟨Int.le_refl _, Int.le_refl _⟩
  | i + 1, hp => by
    have hp' : ∀ j, j < i → hsE a l j = 0 := fun j hj => hp j (by omega)
    obtain ⟨i1, i2⟩ := flm_less h0 h1 h2 h3 (i := i) hp'
    have hd := flm_step_day hp' (hp i (by omega))
    obtain ⟨s1, s2, s3⟩ := flm_same (a := a) (m := m) l i
    obtain ⟨m1, m2⟩ := agd_more h1 h2 i1 i2 (d := (gi l (i : Int)).2.1 - (flm a l i).2.2.1) (by omega)
    simp only [flm, stp]
    split
    · rw [h0]; exact ⟨Int.le_refl _, Int.le_refl _⟩
    · split
      · rw [h0, h3, s3]
        generalize agd a (flm a l i).2.2.2 ((gi l (i : Int)).2.1 - (flm a l i).2.2.1) = r at *
        generalize agd m (flm m l i).2.2.2 ((gi l (i : Int)).2.1 - (flm a l i).2.2.1) = q at *
        simp only; omega
      · exact ⟨i1, i2⟩

def moreL (a : Ag) : Ag := (a.1, (min (a.2.1.1 + 5) 1000, min (a.2.1.2 + 5) 1000), a.2.2)
theorem moreL_ok {a : Ag} (ha : agE a = 0) : agE (moreL a) = 0 := by
  obtain ⟨g1, g2, g3, g4⟩ := agE_0 ha
  have e1 : rgE (moreL a).1 = 0 := if_pos (by simp only [moreL]; omega)
  have e2 : rgE (moreL a).2.1 = 0 := if_pos (by simp only [moreL]; omega)
  have e3 : rgE (moreL a).2.2.1 = 0 := if_pos (by simp only [moreL]; omega)
  have e4 : wsE (moreL a).2.2.2 = 0 := if_pos (by simp only [moreL]; omega)
  have e5 : firstErr (agI (moreL a)) 3 = 0 := firstErr_0 (fun j hj => by
    have : j = 0 ∨ j = 1 ∨ j = 2 := by omega
    rcases this with rfl | rfl | rfl
    · exact e1
    · exact e2
    · exact e3)
  unfold agE
  rw [if_pos e5]; exact e4

theorem k_CoatFades0 {a : Ag} {l : List Ev} (hl : l.length ≤ 1048576) (hw : EvOk l) (days : Int × Int) : law08xCoatFades a l days = some ((true, ()), ()) := by
  obtain ⟨b1, hb1⟩ := k_Past hl
  have hq := k_past (a := a) hl hw
  simp only [law08xCoatFades, T_law08xCoatFades]
  cases b1 with
  | false => simp (maxSteps := 1000000) (disch := first | omega | assumption) only [↓r_ret, ↓r_fail, ↓r_br, ↓r_bind, ↓r_iter, ↓r_req, decide_eq_true_eq, Bool.not_eq_eq_eq_not, decide_eq_false_iff_not, ite_not, inB_t', app_t', bnd_t', str_t', nz_t, Int.reduceEq, Int.reduceLT, Int.reduceLE, w64', Option.bind_some, Option.bind_none, List.length_cons, List.length_nil, List.length_append, Nat.zero_add, if_pos, if_neg, decide_true, decide_false, if_true, if_false, Bool.not_true, Bool.not_false, Bool.false_eq_true, Bool.true_eq_false, not_true_eq_false, not_false_eq_true, ↓reduceIte, List.nil_append, awake_ok, hb1]
  | true =>
    by_cases c : folE a l = 0
    · rw [c] at hq
      by_cases hz : (l.length : Int) = 0
      · simp (maxSteps := 1000000) (disch := first | omega | assumption) only [↓r_ret, ↓r_fail, ↓r_br, ↓r_bind, ↓r_iter, ↓r_req, decide_eq_true_eq, Bool.not_eq_eq_eq_not, decide_eq_false_iff_not, ite_not, inB_t', app_t', bnd_t', str_t', nz_t, Int.reduceEq, Int.reduceLT, Int.reduceLE, w64', Option.bind_some, Option.bind_none, List.length_cons, List.length_nil, List.length_append, Nat.zero_add, if_pos, if_neg, decide_true, decide_false, if_true, if_false, Bool.not_true, Bool.not_false, Bool.false_eq_true, Bool.true_eq_false, not_true_eq_false, not_false_eq_true, ↓reduceIte, List.nil_append, awake_ok, hb1, hq, hz]
      obtain ⟨ha, h0, h40, hp⟩ := folE_inv c
      have hst := k_StateOn ha hp hl 100000
      rw [cnt_all (days_max hp)] at hst
      have hn := sta_neg ha hp
      by_cases c2 : (flm a l l.length).1 = true
      · have n1 : ¬ sta a.2.2.2 l l.length < 0 := fun h => hn.1 h c2
        by_cases d1 : (gi l ((l.length : Int) - 1)).2.1 ≤ days.1 ∧ days.1 ≤ 100000
        · by_cases d2 : days.1 ≤ days.2 ∧ days.2 ≤ 100000
          · obtain ⟨k1, k2⟩ := end_day hp c2
            have hs := flm_ok ha l.length hp
            have hm := moreL_ok ha
            have cm : folE (moreL a) l = 0 := by rw [folE_same ha hm rfl l]; exact c
            obtain ⟨s1, s2, s3⟩ := flm_same (a := a) (m := moreL a) l l.length
            obtain ⟨u1, u2⟩ := br_late c c2 (day := days.1) (by omega) (by omega)
            obtain ⟨v1, v2⟩ := br_late c c2 (day := days.2) (by omega) (by omega)
            obtain ⟨w1, w2⟩ := br_late cm (by rw [s1]; exact c2) (day := days.2) (by omega) (by omega)
            have hb := k_Bright (a := a) hl hw days.1
            have hb2 := k_Bright (a := a) hl hw days.2
            have hb3 := k_Bright (a := moreL a) hl hw days.2
            rw [u1, u2] at hb
            rw [v1, v2] at hb2
            rw [w1, w2, s3] at hb3
            obtain ⟨f1, f2⟩ := flm_less (a := a) (m := moreL a) rfl (by have := (agE_0 ha).2.1; simp only [moreL]; omega) (by have := (agE_0 ha).2.1; simp only [moreL]; omega) rfl hp
            obtain ⟨m1, m2⟩ := agd_more (a := a) (m := moreL a) (by have := (agE_0 ha).2.1; simp only [moreL]; omega) (by have := (agE_0 ha).2.1; simp only [moreL]; omega) f1 f2 (d := days.2 - (flm a l l.length).2.2.1) (by omega)
            obtain ⟨p1, p2⟩ := agd_later ha (flm a l l.length).2.2.2 (d := days.1 - (flm a l l.length).2.2.1) (e := days.2 - (flm a l l.length).2.2.1) (by omega)
            have p3 := (agd_rg ha hs.2.2 (d := days.1 - (flm a l l.length).2.2.1) (by omega)).2.1
            have g2 := (agE_0 ha).2.1
            have e9 : moreL a = ((a.1.1, a.1.2), (min (a.2.1.1 + 5) 1000, min (a.2.1.2 + 5) 1000), (a.2.2.1.1, a.2.2.1.2), a.2.2.2) := rfl
            generalize agd a (flm a l l.length).2.2.2 (days.1 - (flm a l l.length).2.2.1) = r1 at *
            generalize agd a (flm a l l.length).2.2.2 (days.2 - (flm a l l.length).2.2.1) = r2 at *
            generalize agd (moreL a) (flm (moreL a) l l.length).2.2.2 (days.2 - (flm a l l.length).2.2.1) = r3 at *
            rw [e9] at hb3
            clear u1 u2 v1 v2 w1 w2 s1 s2 s3 f1 f2 e9 hm cm hs hp hn c2 c h0
            simp (maxSteps := 1000000) (disch := first | omega | assumption) only [↓r_ret, ↓r_fail, ↓r_br, ↓r_bind, ↓r_iter, ↓r_req, decide_eq_true_eq, Bool.not_eq_eq_eq_not, decide_eq_false_iff_not, ite_not, inB_t', app_t', bnd_t', str_t', nz_t, Int.reduceEq, Int.reduceLT, Int.reduceLE, w64', Option.bind_some, Option.bind_none, List.length_cons, List.length_nil, List.length_append, Nat.zero_add, if_pos, if_neg, decide_true, decide_false, if_true, if_false, Bool.not_true, Bool.not_false, Bool.false_eq_true, Bool.true_eq_false, not_true_eq_false, not_false_eq_true, ↓reduceIte, List.nil_append, awake_ok, hb1, hq, hz, hst, n1, k_Within, d1, d2, and_self, k_events, hb, hb2, hb3, m1, m2, p1, p2, p3]
          · simp (maxSteps := 1000000) (disch := first | omega | assumption) only [↓r_ret, ↓r_fail, ↓r_br, ↓r_bind, ↓r_iter, ↓r_req, decide_eq_true_eq, Bool.not_eq_eq_eq_not, decide_eq_false_iff_not, ite_not, inB_t', app_t', bnd_t', str_t', nz_t, Int.reduceEq, Int.reduceLT, Int.reduceLE, w64', Option.bind_some, Option.bind_none, List.length_cons, List.length_nil, List.length_append, Nat.zero_add, if_pos, if_neg, decide_true, decide_false, if_true, if_false, Bool.not_true, Bool.not_false, Bool.false_eq_true, Bool.true_eq_false, not_true_eq_false, not_false_eq_true, ↓reduceIte, List.nil_append, awake_ok, hb1, hq, hz, hst, n1, k_Within, d1, d2, and_self]
        · simp (maxSteps := 1000000) (disch := first | omega | assumption) only [↓r_ret, ↓r_fail, ↓r_br, ↓r_bind, ↓r_iter, ↓r_req, decide_eq_true_eq, Bool.not_eq_eq_eq_not, decide_eq_false_iff_not, ite_not, inB_t', app_t', bnd_t', str_t', nz_t, Int.reduceEq, Int.reduceLT, Int.reduceLE, w64', Option.bind_some, Option.bind_none, List.length_cons, List.length_nil, List.length_append, Nat.zero_add, if_pos, if_neg, decide_true, decide_false, if_true, if_false, Bool.not_true, Bool.not_false, Bool.false_eq_true, Bool.true_eq_false, not_true_eq_false, not_false_eq_true, ↓reduceIte, List.nil_append, awake_ok, hb1, hq, hz, hst, n1, k_Within, d1]
      · have n1 : sta a.2.2.2 l l.length < 0 := hn.2 c2
        simp (maxSteps := 1000000) (disch := first | omega | assumption) only [↓r_ret, ↓r_fail, ↓r_br, ↓r_bind, ↓r_iter, ↓r_req, decide_eq_true_eq, Bool.not_eq_eq_eq_not, decide_eq_false_iff_not, ite_not, inB_t', app_t', bnd_t', str_t', nz_t, Int.reduceEq, Int.reduceLT, Int.reduceLE, w64', Option.bind_some, Option.bind_none, List.length_cons, List.length_nil, List.length_append, Nat.zero_add, if_pos, if_neg, decide_true, decide_false, if_true, if_false, Bool.not_true, Bool.not_false, Bool.false_eq_true, Bool.true_eq_false, not_true_eq_false, not_false_eq_true, ↓reduceIte, List.nil_append, awake_ok, hb1, hq, hz, hst, n1]
    · simp (maxSteps := 1000000) (disch := first | omega | assumption) only [↓r_ret, ↓r_fail, ↓r_br, ↓r_bind, ↓r_iter, ↓r_req, decide_eq_true_eq, Bool.not_eq_eq_eq_not, decide_eq_false_iff_not, ite_not, inB_t', app_t', bnd_t', str_t', nz_t, Int.reduceEq, Int.reduceLT, Int.reduceLE, w64', Option.bind_some, Option.bind_none, List.length_cons, List.length_nil, List.length_append, Nat.zero_add, if_pos, if_neg, decide_true, decide_false, if_true, if_false, Bool.not_true, Bool.not_false, Bool.false_eq_true, Bool.true_eq_false, not_true_eq_false, not_false_eq_true, ↓reduceIte, List.nil_append, awake_ok, hb1, hq, c]
theorem k_CoatFades {a : Ag} {l : List Ev} {days : Int × Int} (b0 : bulkT (.pair (.pair (.int .i64) (.int .i64)) (.pair (.pair (.int .i64) (.int .i64)) (.pair (.pair (.int .i64) (.int .i64)) (.int .i64)))) a ≤ 1048576) (w0 : wfT (.pair (.pair (.int .i64) (.int .i64)) (.pair (.pair (.int .i64) (.int .i64)) (.pair (.pair (.int .i64) (.int .i64)) (.int .i64)))) a)
    (b1 : bulkT (.list (.pair .str (.pair (.int .i64) (.int .i64)))) l ≤ 1048576) (w1 : wfT (.list (.pair .str (.pair (.int .i64) (.int .i64)))) l) (b2 : bulkT (.pair (.int .i64) (.int .i64)) days ≤ 1048576) (w2 : wfT (.pair (.int .i64) (.int .i64)) days) : law08xCoatFades a l days = some ((true, ()), ()) :=
  k_CoatFades0 (evs_in b1).1 (evs_in b1).2 days
end Go.Ab
end

section
namespace Go.Ab
open Go
set_option maxRecDepth 1000000
set_option maxHeartbeats 4000000
set_option linter.unusedVariables false
set_option linter.unusedSimpArgs false
attribute [local congr] bindC iterC

def inP (r : Int × Int) (p : Int) : Int := r.1 + p % (r.2 - r.1 + 1)
theorem inP_bd {r : Int × Int} (h : r.1 ≤ r.2) (p : Int) : r.1 ≤ inP r p ∧ inP r p ≤ r.2 := by
  have p1 := Int.emod_nonneg p (b := r.2 - r.1 + 1) (by omega)
  have p2 := Int.emod_lt_of_pos p (b := r.2 - r.1 + 1) (by omega)
  unfold inP; omega
theorem k_in {r : Int × Int} (h0 : 0 ≤ r.1) (h : r.1 ≤ r.2) (h2 : r.2 ≤ 1000) (p : Int) : top_in r p = some ((inP r p, ()), ()) := by
  have q := inP_bd h p
  simp only [top_in, T_top_in]
  unfold inP at *
  simp (maxSteps := 1000000) (disch := first | omega | assumption) only [↓r_ret, ↓r_fail, ↓r_br, ↓r_bind, ↓r_iter, ↓r_req, decide_eq_true_eq, Bool.not_eq_eq_eq_not, decide_eq_false_iff_not, ite_not, inB_t', app_t', bnd_t', str_t', nz_t, Int.reduceEq, Int.reduceLT, Int.reduceLE, w64', Option.bind_some, Option.bind_none, List.length_cons, List.length_nil, List.length_append, Nat.zero_add, if_pos, if_neg, decide_true, decide_false, if_true, if_false, Bool.not_true, Bool.not_false, Bool.false_eq_true, Bool.true_eq_false, not_true_eq_false, not_false_eq_true, ↓reduceIte, List.nil_append, k_Mod]

/-- A million times the true brightness behind i events. -/
def trv (a : Ag) (F L B : Int) (l : List Ev) : Nat → Int
  | 0 => 0
  | i + 1 => if (gi l (i : Int)).2.2 = 0 then F else if (gi l (i : Int)).2.2 = 1 then min F (max 0 (trv a F L B l i - L * ((gi l (i : Int)).2.1 - (flm a l i).2.2.1)) + B) else trv a F L B l i
theorem trv_bd {a : Ag} {F L B : Int} (hF : 0 ≤ F ∧ F ≤ 1000000000) (hB : 0 ≤ B) (l : List Ev) : ∀ i : Nat, 0 ≤ trv a F L B l i ∧ trv a F L B l i ≤ 1000000000
  | 0 => by simp only [trv]; omega
  | i + 1 => by
    have := trv_bd (a := a) (L := L) hF hB l i
    simp only [trv]
    split
    · exact hF
    · split
      · generalize L * ((gi l (i : Int)).2.1 - (flm a l i).2.2.1) = u
        omega
      · exact this
/-- What is truly lost lies within what may be. -/
theorem tru_agd {a : Ag} {L : Int} (ha : agE a = 0) (hL : 1000 * a.2.1.1 ≤ L ∧ L ≤ 1000 * a.2.1.2) {r : Int × Int} {x d : Int} (hd : 0 ≤ d) (h : 1000000 * r.1 ≤ x ∧ x ≤ 1000000 * r.2) :
    1000000 * (agd a r d).1 ≤ max 0 (x - L * d) ∧ max 0 (x - L * d) ≤ 1000000 * (agd a r d).2 := by
  have m1 := Int.mul_le_mul_of_nonneg_right hL.1 hd
  have m2 := Int.mul_le_mul_of_nonneg_right hL.2 hd
  rw [Int.mul_assoc] at m1 m2
  unfold agd cdiv
  generalize a.2.1.1 * d = u at *
  generalize a.2.1.2 * d = v at *
  generalize L * d = w at *
  simp only
  omega
theorem trv_flm {a : Ag} {F L B : Int} (ha : agE a = 0) (hF : 1000000 * a.1.1 ≤ F ∧ F ≤ 1000000 * a.1.2) (hL : 1000 * a.2.1.1 ≤ L ∧ L ≤ 1000 * a.2.1.2) (hB : 1000000 * a.2.2.1.1 ≤ B ∧ B ≤ 1000000 * a.2.2.1.2) {l : List Ev} :
    ∀ {i : Nat}, (∀ j, j < i → hsE a l j = 0) → 1000000 * (flm a l i).2.2.2.1 ≤ trv a F L B l i ∧ trv a F L B l i ≤ 1000000 * (flm a l i).2.2.2.2
  | 0, _ => ⟨Int.le_refl _, Int.le_refl _⟩
  | i + 1, hp => by
    have hp' : ∀ j, j < i → hsE a l j = 0 := fun j hj => hp j (by omega)
    have ih := trv_flm ha hF hL hB (i := i) hp'
    have hd := flm_step_day hp' (hp i (by omega))
    have q := tru_agd (L := L) ha hL (d := (gi l (i : Int)).2.1 - (flm a l i).2.2.1) (by omega) ih
    simp only [flm, stp, trv]
    split
    · exact hF
    · split
      · generalize agd a (flm a l i).2.2.2 ((gi l (i : Int)).2.1 - (flm a l i).2.2.1) = r at *
        generalize max 0 (trv a F L B l i - L * ((gi l (i : Int)).2.1 - (flm a l i).2.2.1)) = y at *
        simp only; omega
      · exact ih

def truF (a : Ag) (p : Int × (Int × Int)) : Int := 1000000 * inP a.1 p.1
def truL (a : Ag) (p : Int × (Int × Int)) : Int := 1000 * inP a.2.1 p.2.1
def truB (a : Ag) (p : Int × (Int × Int)) : Int := 1000000 * inP a.2.2.1 p.2.2
def tru (a : Ag) (p : Int × (Int × Int)) (l : List Ev) (i : Nat) (day : Int) : Int := max 0 (trv a (truF a p) (truL a p) (truB a p) l i - truL a p * (day - (flm a l i).2.2.1))

theorem k_truth {a : Ag} {p : Int × (Int × Int)} {l : List Ev} (ha : agE a = 0) (h40 : l.length ≤ 40) (hp : ∀ j, j < l.length → hsE a l j = 0) {day : Int} (hd : 0 ≤ day ∧ day ≤ 100000) :
    top_truth_on (a, p) l day = some ((tru a p l (cnt l day l.length) day, ()), ()) := by
  obtain ⟨g1, g2, g3, g4⟩ := agE_0 ha
  have i1 := k_in (r := a.1) (by omega) (by omega) (by omega) p.1
  have i2 := k_in (r := a.2.1) (by omega) (by omega) (by omega) p.2.1
  have i3 := k_in (r := a.2.2.1) (by omega) (by omega) (by omega) p.2.2
  have b1 := inP_bd (r := a.1) (by omega) p.1
  have b2 := inP_bd (r := a.2.1) (by omega) p.2.1
  have b3 := inP_bd (r := a.2.2.1) (by omega) p.2.2
  simp only [top_truth_on, T_top_truth_on]
  simp (maxSteps := 1000000) (disch := first | omega | assumption) only [↓r_ret, ↓r_fail, ↓r_br, ↓r_bind, ↓r_iter, ↓r_req, decide_eq_true_eq, Bool.not_eq_eq_eq_not, decide_eq_false_iff_not, ite_not, inB_t', app_t', bnd_t', str_t', nz_t, Int.reduceEq, Int.reduceLT, Int.reduceLE, w64', Option.bind_some, Option.bind_none, List.length_cons, List.length_nil, List.length_append, Nat.zero_add, if_pos, if_neg, decide_true, decide_false, if_true, if_false, Bool.not_true, Bool.not_false, Bool.false_eq_true, Bool.true_eq_false, not_true_eq_false, not_false_eq_true, ↓reduceIte, List.nil_append, i1, i2, i3]
  refine iter_eq (fun i x => x = (trv a (truF a p) (truL a p) (truB a p) l i, (flm a l i).2.2.1, (i : Int), ()) ∧ ∀ j : Nat, j < i → (gi l (j : Int)).2.1 ≤ day) _ l.length (by omega) ?_ ⟨rfl, fun j hj => by omega⟩
  rintro i x hi ⟨rfl, hj⟩
  obtain ⟨s1, s2, s3⟩ := flm_ok ha i (fun j hj => hp j (by omega))
  have bt := trv_bd (a := a) (F := truF a p) (L := truL a p) (B := truB a p) (by unfold truF; omega) (by unfold truB; omega) l i
  have eF : 1000000 * inP a.1 p.1 = truF a p := rfl
  have eL : 1000 * inP a.2.1 p.2.1 = truL a p := rfl
  have eB : 1000000 * inP a.2.2.1 p.2.2 = truB a p := rfl
  have c1 : 0 ≤ truF a p ∧ truF a p ≤ 1000000000 := by unfold truF; omega
  have c2 : 0 ≤ truL a p ∧ truL a p ≤ 1000000 := by unfold truL; omega
  have c3 : 0 ≤ truB a p ∧ truB a p ≤ 1000000000 := by unfold truB; omega
  have mulb : ∀ d : Int, -100000 ≤ d → d ≤ 100000 → -100000000000 ≤ truL a p * d ∧ truL a p * d ≤ 100000000000 := fun d e1 e2 => by
    rcases Int.le_total 0 d with h2 | h2
    · have := Int.mul_le_mul c2.2 e2 h2 (by omega)
      have := Int.mul_nonneg c2.1 h2
      omega
    · have := Int.mul_le_mul c2.2 (b := -d) (d := 100000) (by omega) (by omega) (by omega)
      have := Int.mul_nonneg c2.1 (b := -d) (by omega)
      rw [Int.mul_neg] at *
      omega
  have m1 := mulb (day - (flm a l i).2.2.1) (by omega) (by omega)
  simp only [T_top_truth_on_l3]
  by_cases hlt : i < l.length
  · by_cases hday : (gi l (i : Int)).2.1 ≤ day
    · left
      obtain ⟨q1, q2, q3, q4⟩ := hsE_0 (hp i hlt)
      obtain ⟨e1, e2⟩ := evE_0 q1
      have m2 := mulb ((gi l (i : Int)).2.1 - (flm a l i).2.2.1) (by omega) (by omega)
      clear mulb m1
      refine ⟨(trv a (truF a p) (truL a p) (truB a p) l (i + 1), (flm a l (i + 1)).2.2.1, (i : Int) + 1, ()), ?_, hlt, rfl, fun j hj2 => ?_⟩
      · simp only [flm, stp, trv]
        rcases e2 with e | e | e
        · have n1 : ¬ (gi l (i : Int)).2.2 = 1 := by omega
          simp (maxSteps := 1000000) (disch := first | omega | assumption) only [↓r_ret, ↓r_fail, ↓r_br, ↓r_bind, ↓r_iter, ↓r_req, decide_eq_true_eq, Bool.not_eq_eq_eq_not, decide_eq_false_iff_not, ite_not, inB_t', app_t', bnd_t', str_t', nz_t, Int.reduceEq, Int.reduceLT, Int.reduceLE, w64', Option.bind_some, Option.bind_none, List.length_cons, List.length_nil, List.length_append, Nat.zero_add, if_pos, if_neg, decide_true, decide_false, if_true, if_false, Bool.not_true, Bool.not_false, Bool.false_eq_true, Bool.true_eq_false, not_true_eq_false, not_false_eq_true, ↓reduceIte, List.nil_append, hday, e, n1, eF, eL, eB]
          all_goals rfl
        · have n1 : ¬ (gi l (i : Int)).2.2 = 0 := by omega
          simp (maxSteps := 1000000) (disch := first | omega | assumption) only [↓r_ret, ↓r_fail, ↓r_br, ↓r_bind, ↓r_iter, ↓r_req, decide_eq_true_eq, Bool.not_eq_eq_eq_not, decide_eq_false_iff_not, ite_not, inB_t', app_t', bnd_t', str_t', nz_t, Int.reduceEq, Int.reduceLT, Int.reduceLE, w64', Option.bind_some, Option.bind_none, List.length_cons, List.length_nil, List.length_append, Nat.zero_add, if_pos, if_neg, decide_true, decide_false, if_true, if_false, Bool.not_true, Bool.not_false, Bool.false_eq_true, Bool.true_eq_false, not_true_eq_false, not_false_eq_true, ↓reduceIte, List.nil_append, hday, e, n1, eF, eL, eB]
          all_goals rfl
        · have n1 : ¬ (gi l (i : Int)).2.2 = 0 := by omega
          have n2 : ¬ (gi l (i : Int)).2.2 = 1 := by omega
          simp (maxSteps := 1000000) (disch := first | omega | assumption) only [↓r_ret, ↓r_fail, ↓r_br, ↓r_bind, ↓r_iter, ↓r_req, decide_eq_true_eq, Bool.not_eq_eq_eq_not, decide_eq_false_iff_not, ite_not, inB_t', app_t', bnd_t', str_t', nz_t, Int.reduceEq, Int.reduceLT, Int.reduceLE, w64', Option.bind_some, Option.bind_none, List.length_cons, List.length_nil, List.length_append, Nat.zero_add, if_pos, if_neg, decide_true, decide_false, if_true, if_false, Bool.not_true, Bool.not_false, Bool.false_eq_true, Bool.true_eq_false, not_true_eq_false, not_false_eq_true, ↓reduceIte, List.nil_append, hday, n1, n2, eF, eL, eB]
          all_goals rfl
      · by_cases q : j = i
        · subst q; exact hday
        · exact hj j (by omega)
    · right
      have e : cnt l day l.length = i := cnt_stop hj hi (fun j h1 h2 => Int.lt_of_lt_of_le (Int.not_le.1 hday) (days_mono hp h1 h2))
      rw [e]
      unfold tru
      simp (maxSteps := 1000000) (disch := first | omega | assumption) only [↓r_ret, ↓r_fail, ↓r_br, ↓r_bind, ↓r_iter, ↓r_req, decide_eq_true_eq, Bool.not_eq_eq_eq_not, decide_eq_false_iff_not, ite_not, inB_t', app_t', bnd_t', str_t', nz_t, Int.reduceEq, Int.reduceLT, Int.reduceLE, w64', Option.bind_some, Option.bind_none, List.length_cons, List.length_nil, List.length_append, Nat.zero_add, if_pos, if_neg, decide_true, decide_false, if_true, if_false, Bool.not_true, Bool.not_false, Bool.false_eq_true, Bool.true_eq_false, not_true_eq_false, not_false_eq_true, ↓reduceIte, List.nil_append, hday, eF, eL, eB]
  · right
    have : i = l.length := by omega
    subst this
    rw [cnt_all hj]
    unfold tru
    simp (maxSteps := 1000000) (disch := first | omega | assumption) only [↓r_ret, ↓r_fail, ↓r_br, ↓r_bind, ↓r_iter, ↓r_req, decide_eq_true_eq, Bool.not_eq_eq_eq_not, decide_eq_false_iff_not, ite_not, inB_t', app_t', bnd_t', str_t', nz_t, Int.reduceEq, Int.reduceLT, Int.reduceLE, w64', Option.bind_some, Option.bind_none, List.length_cons, List.length_nil, List.length_append, Nat.zero_add, if_pos, if_neg, decide_true, decide_false, if_true, if_false, Bool.not_true, Bool.not_false, Bool.false_eq_true, Bool.true_eq_false, not_true_eq_false, not_false_eq_true, ↓reduceIte, List.nil_append, eF, eL, eB]

theorem tru_br {a : Ag} {p : Int × (Int × Int)} {l : List Ev} (ha : agE a = 0) {i : Nat} (hp : ∀ j, j < i → hsE a l j = 0) {day : Int} (hd : (flm a l i).2.2.1 ≤ day) :
    1000000 * (agd a (flm a l i).2.2.2 (day - (flm a l i).2.2.1)).1 ≤ tru a p l i day ∧ tru a p l i day ≤ 1000000 * (agd a (flm a l i).2.2.2 (day - (flm a l i).2.2.1)).2 := by
  obtain ⟨g1, g2, g3, g4⟩ := agE_0 ha
  have b1 := inP_bd (r := a.1) (by omega) p.1
  have b2 := inP_bd (r := a.2.1) (by omega) p.2.1
  have b3 := inP_bd (r := a.2.2.1) (by omega) p.2.2
  have hL : 1000 * a.2.1.1 ≤ truL a p ∧ truL a p ≤ 1000 * a.2.1.2 := by unfold truL; omega
  exact tru_agd ha hL (by omega) (trv_flm ha (by unfold truF; omega) hL (by unfold truB; omega) hp)
theorem cnt_day {a : Ag} {l : List Ev} (hp : ∀ j, j < l.length → hsE a l j = 0) {day : Int} (hd : 0 ≤ day) : (flm a l (cnt l day l.length)).2.2.1 ≤ day := by
  have key : ∀ n : Nat, n ≤ l.length → (flm a l (cnt l day n)).2.2.1 ≤ day := by
    intro n
    induction n with
    | zero => intro _; simp only [cnt, flm, sf0]; exact hd
    | succ n ih =>
      intro h
      rw [cnt]
      split
      · rename_i c
        have := flm_day (a := a) (l := l) (i := n + 1) (fun j hj => hp j (by omega)) (by omega)
        rw [show ((n + 1 : Nat) : Int) - 1 = (n : Int) by omega] at this
        omega
      · exact ih (by omega)
  exact key l.length (Nat.le_refl _)

theorem coated_ok : top_coated = some ((true, ()), ()) := by kernel_rfl
theorem due_order {a : Ag} {l : List Ev} {least : Int} (ha : agE a = 0) (hs : SfOk a (flm a l l.length)) : duLo a l least ≤ duHi a l least := by
  have hb := fd_bd (dkLo a (flm a l l.length) least) (100001 - (flm a l l.length).2.2.1).toNat (flm a l l.length).2.2.1
  have hc := fd_bd (dkHi a (flm a l l.length) least) (100001 - (flm a l l.length).2.2.1).toNat (flm a l l.length).2.2.1
  refine Int.not_lt.1 fun h => ?_
  have q1 : dkHi a (flm a l l.length) least (duHi a l least) = true := fd_at (n := (100001 - (flm a l l.length).2.2.1).toNat) (by unfold duLo duHi at h; omega)
  have q2 : dkLo a (flm a l l.length) least (duHi a l least) = false := fd_before (n := (100001 - (flm a l l.length).2.2.1).toNat) (s := (flm a l l.length).2.2.1) (by unfold duHi; omega) (by unfold duLo at h; exact h)
  have q3 := of_decide_eq_true q1
  have q4 := of_decide_eq_false q2
  have q5 := (agd_rg ha hs.2.2 (d := duHi a l least - (flm a l l.length).2.2.1) (by unfold duHi; omega)).2.1
  omega

theorem k_TopCoatWithin0 {a : Ag} {l : List Ev} (hl : l.length ≤ 1048576) (hw : EvOk l) (x : (Int × (Int × Int)) × (Int × Int)) (hx : -9223372036854775808 ≤ x.2.1 ∧ x.2.1 ≤ 9223372036854775807) : top_TopCoatWithin a l x = some ((true, ()), ()) := by
  obtain ⟨b1, hb1⟩ := k_Past hl
  simp only [top_TopCoatWithin, T_top_TopCoatWithin]
  cases b1 with
  | false => simp (maxSteps := 1000000) (disch := first | omega | assumption) only [↓r_ret, ↓r_fail, ↓r_br, ↓r_bind, ↓r_iter, ↓r_req, decide_eq_true_eq, Bool.not_eq_eq_eq_not, decide_eq_false_iff_not, ite_not, inB_t', app_t', bnd_t', str_t', nz_t, Int.reduceEq, Int.reduceLT, Int.reduceLE, w64', Option.bind_some, Option.bind_none, List.length_cons, List.length_nil, List.length_append, Nat.zero_add, if_pos, if_neg, decide_true, decide_false, if_true, if_false, Bool.not_true, Bool.not_false, Bool.false_eq_true, Bool.true_eq_false, not_true_eq_false, not_false_eq_true, ↓reduceIte, List.nil_append, coated_ok, hb1]
  | true =>
    by_cases ha : agE a = 0
    · have hr := k_rCheckHistory ha hl hw
      by_cases h0 : hisE a l = 0
      · have c : folE a l = 0 := by unfold folE; rw [if_pos ha, h0]
        obtain ⟨h40, hp⟩ := hisE_inv h0
        by_cases d : 0 ≤ x.2.1 ∧ x.2.1 ≤ 100000
        · have hb := k_Bright (a := a) hl hw x.2.1
          have hst := k_StateOn ha hp hl x.2.1
          have hcl := cnt_le l x.2.1 l.length
          have hn := sta_neg ha (i := cnt l x.2.1 l.length) (fun j hj => hp j (by omega))
          have e1 : rdE a l x.2.1 = 0 := by unfold rdE; rw [if_pos c, if_pos d]
          by_cases c2 : (flm a l (cnt l x.2.1 l.length)).1 = true
          · have e2 : brE a l x.2.1 = 0 := by unfold brE; rw [if_pos e1, thn_cnt, if_pos c2]
            have e3 : brV a l x.2.1 = agd a (flm a l (cnt l x.2.1 l.length)).2.2.2 (x.2.1 - (flm a l (cnt l x.2.1 l.length)).2.2.1) := by unfold brV; rw [if_pos e2, thn_cnt]
            rw [e2, e3] at hb
            have ht := k_truth (p := x.1) ha h40 hp d
            have tb := tru_br (p := x.1) ha (i := cnt l x.2.1 l.length) (fun j hj => hp j (by omega)) (cnt_day hp d.1)
            have ok := flm_ok ha (cnt l x.2.1 l.length) (fun j hj => hp j (by omega))
            have rg := agd_rg ha ok.2.2 (d := x.2.1 - (flm a l (cnt l x.2.1 l.length)).2.2.1) (by have := cnt_day hp d.1; omega)
            have ok3 := ok.2.2
            clear e1 e2 e3 hn ok
            by_cases hz : (l.length : Int) = 0
            · generalize agd a (flm a l (cnt l x.2.1 l.length)).2.2.2 (x.2.1 - (flm a l (cnt l x.2.1 l.length)).2.2.1) = r at *
              generalize tru a x.1 l (cnt l x.2.1 l.length) x.2.1 = y at *
              have n1 : ¬ y < 1000000 * r.1 := by omega
              have n2 : ¬ 1000000 * r.2 < y := by omega
              simp (maxSteps := 1000000) (disch := first | omega | assumption) only [↓r_ret, ↓r_fail, ↓r_br, ↓r_bind, ↓r_iter, ↓r_req, decide_eq_true_eq, Bool.not_eq_eq_eq_not, decide_eq_false_iff_not, ite_not, inB_t', app_t', bnd_t', str_t', nz_t, Int.reduceEq, Int.reduceLT, Int.reduceLE, w64', Option.bind_some, Option.bind_none, List.length_cons, List.length_nil, List.length_append, Nat.zero_add, if_pos, if_neg, decide_true, decide_false, if_true, if_false, Bool.not_true, Bool.not_false, Bool.false_eq_true, Bool.true_eq_false, not_true_eq_false, not_false_eq_true, ↓reduceIte, List.nil_append, coated_ok, hb1, k_rCheckAging, ha, hr, h0, k_Within, d, and_self, hb, ht, n1, n2, hz]
            · have hs2 := k_StateOn ha hp hl 100000
              rw [cnt_all (days_max hp)] at hs2
              have hn2 := sta_neg ha hp
              have n1 : ¬ tru a x.1 l (cnt l x.2.1 l.length) x.2.1 < 1000000 * (agd a (flm a l (cnt l x.2.1 l.length)).2.2.2 (x.2.1 - (flm a l (cnt l x.2.1 l.length)).2.2.1)).1 := by omega
              have n2 : ¬ 1000000 * (agd a (flm a l (cnt l x.2.1 l.length)).2.2.2 (x.2.1 - (flm a l (cnt l x.2.1 l.length)).2.2.1)).2 < tru a x.1 l (cnt l x.2.1 l.length) x.2.1 := by omega
              generalize agd a (flm a l (cnt l x.2.1 l.length)).2.2.2 (x.2.1 - (flm a l (cnt l x.2.1 l.length)).2.2.1) = r at *
              generalize tru a x.1 l (cnt l x.2.1 l.length) x.2.1 = y at *
              have rr : 0 ≤ r.1 ∧ r.1 ≤ r.2 ∧ r.2 ≤ 1000 := by omega
              clear rg ok3 tb hst hcl c2
              by_cases c3 : (flm a l l.length).1 = true
              · have n3 : ¬ sta a.2.2.2 l l.length < 0 := fun h => hn2.1 h c3
                by_cases c4 : 0 ≤ x.2.2 ∧ x.2.2 ≤ 1000
                · have hk := k_DueDays (a := a) hl hw x.2.2
                  have f1 : duE a l x.2.2 = 0 := by unfold duE; rw [if_pos c, if_pos c3, if_pos c4]
                  have f2 : duV a l x.2.2 = (duLo a l x.2.2, duHi a l x.2.2) := if_pos f1
                  rw [f1, f2] at hk
                  obtain ⟨k1, k2⟩ := end_day hp c3
                  have ok := flm_ok ha l.length hp
                  have hor := due_order (least := x.2.2) ha ok
                  have fb1 := fd_bd (dkLo a (flm a l l.length) x.2.2) (100001 - (flm a l l.length).2.2.1).toNat (flm a l l.length).2.2.1
                  have fb2 := fd_bd (dkHi a (flm a l l.length) x.2.2) (100001 - (flm a l l.length).2.2.1).toNat (flm a l l.length).2.2.1
                  rw [show fd (dkLo a (flm a l l.length) x.2.2) (flm a l l.length).2.2.1 (100001 - (flm a l l.length).2.2.1).toNat = duLo a l x.2.2 from rfl] at fb1
                  rw [show fd (dkHi a (flm a l l.length) x.2.2) (flm a l l.length).2.2.1 (100001 - (flm a l l.length).2.2.1).toNat = duHi a l x.2.2 from rfl] at fb2
                  have o1 := ok.2.1
                  have w1 : (gi l ((l.length : Int) - 1)).2.1 ≤ duLo a l x.2.2 ∧ duLo a l x.2.2 ≤ duHi a l x.2.2 := by omega
                  have w2 : ¬ 100001 < duHi a l x.2.2 := by omega
                  by_cases v1 : (gi l ((l.length : Int) - 1)).2.1 < duLo a l x.2.2
                  · have t1 := k_truth (p := x.1) (day := duLo a l x.2.2 - 1) ha h40 hp (by omega)
                    rw [cnt_all (days_last hp k1 (by omega))] at t1
                    have u1 := (tru_br (p := x.1) ha hp (day := duLo a l x.2.2 - 1) (by omega)).1
                    have q2 : dkLo a (flm a l l.length) x.2.2 (duLo a l x.2.2 - 1) = false := fd_before (n := (100001 - (flm a l l.length).2.2.1).toNat) (s := (flm a l l.length).2.2.1) (by omega) (by unfold duLo; omega)
                    have q4 := of_decide_eq_false q2
                    have u2 : ¬ tru a x.1 l l.length (duLo a l x.2.2 - 1) < 1000000 * x.2.2 := by omega
                    by_cases v2 : 100000 < duHi a l x.2.2
                    · clear q2 q4 u1 hor fb1 fb2 f1 f2 hn2
                      simp (maxSteps := 1000000) (disch := first | omega | assumption) only [↓r_ret, ↓r_fail, ↓r_br, ↓r_bind, ↓r_iter, ↓r_req, decide_eq_true_eq, Bool.not_eq_eq_eq_not, decide_eq_false_iff_not, ite_not, inB_t', app_t', bnd_t', str_t', nz_t, Int.reduceEq, Int.reduceLT, Int.reduceLE, w64', Option.bind_some, Option.bind_none, List.length_cons, List.length_nil, List.length_append, Nat.zero_add, if_pos, if_neg, decide_true, decide_false, if_true, if_false, Bool.not_true, Bool.not_false, Bool.false_eq_true, Bool.true_eq_false, not_true_eq_false, not_false_eq_true, ↓reduceIte, List.nil_append, coated_ok, hb1, k_rCheckAging, ha, hr, h0, k_Within, d, and_self, hb, ht, n1, n2, hz, hs2, n3, c4, hk, w1, w2, v1, t1, u2, v2]
                    · have t2 := k_truth (p := x.1) (day := duHi a l x.2.2) ha h40 hp (by omega)
                      rw [cnt_all (days_last hp k1 (by omega))] at t2
                      have u3 := (tru_br (p := x.1) ha hp (day := duHi a l x.2.2) (by omega)).2
                      have q1 : dkHi a (flm a l l.length) x.2.2 (duHi a l x.2.2) = true := fd_at (n := (100001 - (flm a l l.length).2.2.1).toNat) (by unfold duHi at v2; omega)
                      have q3 := of_decide_eq_true q1
                      have u4 : tru a x.1 l l.length (duHi a l x.2.2) < 1000000 * x.2.2 := by omega
                      clear q1 q3 u3 q2 q4 u1 hor fb1 fb2 f1 f2 hn2
                      simp (maxSteps := 1000000) (disch := first | omega | assumption) only [↓r_ret, ↓r_fail, ↓r_br, ↓r_bind, ↓r_iter, ↓r_req, decide_eq_true_eq, Bool.not_eq_eq_eq_not, decide_eq_false_iff_not, ite_not, inB_t', app_t', bnd_t', str_t', nz_t, Int.reduceEq, Int.reduceLT, Int.reduceLE, w64', Option.bind_some, Option.bind_none, List.length_cons, List.length_nil, List.length_append, Nat.zero_add, if_pos, if_neg, decide_true, decide_false, if_true, if_false, Bool.not_true, Bool.not_false, Bool.false_eq_true, Bool.true_eq_false, not_true_eq_false, not_false_eq_true, ↓reduceIte, List.nil_append, coated_ok, hb1, k_rCheckAging, ha, hr, h0, k_Within, d, and_self, hb, ht, n1, n2, hz, hs2, n3, c4, hk, w1, w2, v1, t1, u2, v2, t2, u4]
                  · by_cases v2 : 100000 < duHi a l x.2.2
                    · clear hor fb1 fb2 f1 f2 hn2
                      simp (maxSteps := 1000000) (disch := first | omega | assumption) only [↓r_ret, ↓r_fail, ↓r_br, ↓r_bind, ↓r_iter, ↓r_req, decide_eq_true_eq, Bool.not_eq_eq_eq_not, decide_eq_false_iff_not, ite_not, inB_t', app_t', bnd_t', str_t', nz_t, Int.reduceEq, Int.reduceLT, Int.reduceLE, w64', Option.bind_some, Option.bind_none, List.length_cons, List.length_nil, List.length_append, Nat.zero_add, if_pos, if_neg, decide_true, decide_false, if_true, if_false, Bool.not_true, Bool.not_false, Bool.false_eq_true, Bool.true_eq_false, not_true_eq_false, not_false_eq_true, ↓reduceIte, List.nil_append, coated_ok, hb1, k_rCheckAging, ha, hr, h0, k_Within, d, and_self, hb, ht, n1, n2, hz, hs2, n3, c4, hk, w1, w2, v1, v2]
                    · have t2 := k_truth (p := x.1) (day := duHi a l x.2.2) ha h40 hp (by omega)
                      rw [cnt_all (days_last hp k1 (by omega))] at t2
                      have u3 := (tru_br (p := x.1) ha hp (day := duHi a l x.2.2) (by omega)).2
                      have q1 : dkHi a (flm a l l.length) x.2.2 (duHi a l x.2.2) = true := fd_at (n := (100001 - (flm a l l.length).2.2.1).toNat) (by unfold duHi at v2; omega)
                      have q3 := of_decide_eq_true q1
                      have u4 : tru a x.1 l l.length (duHi a l x.2.2) < 1000000 * x.2.2 := by omega
                      clear q1 q3 u3 hor fb1 fb2 f1 f2 hn2
                      simp (maxSteps := 1000000) (disch := first | omega | assumption) only [↓r_ret, ↓r_fail, ↓r_br, ↓r_bind, ↓r_iter, ↓r_req, decide_eq_true_eq, Bool.not_eq_eq_eq_not, decide_eq_false_iff_not, ite_not, inB_t', app_t', bnd_t', str_t', nz_t, Int.reduceEq, Int.reduceLT, Int.reduceLE, w64', Option.bind_some, Option.bind_none, List.length_cons, List.length_nil, List.length_append, Nat.zero_add, if_pos, if_neg, decide_true, decide_false, if_true, if_false, Bool.not_true, Bool.not_false, Bool.false_eq_true, Bool.true_eq_false, not_true_eq_false, not_false_eq_true, ↓reduceIte, List.nil_append, coated_ok, hb1, k_rCheckAging, ha, hr, h0, k_Within, d, and_self, hb, ht, n1, n2, hz, hs2, n3, c4, hk, w1, w2, v1, v2, t2, u4]
                · simp (maxSteps := 1000000) (disch := first | omega | assumption) only [↓r_ret, ↓r_fail, ↓r_br, ↓r_bind, ↓r_iter, ↓r_req, decide_eq_true_eq, Bool.not_eq_eq_eq_not, decide_eq_false_iff_not, ite_not, inB_t', app_t', bnd_t', str_t', nz_t, Int.reduceEq, Int.reduceLT, Int.reduceLE, w64', Option.bind_some, Option.bind_none, List.length_cons, List.length_nil, List.length_append, Nat.zero_add, if_pos, if_neg, decide_true, decide_false, if_true, if_false, Bool.not_true, Bool.not_false, Bool.false_eq_true, Bool.true_eq_false, not_true_eq_false, not_false_eq_true, ↓reduceIte, List.nil_append, coated_ok, hb1, k_rCheckAging, ha, hr, h0, k_Within, d, and_self, hb, ht, n1, n2, hz, hs2, n3, c4]
              · have n3 : sta a.2.2.2 l l.length < 0 := hn2.2 c3
                simp (maxSteps := 1000000) (disch := first | omega | assumption) only [↓r_ret, ↓r_fail, ↓r_br, ↓r_bind, ↓r_iter, ↓r_req, decide_eq_true_eq, Bool.not_eq_eq_eq_not, decide_eq_false_iff_not, ite_not, inB_t', app_t', bnd_t', str_t', nz_t, Int.reduceEq, Int.reduceLT, Int.reduceLE, w64', Option.bind_some, Option.bind_none, List.length_cons, List.length_nil, List.length_append, Nat.zero_add, if_pos, if_neg, decide_true, decide_false, if_true, if_false, Bool.not_true, Bool.not_false, Bool.false_eq_true, Bool.true_eq_false, not_true_eq_false, not_false_eq_true, ↓reduceIte, List.nil_append, coated_ok, hb1, k_rCheckAging, ha, hr, h0, k_Within, d, and_self, hb, ht, n1, n2, hz, hs2, n3]
          · have e2 : brE a l x.2.1 = 24 := by unfold brE; rw [if_pos e1, thn_cnt, if_neg c2]
            have n1 : sta a.2.2.2 l (cnt l x.2.1 l.length) < 0 := hn.2 c2
            rw [e2] at hb
            clear e1 e2 hn
            simp (maxSteps := 1000000) (disch := first | omega | assumption) only [↓r_ret, ↓r_fail, ↓r_br, ↓r_bind, ↓r_iter, ↓r_req, decide_eq_true_eq, Bool.not_eq_eq_eq_not, decide_eq_false_iff_not, ite_not, inB_t', app_t', bnd_t', str_t', nz_t, Int.reduceEq, Int.reduceLT, Int.reduceLE, w64', Option.bind_some, Option.bind_none, List.length_cons, List.length_nil, List.length_append, Nat.zero_add, if_pos, if_neg, decide_true, decide_false, if_true, if_false, Bool.not_true, Bool.not_false, Bool.false_eq_true, Bool.true_eq_false, not_true_eq_false, not_false_eq_true, ↓reduceIte, List.nil_append, coated_ok, hb1, k_rCheckAging, ha, hr, h0, k_Within, d, and_self, hb, hst, n1]
        · simp (maxSteps := 1000000) (disch := first | omega | assumption) only [↓r_ret, ↓r_fail, ↓r_br, ↓r_bind, ↓r_iter, ↓r_req, decide_eq_true_eq, Bool.not_eq_eq_eq_not, decide_eq_false_iff_not, ite_not, inB_t', app_t', bnd_t', str_t', nz_t, Int.reduceEq, Int.reduceLT, Int.reduceLE, w64', Option.bind_some, Option.bind_none, List.length_cons, List.length_nil, List.length_append, Nat.zero_add, if_pos, if_neg, decide_true, decide_false, if_true, if_false, Bool.not_true, Bool.not_false, Bool.false_eq_true, Bool.true_eq_false, not_true_eq_false, not_false_eq_true, ↓reduceIte, List.nil_append, coated_ok, hb1, k_rCheckAging, ha, hr, h0, k_Within, d]
      · simp (maxSteps := 1000000) (disch := first | omega | assumption) only [↓r_ret, ↓r_fail, ↓r_br, ↓r_bind, ↓r_iter, ↓r_req, decide_eq_true_eq, Bool.not_eq_eq_eq_not, decide_eq_false_iff_not, ite_not, inB_t', app_t', bnd_t', str_t', nz_t, Int.reduceEq, Int.reduceLT, Int.reduceLE, w64', Option.bind_some, Option.bind_none, List.length_cons, List.length_nil, List.length_append, Nat.zero_add, if_pos, if_neg, decide_true, decide_false, if_true, if_false, Bool.not_true, Bool.not_false, Bool.false_eq_true, Bool.true_eq_false, not_true_eq_false, not_false_eq_true, ↓reduceIte, List.nil_append, coated_ok, hb1, k_rCheckAging, ha, hr, h0]
    · simp (maxSteps := 1000000) (disch := first | omega | assumption) only [↓r_ret, ↓r_fail, ↓r_br, ↓r_bind, ↓r_iter, ↓r_req, decide_eq_true_eq, Bool.not_eq_eq_eq_not, decide_eq_false_iff_not, ite_not, inB_t', app_t', bnd_t', str_t', nz_t, Int.reduceEq, Int.reduceLT, Int.reduceLE, w64', Option.bind_some, Option.bind_none, List.length_cons, List.length_nil, List.length_append, Nat.zero_add, if_pos, if_neg, decide_true, decide_false, if_true, if_false, Bool.not_true, Bool.not_false, Bool.false_eq_true, Bool.true_eq_false, not_true_eq_false, not_false_eq_true, ↓reduceIte, List.nil_append, coated_ok, hb1, k_rCheckAging, ha]
theorem k_TopCoatWithin {a : Ag} {l : List Ev} {x : (Int × (Int × Int)) × (Int × Int)} (b0 : bulkT (.pair (.pair (.int .i64) (.int .i64)) (.pair (.pair (.int .i64) (.int .i64)) (.pair (.pair (.int .i64) (.int .i64)) (.int .i64)))) a ≤ 1048576) (w0 : wfT (.pair (.pair (.int .i64) (.int .i64)) (.pair (.pair (.int .i64) (.int .i64)) (.pair (.pair (.int .i64) (.int .i64)) (.int .i64)))) a)
    (b1 : bulkT (.list (.pair .str (.pair (.int .i64) (.int .i64)))) l ≤ 1048576) (w1 : wfT (.list (.pair .str (.pair (.int .i64) (.int .i64)))) l) (b2 : bulkT (.pair (.pair (.int .i64) (.pair (.int .i64) (.int .i64))) (.pair (.int .i64) (.int .i64))) x ≤ 1048576) (w2 : wfT (.pair (.pair (.int .i64) (.pair (.int .i64) (.int .i64))) (.pair (.int .i64) (.int .i64))) x) : top_TopCoatWithin a l x = some ((true, ()), ()) :=
  k_TopCoatWithin0 (evs_in b1).1 (evs_in b1).2 x ⟨w2.2.1.1, w2.2.1.2⟩
end Go.Ab
end
