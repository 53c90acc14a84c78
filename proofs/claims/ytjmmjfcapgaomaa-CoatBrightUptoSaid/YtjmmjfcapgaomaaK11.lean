/- Histories: aging, events, what a mirror is behind events, right histories. -/
import Derived.Test.YtjmmjfcapgaomaaK9
namespace Go.Ab
open Go
set_option maxRecDepth 1000000
set_option maxHeartbeats 1000000
set_option linter.unusedVariables false
set_option linter.unusedSimpArgs false
attribute [local congr] bindC iterC

abbrev Ag := (Int × Int) × ((Int × Int) × ((Int × Int) × Int))
abbrev Ev := List UInt8 × (Int × Int)
abbrev Sf := Bool × (Int × (Int × (Int × Int)))

/-- The number of the first error, or 0. -/
def firstIx (f : Nat → Int) : Nat → Int
  | 0 => 0
  | n + 1 => if firstErr f n ≠ 0 then firstIx f n else if f n = 0 then 0 else (n : Int)
theorem firstIx_0 {f : Nat → Int} : ∀ {n : Nat}, (∀ j, j < n → f j = 0) → firstIx f n = 0
  | 0, _ => rfl
  | n + 1, h => by rw [firstIx, firstErr_0 (fun j hj => h j (by omega)), if_neg (by decide), if_pos (h n (by omega))]
theorem firstIx_at {f : Nat → Int} {i : Nat} (h : ∀ j, j < i → f j = 0) (hi : f i ≠ 0) : ∀ {n : Nat}, i < n → firstIx f n = i
  | 0, hn => by omega
  | n + 1, hn => by
    rw [firstIx]
    by_cases e : i = n
    · subst e; rw [firstErr_0 h, if_neg (by decide), if_neg hi]
    · rw [firstErr_at h hi (n := n) (by omega), if_pos hi, firstIx_at h hi (n := n) (by omega)]
theorem firstIx_congr {f g : Nat → Int} : ∀ {n : Nat}, (∀ j, j < n → f j = g j) → firstIx f n = firstIx g n
  | 0, _ => rfl
  | n + 1, h => by rw [firstIx, firstIx, firstErr_congr (fun j hj => h j (by omega)), firstIx_congr (fun j hj => h j (by omega)), h n (by omega)]
/-- A loop that stops at the first error, and tells its number. -/
theorem iter_errI {σ ρ : Type} {b : σ → Option (σ ⊕ ρ)} (st : Nat → σ) (f : Nat → Int) (n : Nat) (hn : n ≤ 1099511627776) (F : Int → Int → ρ)
    (h1 : ∀ i : Nat, i < n → (∀ j, j < i → f j = 0) → f i ≠ 0 → b (st i) = some (.inr (F i (f i)))) (h2 : ∀ i : Nat, i < n → (∀ j, j < i → f j = 0) → f i = 0 → b (st i) = some (.inl (st (i + 1))))
    (h3 : (∀ j, j < n → f j = 0) → b (st n) = some (.inr (F 0 0))) : iterF b FUEL (st 0) = some (F (firstIx f n) (firstErr f n)) := by
  refine iter_eq (fun i x => x = st i ∧ ∀ j, j < i → f j = 0) _ n (by omega) ?_ ⟨rfl, fun j hj => by omega⟩
  rintro i x hi ⟨rfl, hp⟩
  by_cases hlt : i < n
  · by_cases q : f i = 0
    · left
      refine ⟨_, h2 i hlt hp q, hlt, rfl, fun j hj => ?_⟩
      by_cases e : j = i
      · subst e; exact q
      · exact hp j (by omega)
    · right; rw [h1 i hlt hp q, firstErr_at hp q hlt, firstIx_at hp q hlt]
  · right
    have : i = n := by omega
    subst this
    rw [h3 hp, firstErr_0 hp, firstIx_0 hp]

/-! ### Aging -/

def rgE (r : Int × Int) : Int := if (0 ≤ r.1 ∧ r.1 ≤ r.2) ∧ r.2 ≤ 1000 then 0 else 2
def wsE (w : Int) : Int := if 0 ≤ w ∧ w ≤ 100 then 0 else 2
def agI (a : Ag) (i : Nat) : Int := if i = 0 then rgE a.1 else if i = 1 then rgE a.2.1 else rgE a.2.2.1
def agE (a : Ag) : Int := if firstErr (agI a) 3 = 0 then wsE a.2.2.2 else firstErr (agI a) 3
theorem rgE_0 {r : Int × Int} (h : rgE r = 0) : 0 ≤ r.1 ∧ r.1 ≤ r.2 ∧ r.2 ≤ 1000 := by
  unfold rgE at h
  split at h
  · omega
  · cases h
theorem rgE_2 {r : Int × Int} (h : rgE r ≠ 0) : rgE r = 2 := by
  unfold rgE at *
  split
  · rename_i c; exact absurd (if_pos c) h
  · rfl
theorem agE_0 {a : Ag} (h : agE a = 0) : (0 ≤ a.1.1 ∧ a.1.1 ≤ a.1.2 ∧ a.1.2 ≤ 1000) ∧ (0 ≤ a.2.1.1 ∧ a.2.1.1 ≤ a.2.1.2 ∧ a.2.1.2 ≤ 1000) ∧ (0 ≤ a.2.2.1.1 ∧ a.2.2.1.1 ≤ a.2.2.1.2 ∧ a.2.2.1.2 ≤ 1000) ∧ (0 ≤ a.2.2.2 ∧ a.2.2.2 ≤ 100) := by
  unfold agE at h
  split at h
  · rename_i h0
    have q := firstErr_eq0 h0
    refine ⟨rgE_0 (q 0 (by omega)), rgE_0 (q 1 (by omega)), rgE_0 (q 2 (by omega)), ?_⟩
    unfold wsE at h
    split at h
    · assumption
    · cases h
  · contradiction

theorem k_CheckAging (a : Ag) : coat_CheckAging a = some ((agE a, ()), ()) := by
  simp only [coat_CheckAging, T_coat_CheckAging, agE]
  rw [r_iter]
  refine (iter_err (fun i => ((i : Int), ())) (agI a) 3 (by omega) (fun e => ((((if e = 0 then wsE a.2.2.2 else e) : Int), ()), ())) ?_ ?_ ?_)
  all_goals simp only [T_coat_CheckAging_l0]
  · intro i hi hp hb
    have : i = 0 ∨ i = 1 ∨ i = 2 := by omega
    rcases this with rfl | rfl | rfl
    · have e : agI a 0 = 2 := rgE_2 hb
      by_cases c1 : 0 ≤ a.1.1 ∧ a.1.1 ≤ a.1.2
      · by_cases c2 : (1000 : Int) < a.1.2
        · simp (maxSteps := 1000000) (disch := first | omega | assumption) only [r_ret, r_br, decide_eq_true_eq, Bool.not_eq_eq_eq_not, decide_eq_false_iff_not, ite_not, q_true, r_bind, r_iter, q_inB, q_nz, q_app, q_eq, q_bnd, q_str, w64', Option.bind_some, Option.bind_none, List.length_cons, List.length_nil, List.length_append, Nat.zero_add, if_pos, if_neg, decide_true, decide_false, if_true, if_false, Bool.not_true, Bool.not_false, Bool.false_eq_true, Bool.true_eq_false, not_true_eq_false, not_false_eq_true, reduceIte, List.nil_append, k_within, c1, c2, and_self, e]
        · exact absurd (show rgE a.1 = 0 from if_pos ⟨c1, by omega⟩) hb
      · simp (maxSteps := 1000000) (disch := first | omega | assumption) only [r_ret, r_br, decide_eq_true_eq, Bool.not_eq_eq_eq_not, decide_eq_false_iff_not, ite_not, q_true, r_bind, r_iter, q_inB, q_nz, q_app, q_eq, q_bnd, q_str, w64', Option.bind_some, Option.bind_none, List.length_cons, List.length_nil, List.length_append, Nat.zero_add, if_pos, if_neg, decide_true, decide_false, if_true, if_false, Bool.not_true, Bool.not_false, Bool.false_eq_true, Bool.true_eq_false, not_true_eq_false, not_false_eq_true, reduceIte, List.nil_append, k_within, c1, e]
    · have e : agI a 1 = 2 := rgE_2 hb
      by_cases c1 : 0 ≤ a.2.1.1 ∧ a.2.1.1 ≤ a.2.1.2
      · by_cases c2 : (1000 : Int) < a.2.1.2
        · simp (maxSteps := 1000000) (disch := first | omega | assumption) only [r_ret, r_br, decide_eq_true_eq, Bool.not_eq_eq_eq_not, decide_eq_false_iff_not, ite_not, q_true, r_bind, r_iter, q_inB, q_nz, q_app, q_eq, q_bnd, q_str, w64', Option.bind_some, Option.bind_none, List.length_cons, List.length_nil, List.length_append, Nat.zero_add, if_pos, if_neg, decide_true, decide_false, if_true, if_false, Bool.not_true, Bool.not_false, Bool.false_eq_true, Bool.true_eq_false, not_true_eq_false, not_false_eq_true, reduceIte, List.nil_append, k_within, c1, c2, and_self, e]
        · exact absurd (show rgE a.2.1 = 0 from if_pos ⟨c1, by omega⟩) hb
      · simp (maxSteps := 1000000) (disch := first | omega | assumption) only [r_ret, r_br, decide_eq_true_eq, Bool.not_eq_eq_eq_not, decide_eq_false_iff_not, ite_not, q_true, r_bind, r_iter, q_inB, q_nz, q_app, q_eq, q_bnd, q_str, w64', Option.bind_some, Option.bind_none, List.length_cons, List.length_nil, List.length_append, Nat.zero_add, if_pos, if_neg, decide_true, decide_false, if_true, if_false, Bool.not_true, Bool.not_false, Bool.false_eq_true, Bool.true_eq_false, not_true_eq_false, not_false_eq_true, reduceIte, List.nil_append, k_within, c1, e]
    · have e : agI a 2 = 2 := rgE_2 hb
      by_cases c1 : 0 ≤ a.2.2.1.1 ∧ a.2.2.1.1 ≤ a.2.2.1.2
      · by_cases c2 : (1000 : Int) < a.2.2.1.2
        · simp (maxSteps := 1000000) (disch := first | omega | assumption) only [r_ret, r_br, decide_eq_true_eq, Bool.not_eq_eq_eq_not, decide_eq_false_iff_not, ite_not, q_true, r_bind, r_iter, q_inB, q_nz, q_app, q_eq, q_bnd, q_str, w64', Option.bind_some, Option.bind_none, List.length_cons, List.length_nil, List.length_append, Nat.zero_add, if_pos, if_neg, decide_true, decide_false, if_true, if_false, Bool.not_true, Bool.not_false, Bool.false_eq_true, Bool.true_eq_false, not_true_eq_false, not_false_eq_true, reduceIte, List.nil_append, k_within, c1, c2, and_self, e]
        · exact absurd (show rgE a.2.2.1 = 0 from if_pos ⟨c1, by omega⟩) hb
      · simp (maxSteps := 1000000) (disch := first | omega | assumption) only [r_ret, r_br, decide_eq_true_eq, Bool.not_eq_eq_eq_not, decide_eq_false_iff_not, ite_not, q_true, r_bind, r_iter, q_inB, q_nz, q_app, q_eq, q_bnd, q_str, w64', Option.bind_some, Option.bind_none, List.length_cons, List.length_nil, List.length_append, Nat.zero_add, if_pos, if_neg, decide_true, decide_false, if_true, if_false, Bool.not_true, Bool.not_false, Bool.false_eq_true, Bool.true_eq_false, not_true_eq_false, not_false_eq_true, reduceIte, List.nil_append, k_within, c1, e]
  · intro i hi hp hb
    have : i = 0 ∨ i = 1 ∨ i = 2 := by omega
    rcases this with rfl | rfl | rfl
    · have q : rgE a.1 = 0 := hb
      have := rgE_0 q
      have c1 : 0 ≤ a.1.1 ∧ a.1.1 ≤ a.1.2 := by omega
      simp (maxSteps := 1000000) (disch := first | omega | assumption) only [r_ret, r_br, decide_eq_true_eq, Bool.not_eq_eq_eq_not, decide_eq_false_iff_not, ite_not, q_true, r_bind, r_iter, q_inB, q_nz, q_app, q_eq, q_bnd, q_str, w64', Option.bind_some, Option.bind_none, List.length_cons, List.length_nil, List.length_append, Nat.zero_add, if_pos, if_neg, decide_true, decide_false, if_true, if_false, Bool.not_true, Bool.not_false, Bool.false_eq_true, Bool.true_eq_false, not_true_eq_false, not_false_eq_true, reduceIte, List.nil_append, k_within, c1, and_self]
      all_goals rfl
    · have q : rgE a.2.1 = 0 := hb
      have := rgE_0 q
      have c1 : 0 ≤ a.2.1.1 ∧ a.2.1.1 ≤ a.2.1.2 := by omega
      simp (maxSteps := 1000000) (disch := first | omega | assumption) only [r_ret, r_br, decide_eq_true_eq, Bool.not_eq_eq_eq_not, decide_eq_false_iff_not, ite_not, q_true, r_bind, r_iter, q_inB, q_nz, q_app, q_eq, q_bnd, q_str, w64', Option.bind_some, Option.bind_none, List.length_cons, List.length_nil, List.length_append, Nat.zero_add, if_pos, if_neg, decide_true, decide_false, if_true, if_false, Bool.not_true, Bool.not_false, Bool.false_eq_true, Bool.true_eq_false, not_true_eq_false, not_false_eq_true, reduceIte, List.nil_append, k_within, c1, and_self]
      all_goals rfl
    · have q : rgE a.2.2.1 = 0 := hb
      have := rgE_0 q
      have c1 : 0 ≤ a.2.2.1.1 ∧ a.2.2.1.1 ≤ a.2.2.1.2 := by omega
      simp (maxSteps := 1000000) (disch := first | omega | assumption) only [r_ret, r_br, decide_eq_true_eq, Bool.not_eq_eq_eq_not, decide_eq_false_iff_not, ite_not, q_true, r_bind, r_iter, q_inB, q_nz, q_app, q_eq, q_bnd, q_str, w64', Option.bind_some, Option.bind_none, List.length_cons, List.length_nil, List.length_append, Nat.zero_add, if_pos, if_neg, decide_true, decide_false, if_true, if_false, Bool.not_true, Bool.not_false, Bool.false_eq_true, Bool.true_eq_false, not_true_eq_false, not_false_eq_true, reduceIte, List.nil_append, k_within, c1, and_self]
      all_goals rfl
  · intro hp
    unfold wsE
    by_cases c1 : 0 ≤ a.2.2.2 ∧ a.2.2.2 ≤ 100
    · simp (maxSteps := 1000000) (disch := first | omega | assumption) only [r_ret, r_br, decide_eq_true_eq, Bool.not_eq_eq_eq_not, decide_eq_false_iff_not, ite_not, q_true, r_bind, r_iter, q_inB, q_nz, q_app, q_eq, q_bnd, q_str, w64', Option.bind_some, Option.bind_none, List.length_cons, List.length_nil, List.length_append, Nat.zero_add, if_pos, if_neg, decide_true, decide_false, if_true, if_false, Bool.not_true, Bool.not_false, Bool.false_eq_true, Bool.true_eq_false, not_true_eq_false, not_false_eq_true, reduceIte, List.nil_append, k_within, c1, and_self]
    · simp (maxSteps := 1000000) (disch := first | omega | assumption) only [r_ret, r_br, decide_eq_true_eq, Bool.not_eq_eq_eq_not, decide_eq_false_iff_not, ite_not, q_true, r_bind, r_iter, q_inB, q_nz, q_app, q_eq, q_bnd, q_str, w64', Option.bind_some, Option.bind_none, List.length_cons, List.length_nil, List.length_append, Nat.zero_add, if_pos, if_neg, decide_true, decide_false, if_true, if_false, Bool.not_true, Bool.not_false, Bool.false_eq_true, Bool.true_eq_false, not_true_eq_false, not_false_eq_true, reduceIte, List.nil_append, k_within, c1]
theorem k_rCheckAging (a : Ag) : ref08xCheckAging a = some ((agE a, ()), ()) := by
  simp only [ref08xCheckAging, T_ref08xCheckAging, agE]
  rw [r_iter]
  refine (iter_err (fun i => ((i : Int), ())) (agI a) 3 (by omega) (fun e => ((((if e = 0 then wsE a.2.2.2 else e) : Int), ()), ())) ?_ ?_ ?_)
  all_goals simp only [T_ref08xCheckAging_l0]
  · intro i hi hp hb
    have : i = 0 ∨ i = 1 ∨ i = 2 := by omega
    rcases this with rfl | rfl | rfl
    · have e : agI a 0 = 2 := rgE_2 hb
      by_cases c1 : 0 ≤ a.1.1 ∧ a.1.1 ≤ a.1.2
      · by_cases c2 : (1000 : Int) < a.1.2
        · simp (maxSteps := 1000000) (disch := first | omega | assumption) only [r_ret, r_br, decide_eq_true_eq, Bool.not_eq_eq_eq_not, decide_eq_false_iff_not, ite_not, q_true, r_bind, r_iter, q_inB, q_nz, q_app, q_eq, q_bnd, q_str, w64', Option.bind_some, Option.bind_none, List.length_cons, List.length_nil, List.length_append, Nat.zero_add, if_pos, if_neg, decide_true, decide_false, if_true, if_false, Bool.not_true, Bool.not_false, Bool.false_eq_true, Bool.true_eq_false, not_true_eq_false, not_false_eq_true, reduceIte, List.nil_append, k_Within, c1, c2, and_self, e]
        · exact absurd (show rgE a.1 = 0 from if_pos ⟨c1, by omega⟩) hb
      · simp (maxSteps := 1000000) (disch := first | omega | assumption) only [r_ret, r_br, decide_eq_true_eq, Bool.not_eq_eq_eq_not, decide_eq_false_iff_not, ite_not, q_true, r_bind, r_iter, q_inB, q_nz, q_app, q_eq, q_bnd, q_str, w64', Option.bind_some, Option.bind_none, List.length_cons, List.length_nil, List.length_append, Nat.zero_add, if_pos, if_neg, decide_true, decide_false, if_true, if_false, Bool.not_true, Bool.not_false, Bool.false_eq_true, Bool.true_eq_false, not_true_eq_false, not_false_eq_true, reduceIte, List.nil_append, k_Within, c1, e]
    · have e : agI a 1 = 2 := rgE_2 hb
      by_cases c1 : 0 ≤ a.2.1.1 ∧ a.2.1.1 ≤ a.2.1.2
      · by_cases c2 : (1000 : Int) < a.2.1.2
        · simp (maxSteps := 1000000) (disch := first | omega | assumption) only [r_ret, r_br, decide_eq_true_eq, Bool.not_eq_eq_eq_not, decide_eq_false_iff_not, ite_not, q_true, r_bind, r_iter, q_inB, q_nz, q_app, q_eq, q_bnd, q_str, w64', Option.bind_some, Option.bind_none, List.length_cons, List.length_nil, List.length_append, Nat.zero_add, if_pos, if_neg, decide_true, decide_false, if_true, if_false, Bool.not_true, Bool.not_false, Bool.false_eq_true, Bool.true_eq_false, not_true_eq_false, not_false_eq_true, reduceIte, List.nil_append, k_Within, c1, c2, and_self, e]
        · exact absurd (show rgE a.2.1 = 0 from if_pos ⟨c1, by omega⟩) hb
      · simp (maxSteps := 1000000) (disch := first | omega | assumption) only [r_ret, r_br, decide_eq_true_eq, Bool.not_eq_eq_eq_not, decide_eq_false_iff_not, ite_not, q_true, r_bind, r_iter, q_inB, q_nz, q_app, q_eq, q_bnd, q_str, w64', Option.bind_some, Option.bind_none, List.length_cons, List.length_nil, List.length_append, Nat.zero_add, if_pos, if_neg, decide_true, decide_false, if_true, if_false, Bool.not_true, Bool.not_false, Bool.false_eq_true, Bool.true_eq_false, not_true_eq_false, not_false_eq_true, reduceIte, List.nil_append, k_Within, c1, e]
    · have e : agI a 2 = 2 := rgE_2 hb
      by_cases c1 : 0 ≤ a.2.2.1.1 ∧ a.2.2.1.1 ≤ a.2.2.1.2
      · by_cases c2 : (1000 : Int) < a.2.2.1.2
        · simp (maxSteps := 1000000) (disch := first | omega | assumption) only [r_ret, r_br, decide_eq_true_eq, Bool.not_eq_eq_eq_not, decide_eq_false_iff_not, ite_not, q_true, r_bind, r_iter, q_inB, q_nz, q_app, q_eq, q_bnd, q_str, w64', Option.bind_some, Option.bind_none, List.length_cons, List.length_nil, List.length_append, Nat.zero_add, if_pos, if_neg, decide_true, decide_false, if_true, if_false, Bool.not_true, Bool.not_false, Bool.false_eq_true, Bool.true_eq_false, not_true_eq_false, not_false_eq_true, reduceIte, List.nil_append, k_Within, c1, c2, and_self, e]
        · exact absurd (show rgE a.2.2.1 = 0 from if_pos ⟨c1, by omega⟩) hb
      · simp (maxSteps := 1000000) (disch := first | omega | assumption) only [r_ret, r_br, decide_eq_true_eq, Bool.not_eq_eq_eq_not, decide_eq_false_iff_not, ite_not, q_true, r_bind, r_iter, q_inB, q_nz, q_app, q_eq, q_bnd, q_str, w64', Option.bind_some, Option.bind_none, List.length_cons, List.length_nil, List.length_append, Nat.zero_add, if_pos, if_neg, decide_true, decide_false, if_true, if_false, Bool.not_true, Bool.not_false, Bool.false_eq_true, Bool.true_eq_false, not_true_eq_false, not_false_eq_true, reduceIte, List.nil_append, k_Within, c1, e]
  · intro i hi hp hb
    have : i = 0 ∨ i = 1 ∨ i = 2 := by omega
    rcases this with rfl | rfl | rfl
    · have q : rgE a.1 = 0 := hb
      have := rgE_0 q
      have c1 : 0 ≤ a.1.1 ∧ a.1.1 ≤ a.1.2 := by omega
      simp (maxSteps := 1000000) (disch := first | omega | assumption) only [r_ret, r_br, decide_eq_true_eq, Bool.not_eq_eq_eq_not, decide_eq_false_iff_not, ite_not, q_true, r_bind, r_iter, q_inB, q_nz, q_app, q_eq, q_bnd, q_str, w64', Option.bind_some, Option.bind_none, List.length_cons, List.length_nil, List.length_append, Nat.zero_add, if_pos, if_neg, decide_true, decide_false, if_true, if_false, Bool.not_true, Bool.not_false, Bool.false_eq_true, Bool.true_eq_false, not_true_eq_false, not_false_eq_true, reduceIte, List.nil_append, k_Within, c1, and_self]
      all_goals rfl
    · have q : rgE a.2.1 = 0 := hb
      have := rgE_0 q
      have c1 : 0 ≤ a.2.1.1 ∧ a.2.1.1 ≤ a.2.1.2 := by omega
      simp (maxSteps := 1000000) (disch := first | omega | assumption) only [r_ret, r_br, decide_eq_true_eq, Bool.not_eq_eq_eq_not, decide_eq_false_iff_not, ite_not, q_true, r_bind, r_iter, q_inB, q_nz, q_app, q_eq, q_bnd, q_str, w64', Option.bind_some, Option.bind_none, List.length_cons, List.length_nil, List.length_append, Nat.zero_add, if_pos, if_neg, decide_true, decide_false, if_true, if_false, Bool.not_true, Bool.not_false, Bool.false_eq_true, Bool.true_eq_false, not_true_eq_false, not_false_eq_true, reduceIte, List.nil_append, k_Within, c1, and_self]
      all_goals rfl
    · have q : rgE a.2.2.1 = 0 := hb
      have := rgE_0 q
      have c1 : 0 ≤ a.2.2.1.1 ∧ a.2.2.1.1 ≤ a.2.2.1.2 := by omega
      simp (maxSteps := 1000000) (disch := first | omega | assumption) only [r_ret, r_br, decide_eq_true_eq, Bool.not_eq_eq_eq_not, decide_eq_false_iff_not, ite_not, q_true, r_bind, r_iter, q_inB, q_nz, q_app, q_eq, q_bnd, q_str, w64', Option.bind_some, Option.bind_none, List.length_cons, List.length_nil, List.length_append, Nat.zero_add, if_pos, if_neg, decide_true, decide_false, if_true, if_false, Bool.not_true, Bool.not_false, Bool.false_eq_true, Bool.true_eq_false, not_true_eq_false, not_false_eq_true, reduceIte, List.nil_append, k_Within, c1, and_self]
      all_goals rfl
  · intro hp
    unfold wsE
    by_cases c1 : 0 ≤ a.2.2.2 ∧ a.2.2.2 ≤ 100
    · simp (maxSteps := 1000000) (disch := first | omega | assumption) only [r_ret, r_br, decide_eq_true_eq, Bool.not_eq_eq_eq_not, decide_eq_false_iff_not, ite_not, q_true, r_bind, r_iter, q_inB, q_nz, q_app, q_eq, q_bnd, q_str, w64', Option.bind_some, Option.bind_none, List.length_cons, List.length_nil, List.length_append, Nat.zero_add, if_pos, if_neg, decide_true, decide_false, if_true, if_false, Bool.not_true, Bool.not_false, Bool.false_eq_true, Bool.true_eq_false, not_true_eq_false, not_false_eq_true, reduceIte, List.nil_append, k_Within, c1, and_self]
    · simp (maxSteps := 1000000) (disch := first | omega | assumption) only [r_ret, r_br, decide_eq_true_eq, Bool.not_eq_eq_eq_not, decide_eq_false_iff_not, ite_not, q_true, r_bind, r_iter, q_inB, q_nz, q_app, q_eq, q_bnd, q_str, w64', Option.bind_some, Option.bind_none, List.length_cons, List.length_nil, List.length_append, Nat.zero_add, if_pos, if_neg, decide_true, decide_false, if_true, if_false, Bool.not_true, Bool.not_false, Bool.false_eq_true, Bool.true_eq_false, not_true_eq_false, not_false_eq_true, reduceIte, List.nil_append, k_Within, c1]

/-! ### Events -/

def evE (x : Ev) : Int := if isNm x.1 then (if 0 ≤ x.2.1 ∧ x.2.1 ≤ 100000 then (if 0 ≤ x.2.2 ∧ x.2.2 ≤ 2 then 0 else 15) else 2) else 4
theorem k_isDay (n : Int) : coat_isDay n = some ((decide (0 ≤ n ∧ n ≤ 100000), ()), ()) := by
  simp only [coat_isDay, T_coat_isDay]
  simp (maxSteps := 1000000) (disch := first | omega | assumption) only [r_ret, r_br, decide_eq_true_eq, Bool.not_eq_eq_eq_not, decide_eq_false_iff_not, ite_not, q_true, r_bind, r_iter, q_inB, q_nz, q_app, q_eq, q_bnd, q_str, w64', Option.bind_some, Option.bind_none, List.length_cons, List.length_nil, List.length_append, Nat.zero_add, if_pos, if_neg, decide_true, decide_false, if_true, if_false, Bool.not_true, Bool.not_false, Bool.false_eq_true, Bool.true_eq_false, not_true_eq_false, not_false_eq_true, reduceIte, List.nil_append, k_within]
theorem k_checkEvent {x : Ev} (hl : x.1.length ≤ 1048576) : coat_checkEvent x = some ((evE x, ()), ()) := by
  simp only [coat_checkEvent, T_coat_checkEvent, evE]
  by_cases c1 : isNm x.1
  · by_cases c2 : 0 ≤ x.2.1 ∧ x.2.1 ≤ 100000
    · by_cases c3 : 0 ≤ x.2.2 ∧ x.2.2 ≤ 2
      · simp (maxSteps := 1000000) (disch := first | omega | assumption) only [r_ret, r_br, decide_eq_true_eq, Bool.not_eq_eq_eq_not, decide_eq_false_iff_not, ite_not, q_true, r_bind, r_iter, q_inB, q_nz, q_app, q_eq, q_bnd, q_str, w64', Option.bind_some, Option.bind_none, List.length_cons, List.length_nil, List.length_append, Nat.zero_add, if_pos, if_neg, decide_true, decide_false, if_true, if_false, Bool.not_true, Bool.not_false, Bool.false_eq_true, Bool.true_eq_false, not_true_eq_false, not_false_eq_true, reduceIte, List.nil_append, k_isName, c1, k_isDay, c2, k_within, c3, and_self]
      · simp (maxSteps := 1000000) (disch := first | omega | assumption) only [r_ret, r_br, decide_eq_true_eq, Bool.not_eq_eq_eq_not, decide_eq_false_iff_not, ite_not, q_true, r_bind, r_iter, q_inB, q_nz, q_app, q_eq, q_bnd, q_str, w64', Option.bind_some, Option.bind_none, List.length_cons, List.length_nil, List.length_append, Nat.zero_add, if_pos, if_neg, decide_true, decide_false, if_true, if_false, Bool.not_true, Bool.not_false, Bool.false_eq_true, Bool.true_eq_false, not_true_eq_false, not_false_eq_true, reduceIte, List.nil_append, k_isName, c1, k_isDay, c2, k_within, c3, and_self]
    · simp (maxSteps := 1000000) (disch := first | omega | assumption) only [r_ret, r_br, decide_eq_true_eq, Bool.not_eq_eq_eq_not, decide_eq_false_iff_not, ite_not, q_true, r_bind, r_iter, q_inB, q_nz, q_app, q_eq, q_bnd, q_str, w64', Option.bind_some, Option.bind_none, List.length_cons, List.length_nil, List.length_append, Nat.zero_add, if_pos, if_neg, decide_true, decide_false, if_true, if_false, Bool.not_true, Bool.not_false, Bool.false_eq_true, Bool.true_eq_false, not_true_eq_false, not_false_eq_true, reduceIte, List.nil_append, k_isName, c1, k_isDay, c2]
  · simp (maxSteps := 1000000) (disch := first | omega | assumption) only [r_ret, r_br, decide_eq_true_eq, Bool.not_eq_eq_eq_not, decide_eq_false_iff_not, ite_not, q_true, r_bind, r_iter, q_inB, q_nz, q_app, q_eq, q_bnd, q_str, w64', Option.bind_some, Option.bind_none, List.length_cons, List.length_nil, List.length_append, Nat.zero_add, if_pos, if_neg, decide_true, decide_false, if_true, if_false, Bool.not_true, Bool.not_false, Bool.false_eq_true, Bool.true_eq_false, not_true_eq_false, not_false_eq_true, reduceIte, List.nil_append, k_isName, c1]
theorem k_rCheckEvent {x : Ev} (hl : x.1.length ≤ 1048576) : ref08xCheckEvent x = some ((evE x, ()), ()) := by
  simp only [ref08xCheckEvent, T_ref08xCheckEvent, evE]
  by_cases c1 : isNm x.1
  · by_cases c2 : 0 ≤ x.2.1 ∧ x.2.1 ≤ 100000
    · by_cases c3 : 0 ≤ x.2.2 ∧ x.2.2 ≤ 2
      · simp (maxSteps := 1000000) (disch := first | omega | assumption) only [r_ret, r_br, decide_eq_true_eq, Bool.not_eq_eq_eq_not, decide_eq_false_iff_not, ite_not, q_true, r_bind, r_iter, q_inB, q_nz, q_app, q_eq, q_bnd, q_str, w64', Option.bind_some, Option.bind_none, List.length_cons, List.length_nil, List.length_append, Nat.zero_add, if_pos, if_neg, decide_true, decide_false, if_true, if_false, Bool.not_true, Bool.not_false, Bool.false_eq_true, Bool.true_eq_false, not_true_eq_false, not_false_eq_true, reduceIte, List.nil_append, k_IsName, c1, k_Within, c2, c3, and_self]
      · simp (maxSteps := 1000000) (disch := first | omega | assumption) only [r_ret, r_br, decide_eq_true_eq, Bool.not_eq_eq_eq_not, decide_eq_false_iff_not, ite_not, q_true, r_bind, r_iter, q_inB, q_nz, q_app, q_eq, q_bnd, q_str, w64', Option.bind_some, Option.bind_none, List.length_cons, List.length_nil, List.length_append, Nat.zero_add, if_pos, if_neg, decide_true, decide_false, if_true, if_false, Bool.not_true, Bool.not_false, Bool.false_eq_true, Bool.true_eq_false, not_true_eq_false, not_false_eq_true, reduceIte, List.nil_append, k_IsName, c1, k_Within, c2, c3, and_self]
    · simp (maxSteps := 1000000) (disch := first | omega | assumption) only [r_ret, r_br, decide_eq_true_eq, Bool.not_eq_eq_eq_not, decide_eq_false_iff_not, ite_not, q_true, r_bind, r_iter, q_inB, q_nz, q_app, q_eq, q_bnd, q_str, w64', Option.bind_some, Option.bind_none, List.length_cons, List.length_nil, List.length_append, Nat.zero_add, if_pos, if_neg, decide_true, decide_false, if_true, if_false, Bool.not_true, Bool.not_false, Bool.false_eq_true, Bool.true_eq_false, not_true_eq_false, not_false_eq_true, reduceIte, List.nil_append, k_IsName, c1, k_Within, c2]
  · simp (maxSteps := 1000000) (disch := first | omega | assumption) only [r_ret, r_br, decide_eq_true_eq, Bool.not_eq_eq_eq_not, decide_eq_false_iff_not, ite_not, q_true, r_bind, r_iter, q_inB, q_nz, q_app, q_eq, q_bnd, q_str, w64', Option.bind_some, Option.bind_none, List.length_cons, List.length_nil, List.length_append, Nat.zero_add, if_pos, if_neg, decide_true, decide_false, if_true, if_false, Bool.not_true, Bool.not_false, Bool.false_eq_true, Bool.true_eq_false, not_true_eq_false, not_false_eq_true, reduceIte, List.nil_append, k_IsName, c1]
theorem evE_0 {x : Ev} (h : evE x = 0) : (0 ≤ x.2.1 ∧ x.2.1 ≤ 100000) ∧ (x.2.2 = 0 ∨ x.2.2 = 1 ∨ x.2.2 = 2) := by
  unfold evE at h
  split at h
  · split at h
    · split at h
      · omega
      · cases h
    · cases h
  · cases h

/-! ### Films -/

def agd (a : Ag) (r : Int × Int) (d : Int) : Int × Int := (max 0 (r.1 - cdiv (a.2.1.2 * d) 1000), max 0 (r.2 - a.2.1.1 * d / 1000))
def stp (a : Ag) (s : Sf) (x : Ev) : Sf :=
  if x.2.2 = 0 then (true, 0, x.2.1, a.1)
  else if x.2.2 = 1 then (s.1, s.2.1 + 1, x.2.1, (min a.1.1 ((agd a s.2.2.2 (x.2.1 - s.2.2.1)).1 + a.2.2.1.1), min a.1.2 ((agd a s.2.2.2 (x.2.1 - s.2.2.1)).2 + a.2.2.1.2)))
  else (false, s.2)
def posE (w : Int) (s : Sf) (kind : Int) : Int := if s.1 = decide (kind = 0) then 24 else if kind = 1 ∧ w ≤ s.2.1 then 16 else 0
def sf0 : Sf := (false, 0, 0, 0, 0)
def flm (a : Ag) (l : List Ev) : Nat → Sf
  | 0 => sf0
  | i + 1 => stp a (flm a l i) (gi l (i : Int))
def thn (a : Ag) (l : List Ev) (day : Int) : Nat → Sf
  | 0 => sf0
  | i + 1 => if (gi l (i : Int)).2.1 ≤ day then flm a l (i + 1) else thn a l day i
/-- The bounds of a film. -/
def SfOk (a : Ag) (s : Sf) : Prop := (0 ≤ s.2.1 ∧ s.2.1 ≤ a.2.2.2) ∧ (0 ≤ s.2.2.1 ∧ s.2.2.1 ≤ 100000) ∧ (0 ≤ s.2.2.2.1 ∧ s.2.2.2.1 ≤ s.2.2.2.2 ∧ s.2.2.2.2 ≤ 1000)

theorem mul_rg {x d : Int} (h : 0 ≤ x ∧ x ≤ 1000) (hd : -100000 ≤ d ∧ d ≤ 100000) : -100000000 ≤ x * d ∧ x * d ≤ 100000000 := by
  rcases Int.le_total 0 d with h2 | h2
  · have := Int.mul_le_mul h.2 hd.2 h2 (by omega)
    have := Int.mul_nonneg h.1 h2
    omega
  · have := Int.mul_le_mul h.2 (b := -d) (d := 100000) (by omega) (by omega) (by omega)
    have := Int.mul_nonneg h.1 (b := -d) (by omega)
    rw [Int.mul_neg] at *
    omega
theorem cdiv_bd {a b m : Int} (hb : 0 < b) (h : -m ≤ a) (h2 : a ≤ m) (hm : 0 ≤ m) : -m ≤ cdiv a b ∧ cdiv a b ≤ m := by
  have := fdiv_bd (a := 0 - a) hb (m := m) (by omega) (by omega) hm
  unfold cdiv; omega
theorem agd_bd {a : Ag} (ha : agE a = 0) {r : Int × Int} (hr : 0 ≤ r.1 ∧ r.1 ≤ r.2 ∧ r.2 ≤ 1000) {d : Int} (hd : -100000 ≤ d ∧ d ≤ 100000) :
    (-100000000 ≤ a.2.1.2 * d ∧ a.2.1.2 * d ≤ 100000000) ∧ (-100000000 ≤ a.2.1.1 * d ∧ a.2.1.1 * d ≤ 100000000) ∧ (-100000000 ≤ cdiv (a.2.1.2 * d) 1000 ∧ cdiv (a.2.1.2 * d) 1000 ≤ 100000000) ∧ (-100000000 ≤ a.2.1.1 * d / 1000 ∧ a.2.1.1 * d / 1000 ≤ 100000000) := by
  obtain ⟨-, h, -, -⟩ := agE_0 ha
  have m1 := mul_rg (x := a.2.1.2) (d := d) (by omega) hd
  have m2 := mul_rg (x := a.2.1.1) (d := d) (by omega) hd
  exact ⟨m1, m2, cdiv_bd (by omega) m1.1 m1.2 (by omega), fdiv_bd (by omega) m2.1 m2.2 (by omega)⟩
/-- What days take is at least as much at the greater loss. -/
theorem agd_rg {a : Ag} (ha : agE a = 0) {r : Int × Int} (hr : 0 ≤ r.1 ∧ r.1 ≤ r.2 ∧ r.2 ≤ 1000) {d : Int} (hd : 0 ≤ d) : 0 ≤ (agd a r d).1 ∧ (agd a r d).1 ≤ (agd a r d).2 ∧ (agd a r d).2 ≤ r.2 := by
  obtain ⟨-, h, -, -⟩ := agE_0 ha
  have m1 : a.2.1.1 * d ≤ a.2.1.2 * d := Int.mul_le_mul_of_nonneg_right h.2.1 hd
  have m2 : 0 ≤ a.2.1.1 * d := Int.mul_nonneg h.1 hd
  unfold agd cdiv
  generalize a.2.1.1 * d = u at *
  generalize a.2.1.2 * d = v at *
  simp only
  omega

theorem k_film_on {a : Ag} {s : Sf} {day : Int} (ha : agE a = 0) (hs : SfOk a s) (hd : 0 ≤ day ∧ day ≤ 100000) : coat_film_on day (a, s) = some ((agd a s.2.2.2 (day - s.2.2.1), ()), ((a, s), ())) := by
  obtain ⟨h1, h2, h3⟩ := hs
  obtain ⟨m1, m2, m3, m4⟩ := agd_bd ha h3 (d := day - s.2.2.1) (by omega)
  simp only [coat_film_on, T_coat_film_on, agd]
  simp (maxSteps := 1000000) (disch := first | omega | assumption) only [r_ret, r_br, decide_eq_true_eq, Bool.not_eq_eq_eq_not, decide_eq_false_iff_not, ite_not, q_true, r_bind, r_iter, q_inB, q_nz, q_app, q_eq, q_bnd, q_str, w64', Option.bind_some, Option.bind_none, List.length_cons, List.length_nil, List.length_append, Nat.zero_add, if_pos, if_neg, decide_true, decide_false, if_true, if_false, Bool.not_true, Bool.not_false, Bool.false_eq_true, Bool.true_eq_false, not_true_eq_false, not_false_eq_true, reduceIte, List.nil_append, k_ceil, k_floor]
  all_goals rfl
theorem k_possible (a : Ag) (s : Sf) (kind : Int) : coat_film_possible kind (a, s) = some ((posE a.2.2.2 s kind, ()), ((a, s), ())) := by
  simp only [coat_film_possible, T_coat_film_possible, posE]
  generalize decide (kind = 0) = k
  by_cases c1 : s.1 = k
  · have c1' : (s.1 == k) = true := by simpa using c1
    rw [if_pos c1]
    simp (maxSteps := 1000000) (disch := first | omega | assumption) only [r_ret, r_br, decide_eq_true_eq, Bool.not_eq_eq_eq_not, decide_eq_false_iff_not, ite_not, q_true, r_bind, r_iter, q_inB, q_nz, q_app, q_eq, q_bnd, q_str, w64', Option.bind_some, Option.bind_none, List.length_cons, List.length_nil, List.length_append, Nat.zero_add, if_pos, if_neg, decide_true, decide_false, if_true, if_false, Bool.not_true, Bool.not_false, Bool.false_eq_true, Bool.true_eq_false, not_true_eq_false, not_false_eq_true, reduceIte, List.nil_append, c1']
    all_goals rfl
  · have c1' : (s.1 == k) = false := by simpa using c1
    rw [if_neg c1]
    by_cases c2 : kind = 1
    · by_cases c3 : a.2.2.2 ≤ s.2.1
      · rw [if_pos ⟨c2, c3⟩]
        simp (maxSteps := 1000000) (disch := first | omega | assumption) only [r_ret, r_br, decide_eq_true_eq, Bool.not_eq_eq_eq_not, decide_eq_false_iff_not, ite_not, q_true, r_bind, r_iter, q_inB, q_nz, q_app, q_eq, q_bnd, q_str, w64', Option.bind_some, Option.bind_none, List.length_cons, List.length_nil, List.length_append, Nat.zero_add, if_pos, if_neg, decide_true, decide_false, if_true, if_false, Bool.not_true, Bool.not_false, Bool.false_eq_true, Bool.true_eq_false, not_true_eq_false, not_false_eq_true, reduceIte, List.nil_append, c1', c2, c3]
        all_goals rfl
      · rw [if_neg (fun h => c3 h.2)]
        simp (maxSteps := 1000000) (disch := first | omega | assumption) only [r_ret, r_br, decide_eq_true_eq, Bool.not_eq_eq_eq_not, decide_eq_false_iff_not, ite_not, q_true, r_bind, r_iter, q_inB, q_nz, q_app, q_eq, q_bnd, q_str, w64', Option.bind_some, Option.bind_none, List.length_cons, List.length_nil, List.length_append, Nat.zero_add, if_pos, if_neg, decide_true, decide_false, if_true, if_false, Bool.not_true, Bool.not_false, Bool.false_eq_true, Bool.true_eq_false, not_true_eq_false, not_false_eq_true, reduceIte, List.nil_append, c1', c2, c3]
        all_goals rfl
    · rw [if_neg (fun h => c2 h.1)]
      simp (maxSteps := 1000000) (disch := first | omega | assumption) only [r_ret, r_br, decide_eq_true_eq, Bool.not_eq_eq_eq_not, decide_eq_false_iff_not, ite_not, q_true, r_bind, r_iter, q_inB, q_nz, q_app, q_eq, q_bnd, q_str, w64', Option.bind_some, Option.bind_none, List.length_cons, List.length_nil, List.length_append, Nat.zero_add, if_pos, if_neg, decide_true, decide_false, if_true, if_false, Bool.not_true, Bool.not_false, Bool.false_eq_true, Bool.true_eq_false, not_true_eq_false, not_false_eq_true, reduceIte, List.nil_append, c1', c2]
      all_goals rfl
theorem k_take {a : Ag} {s : Sf} {x : Ev} (ha : agE a = 0) (hs : SfOk a s) (hx : 0 ≤ x.2.1 ∧ x.2.1 ≤ 100000) : coat_film_take x (a, s) = some ((), ((a, stp a s x), ())) := by
  have hon := k_film_on ha hs hx
  obtain ⟨g1, -, g3, g4⟩ := agE_0 ha
  have hs' := hs
  obtain ⟨h1, h2, h3⟩ := hs'
  obtain ⟨m1, m2, m3, m4⟩ := agd_bd ha h3 (d := x.2.1 - s.2.2.1) (by omega)
  simp only [coat_film_take, T_coat_film_take, stp]
  by_cases c1 : x.2.2 = 0
  · simp (maxSteps := 1000000) (disch := first | omega | assumption) only [r_ret, r_br, decide_eq_true_eq, Bool.not_eq_eq_eq_not, decide_eq_false_iff_not, ite_not, q_true, r_bind, r_iter, q_inB, q_nz, q_app, q_eq, q_bnd, q_str, w64', Option.bind_some, Option.bind_none, List.length_cons, List.length_nil, List.length_append, Nat.zero_add, if_pos, if_neg, decide_true, decide_false, if_true, if_false, Bool.not_true, Bool.not_false, Bool.false_eq_true, Bool.true_eq_false, not_true_eq_false, not_false_eq_true, reduceIte, List.nil_append, c1]
    all_goals rfl
  · by_cases c2 : x.2.2 = 1
    · have b1 : 0 ≤ (agd a s.2.2.2 (x.2.1 - s.2.2.1)).1 ∧ (agd a s.2.2.2 (x.2.1 - s.2.2.1)).1 ≤ 1000000000 := by simp only [agd]; omega
      have b2 : 0 ≤ (agd a s.2.2.2 (x.2.1 - s.2.2.1)).2 ∧ (agd a s.2.2.2 (x.2.1 - s.2.2.1)).2 ≤ 1000000000 := by simp only [agd]; omega
      clear m1 m2 m3 m4
      generalize agd a s.2.2.2 (x.2.1 - s.2.2.1) = r at *
      simp (maxSteps := 1000000) (disch := first | omega | assumption) only [r_ret, r_br, decide_eq_true_eq, Bool.not_eq_eq_eq_not, decide_eq_false_iff_not, ite_not, q_true, r_bind, r_iter, q_inB, q_nz, q_app, q_eq, q_bnd, q_str, w64', Option.bind_some, Option.bind_none, List.length_cons, List.length_nil, List.length_append, Nat.zero_add, if_pos, if_neg, decide_true, decide_false, if_true, if_false, Bool.not_true, Bool.not_false, Bool.false_eq_true, Bool.true_eq_false, not_true_eq_false, not_false_eq_true, reduceIte, List.nil_append, c1, c2, hon]
      all_goals rfl
    · simp (maxSteps := 1000000) (disch := first | omega | assumption) only [r_ret, r_br, decide_eq_true_eq, Bool.not_eq_eq_eq_not, decide_eq_false_iff_not, ite_not, q_true, r_bind, r_iter, q_inB, q_nz, q_app, q_eq, q_bnd, q_str, w64', Option.bind_some, Option.bind_none, List.length_cons, List.length_nil, List.length_append, Nat.zero_add, if_pos, if_neg, decide_true, decide_false, if_true, if_false, Bool.not_true, Bool.not_false, Bool.false_eq_true, Bool.true_eq_false, not_true_eq_false, not_false_eq_true, reduceIte, List.nil_append, c1, c2]
      all_goals rfl

/-! ### Right histories -/

def hsE (a : Ag) (l : List Ev) (i : Nat) : Int :=
  if evE (gi l (i : Int)) = 0 then
    (if (gi l (i : Int)).1 = (gi l (0 : Int)).1 then
      (if 0 < i ∧ (gi l (i : Int)).2.1 < (gi l ((i : Int) - 1)).2.1 then 9 else posE a.2.2.2 (flm a l i) (gi l (i : Int)).2.2)
    else 13)
  else evE (gi l (i : Int))
def hisE (a : Ag) (l : List Ev) : Int := if (40 : Int) < l.length then 8 else firstErr (hsE a l) l.length
def hisI (a : Ag) (l : List Ev) : Int := if (40 : Int) < l.length then 0 else firstIx (hsE a l) l.length
abbrev EvOk (l : List Ev) : Prop := ∀ i : Nat, i < l.length → (gi l (i : Int)).1.length ≤ 1048576

theorem hsE_0 {a : Ag} {l : List Ev} {i : Nat} (h : hsE a l i = 0) : evE (gi l (i : Int)) = 0 ∧ (gi l (i : Int)).1 = (gi l (0 : Int)).1 ∧ (0 < i → (gi l ((i : Int) - 1)).2.1 ≤ (gi l (i : Int)).2.1) ∧ posE a.2.2.2 (flm a l i) (gi l (i : Int)).2.2 = 0 := by
  unfold hsE at h
  split at h
  · split at h
    · split at h
      · cases h
      · refine ⟨‹_›, ‹_›, by omega, h⟩
    · cases h
  · contradiction
theorem posE_0 {w kind : Int} {s : Sf} (h : posE w s kind = 0) : s.1 ≠ decide (kind = 0) ∧ (kind = 1 → s.2.1 < w) := by
  unfold posE at h
  split at h
  · cases h
  · split at h
    · cases h
    · exact ⟨‹_›, by omega⟩
theorem flm_day {a : Ag} {l : List Ev} : ∀ {i : Nat}, (∀ j, j < i → hsE a l j = 0) → 0 < i → (flm a l i).2.2.1 ≤ (gi l ((i : Int) - 1)).2.1
  | 0, _, h => by omega
  | i + 1, hp, _ => by
    obtain ⟨h1, h2, h3, h4⟩ := hsE_0 (hp i (by omega))
    obtain ⟨e1, e2⟩ := evE_0 h1
    rw [show ((i + 1 : Nat) : Int) - 1 = (i : Int) by omega]
    have ih := flm_day (i := i) (fun j hj => hp j (by omega))
    simp only [flm, stp]
    rcases e2 with e | e | e
    · rw [if_pos e]; exact Int.le_refl _
    · rw [if_neg (by omega), if_pos e]; exact Int.le_refl _
    · rw [if_neg (by omega), if_neg (by omega)]
      by_cases q : 0 < i
      · exact Int.le_trans (ih q) (h3 q)
      · have : i = 0 := by omega
        subst this
        simp only [flm, sf0]; omega
theorem flm_ok {a : Ag} {l : List Ev} (ha : agE a = 0) : ∀ i : Nat, (∀ j, j < i → hsE a l j = 0) → SfOk a (flm a l i)
  | 0, _ => by
    obtain ⟨-, -, -, h⟩ := agE_0 ha
    simp only [flm, sf0, SfOk]; omega
  | i + 1, hp => by
    have hp' : ∀ j, j < i → hsE a l j = 0 := fun j hj => hp j (by omega)
    have hs := flm_ok ha i hp'
    obtain ⟨h1, h2, h3, h4⟩ := hsE_0 (hp i (by omega))
    obtain ⟨e1, e2⟩ := evE_0 h1
    obtain ⟨p1, p2⟩ := posE_0 h4
    obtain ⟨g1, g2, g3, g4⟩ := agE_0 ha
    have hd : (flm a l i).2.2.1 ≤ (gi l (i : Int)).2.1 := by
      by_cases q : 0 < i
      · exact Int.le_trans (flm_day hp' q) (h3 q)
      · have : i = 0 := by omega
        subst this
        simp only [flm, sf0]; exact e1.1
    have hs' := hs
    obtain ⟨s1, s2, s3⟩ := hs'
    have ag := agd_rg ha s3 (d := (gi l (i : Int)).2.1 - (flm a l i).2.2.1) (by omega)
    simp only [flm, stp]
    rcases e2 with e | e | e
    · rw [if_pos e]; simp only [SfOk]; omega
    · rw [if_neg (by omega), if_pos e]
      have := p2 e
      simp only [SfOk]
      generalize agd a (flm a l i).2.2.2 ((gi l (i : Int)).2.1 - (flm a l i).2.2.1) = r at *
      omega
    · rw [if_neg (by omega), if_neg (by omega)]; exact hs
end Go.Ab
