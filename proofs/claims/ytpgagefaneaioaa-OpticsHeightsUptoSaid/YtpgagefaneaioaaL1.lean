/- The first place at which something holds. -/
import Derived.Test.YtpgagefaneaioaaL0
namespace Go.Ab
open Go
set_option linter.unusedVariables false

/-- The first place at which it holds, or -1. -/
def idxTo (p : Nat → Bool) : Nat → Int
  | 0 => -1
  | n + 1 => if idxTo p n ≠ -1 then idxTo p n else if p n then n else -1
theorem idxTo_none {p : Nat → Bool} : ∀ {n : Nat}, (∀ j, j < n → p j = false) → idxTo p n = -1
  | 0, _ => rfl
  | n + 1, h => by
    rw [idxTo, idxTo_none (fun j hj => h j (by omega))]
    simp [h n (by omega)]
theorem idxTo_at {p : Nat → Bool} {i : Nat} (h : ∀ j, j < i → p j = false) (hc : p i = true) : ∀ {n : Nat}, i < n → idxTo p n = i
  | 0, hn => by omega
  | n + 1, hn => by
    rw [idxTo]
    by_cases e : i = n
    · subst e; rw [idxTo_none h]; simp [hc]
    · rw [idxTo_at h hc (n := n) (by omega), if_pos (by omega)]
theorem idxTo_cases (p : Nat → Bool) : ∀ n : Nat, (idxTo p n = -1 ∧ ∀ j, j < n → p j = false) ∨ ∃ i : Nat, i < n ∧ idxTo p n = i ∧ p i = true ∧ ∀ j, j < i → p j = false
  | 0 => .inl ⟨rfl, fun j h => by omega⟩
  | n + 1 => by
    rcases idxTo_cases p n with ⟨h1, h2⟩ | ⟨i, h1, h2, h3, h4⟩
    · by_cases hp : p n = true
      · exact .inr ⟨n, by omega, idxTo_at h2 hp (by omega), hp, h2⟩
      · have hp' : p n = false := by simpa using hp
        refine .inl ⟨idxTo_none fun j hj => ?_, fun j hj => ?_⟩
        all_goals
          by_cases e : j = n
          · subst e; exact hp'
          · exact h2 j (by omega)
    · exact .inr ⟨i, by omega, idxTo_at h4 h3 (by omega), h3, h4⟩
theorem idxTo_bd (p : Nat → Bool) (n : Nat) : -1 ≤ idxTo p n ∧ idxTo p n < n := by
  rcases idxTo_cases p n with ⟨h, _⟩ | ⟨i, h1, h2, _⟩ <;> omega
theorem idxTo_congr {p q : Nat → Bool} : ∀ {n : Nat}, (∀ j, j < n → p j = q j) → idxTo p n = idxTo q n
  | 0, _ => rfl
  | n + 1, h => by rw [idxTo, idxTo, idxTo_congr (fun j hj => h j (by omega)), h n (by omega)]

/-- A loop that looks for the first place. -/
theorem iter_idx {ρ : Type} {b : (Int × Unit) → Option ((Int × Unit) ⊕ ρ)} (p : Nat → Bool) (n : Nat) (hn : n ≤ 1099511627776) (f : Int → ρ)
    (h1 : ∀ i : Nat, i < n → p i = true → b ((i : Int), ()) = some (.inr (f i))) (h2 : ∀ i : Nat, i < n → p i = false → b ((i : Int), ()) = some (.inl ((i : Int) + 1, ())))
    (h3 : b ((n : Int), ()) = some (.inr (f (-1)))) : iterF b FUEL (0, ()) = some (f (idxTo p n)) := by
  refine iter_eq (fun i x => x = ((i : Int), ()) ∧ ∀ j, j < i → p j = false) _ n (by omega) ?_ ⟨rfl, fun j hj => by omega⟩
  rintro i x hi ⟨rfl, hp⟩
  by_cases hlt : i < n
  · cases q : p i with
    | true => right; rw [h1 i hlt q, idxTo_at hp q hlt]
    | false =>
      left
      refine ⟨_, h2 i hlt q, hlt, rfl, fun j hj => ?_⟩
      by_cases e : j = i
      · subst e; exact q
      · exact hp j (by omega)
  · right
    have : i = n := by omega
    subst this
    rw [h3, idxTo_none hp]

/-- The first number that is not 0, or 0. -/
def firstErr (f : Nat → Int) : Nat → Int
  | 0 => 0
  | n + 1 => if firstErr f n ≠ 0 then firstErr f n else f n
theorem firstErr_0 {f : Nat → Int} : ∀ {n : Nat}, (∀ j, j < n → f j = 0) → firstErr f n = 0
  | 0, _ => rfl
  | n + 1, h => by rw [firstErr, firstErr_0 (fun j hj => h j (by omega))]; simp [h n (by omega)]
theorem firstErr_at {f : Nat → Int} {i : Nat} (h : ∀ j, j < i → f j = 0) (hi : f i ≠ 0) : ∀ {n : Nat}, i < n → firstErr f n = f i
  | 0, hn => by omega
  | n + 1, hn => by
    rw [firstErr]
    by_cases e : i = n
    · subst e; rw [firstErr_0 h]; simp
    · rw [firstErr_at h hi (n := n) (by omega), if_pos hi]
theorem firstErr_eq0 {f : Nat → Int} : ∀ {n : Nat}, firstErr f n = 0 → ∀ j, j < n → f j = 0
  | 0, _, j, h => by omega
  | n + 1, h, j, hj => by
    rw [firstErr] at h
    split at h
    · contradiction
    · rename_i h0
      have h0 : firstErr f n = 0 := by simpa using h0
      by_cases e : j = n
      · subst e; exact h
      · exact firstErr_eq0 h0 j (by omega)
theorem firstErr_congr {f g : Nat → Int} : ∀ {n : Nat}, (∀ j, j < n → f j = g j) → firstErr f n = firstErr g n
  | 0, _ => rfl
  | n + 1, h => by rw [firstErr, firstErr, firstErr_congr (fun j hj => h j (by omega)), h n (by omega)]

/-- A loop that stops at the first error. -/
theorem iter_err {σ ρ : Type} {b : σ → Option (σ ⊕ ρ)} (st : Nat → σ) (f : Nat → Int) (n : Nat) (hn : n ≤ 1099511627776) (F : Int → ρ)
    (h1 : ∀ i : Nat, i < n → (∀ j, j < i → f j = 0) → f i ≠ 0 → b (st i) = some (.inr (F (f i)))) (h2 : ∀ i : Nat, i < n → (∀ j, j < i → f j = 0) → f i = 0 → b (st i) = some (.inl (st (i + 1))))
    (h3 : (∀ j, j < n → f j = 0) → b (st n) = some (.inr (F 0))) : iterF b FUEL (st 0) = some (F (firstErr f n)) := by
  refine iter_eq (fun i x => x = st i ∧ ∀ j, j < i → f j = 0) _ n (by omega) ?_ ⟨rfl, fun j hj => by omega⟩
  rintro i x hi ⟨rfl, hp⟩
  by_cases hlt : i < n
  · by_cases q : f i = 0
    · left
      refine ⟨_, h2 i hlt hp q, hlt, rfl, fun j hj => ?_⟩
      by_cases e : j = i
      · subst e; exact q
      · exact hp j (by omega)
    · right; rw [h1 i hlt hp q, firstErr_at hp q hlt]
  · right
    have : i = n := by omega
    subst this
    rw [h3 hp, firstErr_0 hp]
end Go.Ab
