/- Plain law of masks: the mask that evens zones out; one zone is open, none more; twice the wants have the same mask. -/
import Derived.Test.YtjmmjfcapgaomaaL0
namespace Go.Ab
open Go
set_option linter.unusedVariables false
theorem tdiv_le {a b : Int} (hb : 0 < b) (h : -4611686018427387904 ≤ a) (h2 : a ≤ 4611686018427387904) : -4611686018427387904 ≤ a.tdiv b ∧ a.tdiv b ≤ 4611686018427387904 := by
  rcases Int.le_total 0 a with h3 | h3
  · have e := Int.tdiv_eq_ediv_of_nonneg (b := b) h3
    have := Int.ediv_nonneg h3 (Int.le_of_lt hb)
    have := Int.ediv_le_self b h3
    omega
  · have e : a.tdiv b = -((-a).tdiv b) := by rw [Int.neg_tdiv]; omega
    have e2 := Int.tdiv_eq_ediv_of_nonneg (a := -a) (b := b) (by omega)
    have := Int.ediv_nonneg (a := -a) (by omega) (Int.le_of_lt hb)
    have := Int.ediv_le_self (a := -a) b (by omega)
    omega

abbrev maskOk (r w : List Int) (j : Nat) : Prop := (1 ≤ gi r j ∧ gi r j ≤ 1000000) ∧ (1 ≤ gi w j ∧ gi w j ≤ 1000000)
def best (r w : List Int) : Nat → Nat
  | 0 => 0
  | i + 1 => if gi w (best r w i) * gi r i < gi w i * gi r (best r w i) then i else best r w i
def maskAt (r w : List Int) (b i : Nat) : Int := (1000 * gi w i * gi r b).tdiv (gi r i * gi w b)
def maskL (r w : List Int) (n : Nat) : List Int := (List.range n).map fun i => maskAt r w (best r w r.length) i
def maskE (r w : List Int) : Int := if 1 ≤ r.length ∧ r.length ≤ 40 ∧ w.length = r.length then (if ∀ j, j < r.length → maskOk r w j then 0 else 2) else 10
def maskV (r w : List Int) : List Int := if maskE r w = 0 then maskL r w r.length else []

theorem best_le (r w : List Int) : ∀ i, best r w i ≤ i - 1
  | 0 => Nat.le_refl _
  | i + 1 => by
    rw [best]
    have := best_le r w i
    split <;> omega

theorem mul_bd {x y : Int} {m n : Int} (h1 : 1 ≤ x) (h2 : x ≤ m) (h3 : 1 ≤ y) (h4 : y ≤ n) : 1 ≤ x * y ∧ x * y ≤ m * n := by
  constructor
  · have := Int.mul_le_mul h1 h3 (by omega) (by omega)
    simpa using this
  · exact Int.mul_le_mul h2 h4 (by omega) (by omega)

theorem best_mul {r w : List Int} {i : Nat} (hp : ∀ j, j < i → maskOk r w j) : maskOk r w i →
    (1 ≤ gi w (best r w i : Nat) * gi r i ∧ gi w (best r w i : Nat) * gi r i ≤ 1000000000000) ∧ (1 ≤ gi w i * gi r (best r w i : Nat) ∧ gi w i * gi r (best r w i : Nat) ≤ 1000000000000) := by
  intro h
  have hb : maskOk r w (best r w i) := by
    have := best_le r w i
    by_cases e : best r w i = i
    · rw [e]; exact h
    · exact hp _ (by omega)
  exact ⟨mul_bd hb.2.1 hb.2.2 h.1.1 h.1.2, mul_bd h.2.1 h.2.2 hb.1.1 hb.1.2⟩
theorem best_lt {r w : List Int} (h : 1 ≤ r.length) : best r w r.length < r.length := by
  have := best_le r w r.length
  omega
theorem mask_mul {r w : List Int} {i : Nat} (hp : ∀ j, j < r.length → maskOk r w j) : i < r.length →
    (1 ≤ gi w i ∧ gi w i ≤ 1000000) ∧ (1 ≤ 1000 * gi w i * gi r (best r w r.length : Nat) ∧ 1000 * gi w i * gi r (best r w r.length : Nat) ≤ 1000000000000000) ∧ (1 ≤ gi r i * gi w (best r w r.length : Nat) ∧ gi r i * gi w (best r w r.length : Nat) ≤ 1000000000000) ∧
      (-4611686018427387904 ≤ (1000 * gi w i * gi r (best r w r.length : Nat)).tdiv (gi r i * gi w (best r w r.length : Nat)) ∧ (1000 * gi w i * gi r (best r w r.length : Nat)).tdiv (gi r i * gi w (best r w r.length : Nat)) ≤ 4611686018427387904) := by
  intro hi
  have h := hp i hi
  have hb := hp _ (best_lt (r := r) (w := w) (by omega))
  have h1 := mul_bd (x := 1000 * gi w i) (y := gi r (best r w r.length : Nat)) (m := 1000000000) (n := 1000000) (by omega) (by omega) hb.1.1 hb.1.2
  have h2 := mul_bd h.1.1 h.1.2 hb.2.1 hb.2.2
  exact ⟨h.2, ⟨h1.1, by omega⟩, ⟨h2.1, by omega⟩, tdiv_le (by omega) (by omega) (by omega)⟩

theorem maskL_succ (r w : List Int) (n : Nat) : maskL r w (n + 1) = maskL r w n ++ [maskAt r w (best r w r.length) n] := by
  simp [maskL, List.range_succ]
theorem maskL_length (r w : List Int) (n : Nat) : (maskL r w n).length = n := by simp [maskL]

theorem maskE_ok {r w : List Int} (h : 1 ≤ (r.length : Int) ∧ (r.length : Int) ≤ 40) (h2 : (w.length : Int) = r.length) (h3 : ∀ j, j < r.length → maskOk r w j) : maskE r w = 0 := by
  rw [maskE, if_pos ⟨by omega, by omega, by omega⟩, if_pos h3]
theorem maskE_range {r w : List Int} (h : 1 ≤ (r.length : Int) ∧ (r.length : Int) ≤ 40) (h2 : (w.length : Int) = r.length) {i : Nat} (hi : i < r.length) (h3 : ¬ maskOk r w i) : maskE r w = 2 := by
  rw [maskE, if_pos ⟨by omega, by omega, by omega⟩, if_neg (fun h => h3 (h i hi))]
theorem maskE_shape {r w : List Int} (h : ¬ (1 ≤ r.length ∧ r.length ≤ 40 ∧ w.length = r.length)) : maskE r w = 10 := by
  rw [maskE, if_neg h]

theorem best_most {r w : List Int} : ∀ {i : Nat}, (∀ j, j < i → maskOk r w j) → ∀ j, j < i → gi w j * gi r (best r w i : Nat) ≤ gi w (best r w i : Nat) * gi r j
  | 0, _, j, h => by omega
  | i + 1, hp, j, h => by
    have ih := best_most (r := r) (w := w) (i := i) (fun j hj => hp j (by omega))
    have hb := best_le r w i
    have okb : maskOk r w (best r w i) := hp _ (by omega)
    have oki := hp i (by omega)
    have okj := hp j h
    rw [best]
    split
    · rename_i hc
      by_cases e : j = i
      · subst e; exact Int.le_refl _
      · have h1 := ih j (by omega)
        have p1 := Int.mul_le_mul_of_nonneg_right h1 (show 0 ≤ gi r i by omega)
        have p2 := Int.mul_le_mul_of_nonneg_right (Int.le_of_lt hc) (show 0 ≤ gi r j by omega)
        refine Int.le_of_mul_le_mul_right (a := gi r (best r w i : Nat)) ?_ (by omega)
        calc gi w j * gi r i * gi r (best r w i : Nat) = gi w j * gi r (best r w i : Nat) * gi r i := by rw [Int.mul_right_comm]
          _ ≤ gi w (best r w i : Nat) * gi r j * gi r i := p1
          _ = gi w (best r w i : Nat) * gi r i * gi r j := by rw [Int.mul_right_comm]
          _ ≤ gi w i * gi r (best r w i : Nat) * gi r j := p2
          _ = gi w i * gi r j * gi r (best r w i : Nat) := by rw [Int.mul_right_comm]
    · rename_i hc
      by_cases e : j = i
      · subst e; omega
      · exact ih j (by omega)

theorem maskAt_best {r w : List Int} {b : Nat} (h : maskOk r w b) : maskAt r w b b = 1000 := by
  have e : 1000 * gi w b * gi r b = 1000 * (gi r b * gi w b) := by rw [Int.mul_assoc, Int.mul_comm (gi w b)]
  have p := mul_bd h.1.1 h.1.2 h.2.1 h.2.2
  rw [maskAt, e, Int.mul_tdiv_cancel _ (by omega)]

theorem maskAt_le {r w : List Int} {b i : Nat} (hb : maskOk r w b) (hi : maskOk r w i) (h : gi w i * gi r b ≤ gi w b * gi r i) : maskAt r w b i ≤ 1000 := by
  have p := mul_bd hi.1.1 hi.1.2 hb.2.1 hb.2.2
  have q := mul_bd hi.2.1 hi.2.2 hb.1.1 hb.1.2
  have e : 1000 * gi w i * gi r b = 1000 * (gi w i * gi r b) := Int.mul_assoc _ _ _
  rw [maskAt, e, Int.tdiv_eq_ediv_of_nonneg (by omega)]
  refine Int.ediv_le_of_le_mul (by omega) ?_
  have : gi w b * gi r i = gi r i * gi w b := Int.mul_comm _ _
  omega

def mostTo (m : List Int) : Nat → Int
  | 0 => 0
  | i + 1 => max (mostTo m i) (gi m i)

def twice (w : List Int) (n : Nat) : List Int := (List.range n).map fun j : Nat => 2 * gi w j
theorem twice_length (w : List Int) (n : Nat) : (twice w n).length = n := by simp [twice]
theorem twice_succ (w : List Int) (n : Nat) : twice w (n + 1) = twice w n ++ [2 * gi w n] := by simp [twice, List.range_succ]
theorem gi_map {f : Nat → Int} {n i : Nat} (h : i < n) : gi ((List.range n).map f) i = f i := by
  simp [gi, List.getD, h]
theorem twice_gi {w : List Int} {n i : Nat} (h : i < n) : gi (twice w n) i = 2 * gi w i := gi_map h
theorem maskL_gi {r w : List Int} {n i : Nat} (h : i < n) : gi (maskL r w n) i = maskAt r w (best r w r.length) i := gi_map h

theorem mostTo_le {m : List Int} {c : Int} (hc : 0 ≤ c) : ∀ {n : Nat}, (∀ i : Nat, i < n → gi m i ≤ c) → mostTo m n ≤ c
  | 0, _ => hc
  | n + 1, h => by
    have := mostTo_le hc (n := n) (fun i hi => h i (by omega))
    have := h n (by omega)
    rw [mostTo]; omega
theorem mostTo_ge {m : List Int} : ∀ {n : Nat} (i : Nat), i < n → gi m i ≤ mostTo m n
  | n + 1, i, h => by
    rw [mostTo]
    by_cases e : i = n
    · subst e; omega
    · have := mostTo_ge (m := m) (n := n) i (by omega)
      omega

theorem maskE_inv {r w : List Int} (h : maskE r w = 0) : (1 ≤ r.length ∧ r.length ≤ 40 ∧ w.length = r.length) ∧ ∀ j, j < r.length → maskOk r w j := by
  unfold maskE at h
  split at h
  · rename_i h1
    split at h
    · rename_i h2; exact ⟨h1, h2⟩
    · cases h
  · cases h

theorem most_mask {r w : List Int} (h : maskE r w = 0) : mostTo (maskV r w) r.length = 1000 := by
  obtain ⟨h1, h2⟩ := maskE_inv h
  have hb := best_lt (r := r) (w := w) (by omega)
  rw [maskV, if_pos h]
  have a1 : mostTo (maskL r w r.length) r.length ≤ 1000 := mostTo_le (by omega) (fun i hi => by
    rw [maskL_gi hi]
    exact maskAt_le (h2 _ hb) (h2 _ hi) (best_most h2 i hi))
  have a2 := mostTo_ge (m := maskL r w r.length) _ hb
  rw [maskL_gi hb, maskAt_best (h2 _ hb)] at a2
  omega

theorem best_twice {r w : List Int} {n : Nat} : ∀ {i : Nat}, i ≤ n → best r (twice w n) i = best r w i
  | 0, _ => rfl
  | i + 1, h => by
    have ih := best_twice (r := r) (w := w) (n := n) (i := i) (by omega)
    have hb := best_le r w i
    rw [best, best, ih, twice_gi (by omega), twice_gi (by omega)]
    have e1 : 2 * gi w (best r w i : Nat) * gi r i = 2 * (gi w (best r w i : Nat) * gi r i) := Int.mul_assoc _ _ _
    have e2 : 2 * gi w i * gi r (best r w i : Nat) = 2 * (gi w i * gi r (best r w i : Nat)) := Int.mul_assoc _ _ _
    rw [e1, e2]
    by_cases hc : gi w (best r w i : Nat) * gi r i < gi w i * gi r (best r w i : Nat)
    · rw [if_pos hc, if_pos (by omega)]
    · rw [if_neg hc, if_neg (by omega)]

theorem maskAt_twice {r w : List Int} {n b i : Nat} (hb : b < n) (hi : i < n) : maskAt r (twice w n) b i = maskAt r w b i := by
  rw [maskAt, maskAt, twice_gi hb, twice_gi hi]
  have e1 : 1000 * (2 * gi w i) * gi r b = 2 * (1000 * gi w i * gi r b) := by
    rw [Int.mul_left_comm, Int.mul_assoc]
  have e2 : gi r i * (2 * gi w b) = 2 * (gi r i * gi w b) := by rw [Int.mul_left_comm]
  rw [e1, e2, Int.mul_tdiv_mul_of_pos _ _ (by omega)]

theorem twice_mask {r w : List Int} (h : maskE r w = 0) (h2 : ∀ j, j < r.length → gi w (j : Nat) ≤ 500000) : maskE r (twice w r.length) = 0 ∧ maskV r (twice w r.length) = maskV r w := by
  obtain ⟨h1, h3⟩ := maskE_inv h
  have e0 : maskE r (twice w r.length) = 0 := maskE_ok (by omega) (by rw [twice_length]) (fun j hj => by
    have := h3 j hj
    have := h2 j hj
    rw [maskOk, twice_gi hj]
    omega)
  refine ⟨e0, ?_⟩
  rw [maskV, if_pos e0, maskV, if_pos h, maskL, maskL]
  refine List.map_congr_left fun i hi => ?_
  have hi' : i < r.length := by simpa using hi
  rw [best_twice (Nat.le_refl _), maskAt_twice (best_lt (by omega)) hi']

end Go.Ab
