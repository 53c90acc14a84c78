/- Polynomials of any size: values, derivatives, remainders, chains, plainly; and the program's. -/
import Derived.Test.YtgncmamcgplcgaaW4
import Derived.Test.YtgncmamcgplcgaaF7
namespace Go.Ab
open Go
set_option maxRecDepth 1000000
set_option maxHeartbeats 1000000
set_option linter.unusedVariables false
set_option linter.unusedSimpArgs false

abbrev Nu := Int × List Int
theorem ga_eq {α : Type} [Inhabited α] (l : List α) (i : Nat) : gi l (i : Int) = (l[i]?).getD default := by simp [gi, List.getD]
theorem ga_out {α : Type} [Inhabited α] {l : List α} {i : Nat} (h : l.length ≤ i) : gi l (i : Int) = default := by rw [ga_eq, List.getElem?_eq_none h]; rfl
theorem ga_set {α : Type} [Inhabited α] {l : List α} {j : Nat} {v : α} (h : j < l.length) (i : Nat) : gi (l.set j v) (i : Int) = if i = j then v else gi l (i : Int) := by
  rw [ga_eq, ga_eq, List.getElem?_set]
  by_cases e : j = i
  · subst e; simp [h]
  · rw [if_neg e, if_neg (fun h => e h.symm)]
theorem ga_snoc {α : Type} [Inhabited α] (l : List α) (d : α) (i : Nat) : gi (l ++ [d]) (i : Int) = if i = l.length then d else gi l (i : Int) := by
  rw [ga_eq, ga_eq]
  by_cases e : i = l.length
  · subst e; simp
  · rw [if_neg e]
    rcases Nat.lt_or_gt_of_ne e with h | h
    · rw [List.getElem?_append_left h]
    · rw [List.getElem?_eq_none (by simp; omega), List.getElem?_eq_none (by omega)]
theorem ga_take {α : Type} [Inhabited α] (l : List α) (n i : Nat) : gi (l.take n) (i : Int) = if i < n then gi l (i : Int) else default := by
  rw [ga_eq, ga_eq, List.getElem?_take]
  split <;> rfl
theorem part_take' {α : Type} (l : List α) (n : Nat) : part l 0 (n : Int) = l.take n := by simp [part]
def mkL (f : Nat → Int) (n : Nat) : List Int := (List.range n).map f
theorem mkL_len (f : Nat → Int) (n : Nat) : (mkL f n).length = n := by simp [mkL]
theorem mkL_succ (f : Nat → Int) (n : Nat) : mkL f (n + 1) = mkL f n ++ [f n] := by simp [mkL, List.range_succ]
theorem mkL_get (f : Nat → Int) (n i : Nat) : gN (mkL f n) i = if i < n then f i else 0 := by
  rw [gN_eq]
  by_cases h : i < n
  · rw [if_pos h]; simp [mkL, h]
  · rw [if_neg h, List.getElem?_eq_none (by rw [mkL_len]; omega)]; rfl
theorem li_ext {a b : List Int} (h : a.length = b.length) (h2 : ∀ i, i < a.length → gN a i = gN b i) : a = b := by
  refine List.ext_getElem h fun i h1 h3 => ?_
  have := h2 i h1
  rw [gN_eq, gN_eq, List.getElem?_eq_getElem h1, List.getElem?_eq_getElem h3] at this
  exact this

/-- A list of numbers of any size stands for a polynomial. -/
structure WL (B : Int) (n : Nat) (l : List Nu) (P : List Int) : Prop where
  len : l.length = P.length
  wi : ∀ i : Nat, WI B n (gi l (i : Int)) (gN P i)
theorem WL.up {B : Int} {n m : Nat} {l : List Nu} {P : List Int} (h : WL B n l P) (hm : n ≤ m) : WL B m l P := ⟨h.len, fun i => (h.wi i).up hm⟩
theorem WL.nil {B : Int} (hB : 0 < B) (n : Nat) : WL B n [] [] := ⟨rfl, fun i => by
  rw [ga_out (by simp), gN_out (by simp)]; exact WI.zero hB⟩
theorem WL.snoc {B : Int} {n : Nat} {l : List Nu} {P : List Int} (h : WL B n l P) {x : Nu} {v : Int} (hx : WI B n x v) : WL B n (l ++ [x]) (P ++ [v]) := by
  refine ⟨by simp [h.len], fun i => ?_⟩
  rw [ga_snoc, gN_snoc, h.len]
  split
  · exact hx
  · exact h.wi i
theorem WL.snocL {B : Int} {n : Nat} {l : List Nu} {f : Nat → Int} {k : Nat} (h : WL B n l (mkL f k)) {x : Nu} (hx : WI B n x (f k)) : WL B n (l ++ [x]) (mkL f (k + 1)) := by
  rw [mkL_succ]; exact h.snoc hx

/-! ### Values -/
def hzs (P : List Int) (a b : Int) : Nat → Int × Int
  | 0 => (0, 1)
  | i + 1 => ((hzs P a b i).1 * a + gN P (P.length - 1 - i) * (hzs P a b i).2, (hzs P a b i).2 * b)
def hz (P : List Int) (a b : Int) : Int := (hzs P a b P.length).1
def dZ (P : List Int) : List Int := mkL (fun i => gN P (i + 1) * ((i : Int) + 1)) (P.length - 1)
theorem dZ_len (P : List Int) : (dZ P).length = P.length - 1 := mkL_len _ _
def bhF (a b : Int) : Nat → List Int → Int
  | 0, _ => 0
  | k + 1, P => if P.length = 0 then 0 else if sgn (hz P a b) = 0 then bhF a b k (dZ P) else sgn (hz P a b)
def cgS (s : Nat → Int) : Nat → Int × Int
  | 0 => (0, 0)
  | i + 1 => (if s i * (cgS s i).2 < 0 then (cgS s i).1 + 1 else (cgS s i).1, if s i = 0 then (cgS s i).2 else s i)
theorem sgn_vals (v : Int) : sgn v = 0 ∨ sgn v = 1 ∨ sgn v = -1 := by
  unfold sgn; split
  · exact .inl rfl
  · split
    · exact .inr (.inl rfl)
    · exact .inr (.inr rfl)
theorem bhF_vals (a b : Int) : ∀ (k : Nat) (P : List Int), bhF a b k P = 0 ∨ bhF a b k P = 1 ∨ bhF a b k P = -1
  | 0, _ => .inl rfl
  | k + 1, P => by
    rw [bhF]
    split
    · exact .inl rfl
    · split
      · exact bhF_vals a b k _
      · exact sgn_vals _
theorem cgS_bd {s : Nat → Int} (hs : ∀ i, s i = 0 ∨ s i = 1 ∨ s i = -1) : ∀ n, (0 ≤ (cgS s n).1 ∧ (cgS s n).1 ≤ n) ∧ ((cgS s n).2 = 0 ∨ (cgS s n).2 = 1 ∨ (cgS s n).2 = -1)
  | 0 => ⟨⟨Int.le_refl _, Int.le_refl _⟩, .inl rfl⟩
  | n + 1 => by
    obtain ⟨h1, h2⟩ := cgS_bd hs n
    rw [cgS]
    refine ⟨?_, ?_⟩
    · dsimp only; split <;> omega
    · dsimp only; split
      · exact h2
      · exact hs n

/-! ### Remainders -/
def tz (f : Nat → Int) : Nat → Nat
  | 0 => 0
  | n + 1 => if f n = 0 then tz f n else n + 1
theorem tz_le (f : Nat → Int) : ∀ n, tz f n ≤ n
  | 0 => Nat.le_refl _
  | n + 1 => by rw [tz]; split; have := tz_le f n; omega; omega
def stF (a b : List Int) (i : Nat) : Int :=
  sgn (gN b (b.length - 1)) * gN b (b.length - 1) * gN a i + if a.length - b.length ≤ i then -(sgn (gN b (b.length - 1)) * gN a (a.length - 1) * gN b (i - (a.length - b.length))) else 0
def stepZ (a b : List Int) : List Int := mkL (stF a b) (tz (stF a b) (a.length - 1))
theorem stepZ_len (a b : List Int) : (stepZ a b).length ≤ a.length - 1 := by unfold stepZ; rw [mkL_len]; exact tz_le _ _
theorem stF_top {a b : List Int} (h : b.length ≤ a.length) (hb : 0 < b.length) : stF a b (a.length - 1) = 0 := by
  unfold stF
  rw [if_pos (by omega), show a.length - 1 - (a.length - b.length) = b.length - 1 by omega]
  grind
def remF : Nat → List Int → List Int → List Int
  | 0, a, _ => a
  | k + 1, a, b => if b.length ≤ a.length then remF k (stepZ a b) b else a
theorem remF_stop {a b : List Int} (h : ¬ b.length ≤ a.length) : ∀ k, remF k a b = a
  | 0 => rfl
  | k + 1 => by rw [remF, if_neg h]
def remZ (a b : List Int) : List Int := remF 8 a b
theorem remF_len : ∀ (k : Nat) (a b : List Int), a.length ≤ k → 0 < b.length → (remF k a b).length < b.length
  | 0, a, b, h, hb => by rw [remF]; omega
  | k + 1, a, b, h, hb => by
    rw [remF]
    split
    · have := stepZ_len a b
      exact remF_len k _ b (by omega) hb
    · omega
def ngZ (P : List Int) : List Int := mkL (fun i => -gN P i) P.length
def seqZ (p : List Int) : Nat → List Int × List Int
  | 0 => (p, dZ p)
  | i + 1 => ((seqZ p i).2, ngZ (remZ (seqZ p i).1 (seqZ p i).2))
/-- The last coefficient is not 0. -/
def Top (P : List Int) : Prop := 0 < P.length → gN P (P.length - 1) ≠ 0
theorem tz_top (f : Nat → Int) : ∀ n, 0 < tz f n → f (tz f n - 1) ≠ 0
  | 0, h => absurd h (Nat.lt_irrefl 0)
  | n + 1, h => by
    rw [tz] at h ⊢
    split
    · rename_i c; rw [if_pos c] at h; exact tz_top f n h
    · rename_i c; exact c
theorem stepZ_top (a b : List Int) : Top (stepZ a b) := by
  intro h
  unfold stepZ at *
  rw [mkL_len] at *
  rw [mkL_get, if_pos (by omega)]
  exact tz_top _ _ h
theorem remF_top : ∀ (k : Nat) (a b : List Int), Top a → Top (remF k a b)
  | 0, a, b, h => h
  | k + 1, a, b, h => by
    rw [remF]
    split
    · exact remF_top k _ b (stepZ_top a b)
    · exact h
theorem ngZ_len (P : List Int) : (ngZ P).length = P.length := mkL_len _ _
theorem ngZ_top {P : List Int} (h : Top P) : Top (ngZ P) := by
  intro h0
  rw [ngZ_len] at *
  unfold ngZ
  rw [mkL_get, if_pos (by omega)]
  have := h h0
  omega
theorem dZ_top {P : List Int} (h : Top P) : Top (dZ P) := by
  intro h0
  rw [dZ_len] at *
  unfold dZ
  rw [mkL_get, if_pos (by omega)]
  have h1 := h (by omega)
  rw [show P.length - 1 - 1 + 1 = P.length - 1 by omega]
  exact Int.mul_ne_zero h1 (by omega)
theorem seqZ_ok {p : List Int} (ht : Top p) (h1 : p.length ≤ 7) : ∀ i, Top (seqZ p i).1 ∧ Top (seqZ p i).2 ∧ (seqZ p i).1.length ≤ 7 - i ∧ (seqZ p i).2.length ≤ 6 - i ∧ ((seqZ p i).2.length < (seqZ p i).1.length ∨ (seqZ p i).2.length = 0)
  | 0 => ⟨ht, dZ_top ht, h1, by show (dZ p).length ≤ _; rw [dZ_len]; omega, by show (dZ p).length < p.length ∨ (dZ p).length = 0; rw [dZ_len]; omega⟩
  | i + 1 => by
    obtain ⟨t1, t2, l1, l2, l3⟩ := seqZ_ok ht h1 i
    rw [seqZ]
    refine ⟨t2, ngZ_top (remF_top _ _ _ t1), by show (seqZ p i).2.length ≤ _; omega, ?_, ?_⟩
    · rw [ngZ_len]
      rcases Nat.eq_zero_or_pos (seqZ p i).2.length with h | h
      · have : remZ (seqZ p i).1 (seqZ p i).2 = remF 8 (seqZ p i).1 (seqZ p i).2 := rfl
        have h8 : ∀ k a, (remF k a (seqZ p i).2).length ≤ a.length - k := by
          intro k
          induction k with
          | zero => intro a; rw [remF]; omega
          | succ k ih => intro a; rw [remF, if_pos (by omega)]; have := ih (stepZ a (seqZ p i).2); have := stepZ_len a (seqZ p i).2; omega
        have := h8 8 (seqZ p i).1
        unfold remZ; omega
      · have := remF_len 8 (seqZ p i).1 (seqZ p i).2 (by omega) h
        unfold remZ; omega
    · rw [ngZ_len]
      rcases Nat.eq_zero_or_pos (seqZ p i).2.length with h | h
      · right
        have h8 : ∀ k a, (remF k a (seqZ p i).2).length ≤ a.length - k := by
          intro k
          induction k with
          | zero => intro a; rw [remF]; omega
          | succ k ih => intro a; rw [remF, if_pos (by omega)]; have := ih (stepZ a (seqZ p i).2); have := stepZ_len a (seqZ p i).2; omega
        have := h8 8 (seqZ p i).1
        unfold remZ; omega
      · left; exact remF_len 8 (seqZ p i).1 (seqZ p i).2 (by omega) h
/-- How many digits the numbers of a chain may have. -/
def dd : Nat → Nat
  | 0 => 5
  | 1 => 6
  | j + 2 => dd j + 8 * (dd (j + 1) + 2)
theorem dd_le : ∀ j : Fin 9, dd j.val ≤ 134217728 := by decide
end Go.Ab
