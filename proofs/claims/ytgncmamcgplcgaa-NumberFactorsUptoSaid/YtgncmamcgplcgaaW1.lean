/- Numbers of any size, plainly: digits, products, sums, sizes. -/
import Derived.Test.YtgncmamcgplcgaaB1
namespace Go.Ab
open Go
set_option maxRecDepth 1000000
set_option maxHeartbeats 1000000
set_option linter.unusedVariables false
set_option linter.unusedSimpArgs false

abbrev gN (l : List Int) (i : Nat) : Int := gi l (i : Int)
theorem gN_eq (l : List Int) (i : Nat) : gN l i = (l[i]?).getD 0 := by simp [gN, gi, List.getD]
theorem gN_out {l : List Int} {i : Nat} (h : l.length ≤ i) : gN l i = 0 := by rw [gN_eq, List.getElem?_eq_none h]; rfl
theorem gN_set {l : List Int} {j : Nat} {v : Int} (h : j < l.length) (i : Nat) : gN (l.set j v) i = if i = j then v else gN l i := by
  rw [gN_eq, gN_eq, List.getElem?_set]
  by_cases e : j = i
  · subst e; simp [h]
  · rw [if_neg e, if_neg (fun h => e h.symm)]
theorem gN_snoc (l : List Int) (d : Int) (i : Nat) : gN (l ++ [d]) i = if i = l.length then d else gN l i := by
  rw [gN_eq, gN_eq]
  by_cases e : i = l.length
  · subst e; simp
  · rw [if_neg e]
    rcases Nat.lt_or_gt_of_ne e with h | h
    · rw [List.getElem?_append_left h]
    · rw [List.getElem?_eq_none (by simp; omega), List.getElem?_eq_none (by omega)]
theorem gN_take (l : List Int) (n i : Nat) : gN (l.take n) i = if i < n then gN l i else 0 := by
  rw [gN_eq, gN_eq, List.getElem?_take]
  split <;> rfl
theorem gN_rep (n i : Nat) : gN (List.replicate n 0) i = 0 := by
  rw [gN_eq, List.getElem?_replicate]
  split <;> rfl

theorem pw {B : Int} (hB : 0 < B) (n : Nat) : 0 < B ^ n := Int.pow_pos hB
/-- Digits, added up. -/
def sm (B : Int) (f : Nat → Int) : Nat → Int
  | 0 => 0
  | n + 1 => sm B f n + f n * B ^ n
section
variable {B : Int}
theorem sm_ext {f g : Nat → Int} : ∀ {n : Nat}, (∀ i, i < n → f i = g i) → sm B f n = sm B g n
  | 0, _ => rfl
  | n + 1, h => by rw [sm, sm, sm_ext (fun i hi => h i (by omega)), h n (by omega)]
theorem sm_up {f : Nat → Int} {n : Nat} : ∀ {m : Nat}, n ≤ m → (∀ i, n ≤ i → i < m → f i = 0) → sm B f m = sm B f n
  | 0, h, _ => by rw [show n = 0 by omega]
  | m + 1, h, hz => by
    by_cases e : n = m + 1
    · rw [e]
    · rw [sm, hz m (by omega) (by omega), sm_up (m := m) (by omega) (fun i h1 h2 => hz i h1 (by omega))]; omega
theorem sm_set {f g : Nat → Int} {j : Nat} {v : Int} (hg : ∀ i, g i = if i = j then v else f i) : ∀ {n : Nat}, j < n → sm B g n = sm B f n + (v - f j) * B ^ j
  | 0, h => by omega
  | n + 1, h => by
    rw [sm, sm]
    by_cases e : j = n
    · subst e
      rw [hg j, if_pos rfl, sm_ext (f := g) (g := f) (fun i hi => by rw [hg i, if_neg (by omega)])]
      grind
    · rw [sm_set hg (n := n) (by omega), hg n, if_neg (by omega)]
      omega
theorem sm_nonneg (hB : 0 < B) {f : Nat → Int} : ∀ {n : Nat}, (∀ i, i < n → 0 ≤ f i) → 0 ≤ sm B f n
  | 0, _ => by simp [sm]
  | n + 1, h => by
    rw [sm]
    have h1 := sm_nonneg hB (n := n) (fun i hi => h i (by omega))
    have h2 := Int.mul_nonneg (h n (by omega)) (Int.le_of_lt (pw hB (n)))
    omega
theorem sm_lt (hB : 0 < B) {f : Nat → Int} : ∀ {n : Nat}, (∀ i, i < n → f i < B) → sm B f n < B ^ n
  | 0, _ => by simp [sm]
  | n + 1, h => by
    rw [sm, Int.pow_succ]
    have h1 := sm_lt hB (n := n) (fun i hi => h i (by omega))
    have h2 := Int.mul_le_mul_of_nonneg_right (show f n ≤ B - 1 by have := h n (by omega); omega) (Int.le_of_lt (pw hB (n)))
    rw [Int.sub_mul, Int.one_mul, Int.mul_comm B] at h2
    omega
theorem sm_pos (hB : 0 < B) {f : Nat → Int} {n : Nat} (h : ∀ i, i < n → 0 ≤ f i) (hn : 0 < n) (hl : f (n - 1) ≠ 0) : B ^ (n - 1) ≤ sm B f n := by
  obtain ⟨m, rfl⟩ : ∃ m, n = m + 1 := ⟨n - 1, by omega⟩
  rw [sm]
  simp only [Nat.add_sub_cancel] at hl ⊢
  have h1 := sm_nonneg hB (n := m) (fun i hi => h i (by omega))
  have h0 := h m (by omega)
  have h2 := Int.mul_le_mul_of_nonneg_right (show 1 ≤ f m by omega) (Int.le_of_lt (pw hB (m)))
  omega
theorem pow_le (hB : 0 < B) {m n : Nat} (h : m ≤ n) : B ^ m ≤ B ^ n := by
  obtain ⟨k, rfl⟩ : ∃ k, n = m + k := ⟨n - m, by omega⟩
  rw [Int.pow_add]
  have h1 := pw hB (m)
  have h2 := pw hB (k)
  have := Int.mul_le_mul_of_nonneg_left (show 1 ≤ B ^ k by omega) (Int.le_of_lt h1)
  omega
/-- The digit at which two numbers differ first, from above, tells which is less. -/
theorem sm_cmp (hB : 0 < B) {f g : Nat → Int} {i : Nat} (hf : ∀ j, j < i → f j < B) (hg : ∀ j, j < i → 0 ≤ g j) (hlt : f i < g i) : ∀ {n : Nat}, i < n → (∀ j, i < j → j < n → f j = g j) → sm B f n < sm B g n
  | 0, h, _ => by omega
  | n + 1, h, he => by
    rw [sm, sm]
    by_cases e : i = n
    · subst e
      have h1 := sm_lt hB (n := i) hf
      have h2 := sm_nonneg hB (n := i) hg
      have h3 := Int.mul_le_mul_of_nonneg_right (show f i + 1 ≤ g i by omega) (Int.le_of_lt (pw hB (i)))
      rw [Int.add_mul, Int.one_mul] at h3
      omega
    · have := sm_cmp hB hf hg hlt (n := n) (by omega) (fun j h1 h2 => he j h1 (by omega))
      rw [he n (by omega) (by omega)]
      omega
end

/-- A number as a sign and digits stands for a whole number. -/
structure WI (B : Int) (n : Nat) (x : Int × List Int) (v : Int) : Prop where
  dgs : ∀ i, 0 ≤ gN x.2 i ∧ gN x.2 i < B
  len : x.2.length ≤ n
  val : v = x.1 * sm B (gN x.2) x.2.length
  can : (x.1 = 0 ∧ x.2.length = 0) ∨ ((x.1 = 1 ∨ x.1 = -1) ∧ 0 < x.2.length ∧ gN x.2 (x.2.length - 1) ≠ 0)
def sgn (v : Int) : Int := if v = 0 then 0 else if 0 < v then 1 else -1
section
variable {B : Int} {n : Nat} {x : Int × List Int} {v : Int}
theorem WI.pos (h : WI B n x v) (hB : 0 < B) (hs : x.1 ≠ 0) : 0 < sm B (gN x.2) x.2.length := by
  rcases h.can with ⟨h1, _⟩ | ⟨_, h1, h2⟩
  · exact absurd h1 hs
  · have := sm_pos hB (fun i _ => (h.dgs i).1) h1 h2
    have := pw hB (x.2.length - 1)
    omega
theorem WI.sg (h : WI B n x v) (hB : 0 < B) : x.1 = sgn v := by
  have hv := h.val
  rcases h.can with ⟨h1, h2⟩ | ⟨h1, _⟩
  · rw [h1, Int.zero_mul] at hv
    rw [h1, hv]; rfl
  · have hp := h.pos hB (by omega)
    generalize sm B (gN x.2) x.2.length = u at *
    unfold sgn
    rcases h1 with h1 | h1
    · rw [h1, Int.one_mul] at hv
      rw [if_neg (by omega), if_pos (by omega)]; exact h1
    · rw [h1] at hv
      rw [if_neg (by omega), if_neg (by omega)]; exact h1
theorem WI.up {m : Nat} (h : WI B n x v) (hm : n ≤ m) : WI B m x v := ⟨h.dgs, Nat.le_trans h.len hm, h.val, h.can⟩
theorem WI.zero (hB : 0 < B) : WI B n (0, []) 0 := ⟨fun i => by rw [show gN ((0 : Int), ([] : List Int)).2 i = 0 from gN_out (by simp)]; omega, by simp, by simp, .inl ⟨rfl, rfl⟩⟩
theorem WI.eq0 (h : WI B n x v) (hB : 0 < B) : x.1 = 0 ↔ v = 0 := by
  rw [h.sg hB]; unfold sgn
  constructor
  · intro q
    split at q
    · assumption
    · split at q <;> cases q
  · intro q; rw [if_pos q]
theorem WI.neg (h : WI B n x v) : WI B n (-x.1, x.2) (-v) := ⟨h.dgs, h.len, by rw [h.val]; show -(x.1 * _) = -x.1 * _; rw [Int.neg_mul], by
  rcases h.can with ⟨h1, h2⟩ | ⟨h1, h2⟩
  · exact .inl ⟨by show -x.1 = 0; omega, h2⟩
  · exact .inr ⟨by show -x.1 = 1 ∨ -x.1 = -1; omega, h2⟩⟩
/-- The size of a number. -/
theorem WI.abs (h : WI B n x v) (hB : 0 < B) (hs : x.1 ≠ 0) : WI B n (1, x.2) (sgn v * v) := by
  have hg := h.sg hB
  rcases h.can with ⟨h1, h2⟩ | ⟨h1, h2⟩
  · exact absurd h1 hs
  · refine ⟨h.dgs, h.len, ?_, .inr ⟨.inl rfl, h2⟩⟩
    rw [← hg, h.val]
    show x.1 * (x.1 * sm B (gN x.2) x.2.length) = 1 * sm B (gN x.2) x.2.length
    rcases h1 with h1 | h1 <;> rw [h1] <;> omega
/-- What is left of digits whose last ones are 0. -/
theorem WI.cut {s : Int} {l : List Int} {m : Nat} (hB : 0 < B) (hd : ∀ i, 0 ≤ gN l i ∧ gN l i < B) (hs : (s = 1 ∨ s = -1) ∨ sm B (gN l) l.length = 0) (hm : m ≤ l.length) (hz : ∀ j, m ≤ j → gN l j = 0) (h0 : 0 < m) (hl : gN l (m - 1) ≠ 0) :
    WI B l.length (s, l.take m) (s * sm B (gN l) l.length) := by
  have e : sm B (gN l) l.length = sm B (gN (l.take m)) m := by
    rw [sm_up hm (fun i h1 _ => hz i h1)]
    exact sm_ext fun i hi => by rw [gN_take, if_pos hi]
  have hlen : (l.take m).length = m := by simp; omega
  refine ⟨fun i => ?_, by show (l.take m).length ≤ _; omega, by rw [e]; show _ = s * sm B (gN (l.take m)) (l.take m).length; rw [hlen], ?_⟩
  · show 0 ≤ gN (l.take m) i ∧ gN (l.take m) i < B
    rw [gN_take]
    split
    · exact hd i
    · omega
  · right
    have hp := sm_pos hB (f := gN l) (n := m) (fun i _ => (hd i).1) h0 hl
    have := pw hB (m - 1)
    rw [sm_up hm (fun i h1 _ => hz i h1)] at hs
    refine ⟨by show s = 1 ∨ s = -1; omega, by show 0 < (l.take m).length; omega, ?_⟩
    show gN (l.take m) ((l.take m).length - 1) ≠ 0
    rw [hlen, gN_take, if_pos (by omega)]
    exact hl
theorem WI.cut0 {s : Int} {l : List Int} (hB : 0 < B) (hz : ∀ j, 0 ≤ j → gN l j = 0) : WI B n (0, []) (s * sm B (gN l) l.length) := by
  rw [sm_up (n := 0) (Nat.zero_le _) (fun i h1 _ => hz i h1)]
  show WI B n (0, []) (s * 0)
  rw [Int.mul_zero]
  exact WI.zero hB
end

/-! ### Products -/

structure OI (B : Int) (X Y : Nat → Int) (ly L i : Nat) (o : List Int) : Prop where
  len : o.length = L
  dgs : ∀ j, 0 ≤ gN o j ∧ gN o j < B
  zer : ∀ j, i + ly ≤ j → gN o j = 0
  val : sm B (gN o) L = sm B X i * sm B Y ly
structure MI (B : Int) (X Y : Nat → Int) (ly L i k : Nat) (c : Int) (o : List Int) : Prop where
  len : o.length = L
  dgs : ∀ j, 0 ≤ gN o j ∧ gN o j < B
  car : 0 ≤ c ∧ c < B
  zer : ∀ j, i + ly ≤ j → gN o j = 0
  val : sm B (gN o) L + c * B ^ (i + k) = sm B X i * sm B Y ly + X i * B ^ i * sm B Y k
section
variable {B : Int} {X Y : Nat → Int} {ly L i k : Nat} {c : Int} {o : List Int}
theorem OI.first (hB : 0 < B) : OI B X Y ly L 0 (List.replicate L 0) :=
  ⟨by simp, fun j => by rw [gN_rep]; omega, fun j _ => gN_rep _ _, by
    rw [sm_up (n := 0) (Nat.zero_le _) (fun j _ _ => gN_rep _ _)]
    show (0 : Int) = 0 * _
    rw [Int.zero_mul]⟩
theorem OI.row (h : OI B X Y ly L i o) (hB : 0 < B) : MI B X Y ly L i 0 0 o :=
  ⟨h.len, h.dgs, ⟨Int.le_refl _, hB⟩, h.zer, by rw [h.val]; show _ = _ + _ * 0; omega⟩
theorem MI.step (h : MI B X Y ly L i k c o) (hB : 0 < B) (hk : k < ly) (hL : i + ly ≤ L) (hx : 0 ≤ X i ∧ X i < B) (hy : 0 ≤ Y k ∧ Y k < B) {n : Int} (hn : n = c + X i * Y k + gN o (i + k)) :
    (0 ≤ n ∧ n < B * B) ∧ MI B X Y ly L i (k + 1) (n / B) (o.set (i + k) (n % B)) := by
  have hd := h.dgs (i + k)
  have hc := h.car
  have p0 : 0 ≤ X i * Y k := Int.mul_nonneg hx.1 hy.1
  have p1 : X i * Y k ≤ (B - 1) * (B - 1) := Int.mul_le_mul (by omega) (by omega) hy.1 (by omega)
  have p2 : (B - 1) * (B - 1) = B * B - 2 * B + 1 := by grind
  have hn0 : 0 ≤ n ∧ n < B * B := by omega
  have q1 := Int.emod_nonneg n (show B ≠ 0 by omega)
  have q2 := Int.emod_lt_of_pos n hB
  have q3 : B * (n / B) + n % B = n := Int.mul_ediv_add_emod n B
  have q4 : 0 ≤ n / B := Int.ediv_nonneg hn0.1 (by omega)
  have q5 : n / B < B := Int.ediv_lt_of_lt_mul hB hn0.2
  have hlt : i + k < o.length := by rw [h.len]; omega
  refine ⟨hn0, by rw [List.length_set]; exact h.len, fun j => ?_, ⟨q4, q5⟩, fun j hj => ?_, ?_⟩
  · rw [gN_set hlt]
    split
    · exact ⟨q1, q2⟩
    · exact h.dgs j
  · rw [gN_set hlt, if_neg (by omega)]
    exact h.zer j hj
  · rw [sm_set (f := gN o) (gN_set hlt) (by omega), sm, ← Nat.add_assoc, Int.pow_succ]
    have hv := h.val
    have e : B ^ (i + k) = B ^ i * B ^ k := Int.pow_add _ _ _
    generalize n / B = q at *
    generalize n % B = r at *
    generalize sm B (gN o) L = S at *
    generalize gN o (i + k) = d at *
    rw [e] at hv ⊢
    grind
theorem MI.last (h : MI B X Y ly L i ly c o) (hL : i + ly < L) : OI B X Y ly L (i + 1) (o.set (i + ly) c) := by
  have hlt : i + ly < o.length := by rw [h.len]; omega
  refine ⟨by rw [List.length_set]; exact h.len, fun j => ?_, fun j hj => ?_, ?_⟩
  · rw [gN_set hlt]
    split
    · exact h.car
    · exact h.dgs j
  · rw [gN_set hlt, if_neg (by omega)]
    exact h.zer j (by omega)
  · rw [sm_set (f := gN o) (gN_set hlt) hL, h.zer (i + ly) (by omega), sm]
    have hv := h.val
    grind
theorem MI.last0 (h : MI B X Y ly L i ly 0 o) : OI B X Y ly L (i + 1) o := by
  refine ⟨h.len, h.dgs, fun j hj => h.zer j (by omega), ?_⟩
  rw [sm]
  have hv := h.val
  grind
end
end Go.Ab
