/- Making numbers larger until all bounds hold, or a circle of bounds shows that they cannot: plain reasoning. -/
import Derived.Test.YtnkpnobdhoemoaaB1
namespace Go.Ab
open Go
set_option linter.unusedVariables false

/-- Among so many numbers two are alike. -/
theorem pigeon : ∀ (n : Nat) (f : Nat → Nat), (∀ i, i ≤ n → f i < n) → ∃ i j, i < j ∧ j ≤ n ∧ f i = f j
  | 0, f, h => absurd (h 0 (Nat.le_refl _)) (Nat.not_lt_zero _)
  | n + 1, f, h => by
    by_cases q : ∃ i, i ≤ n ∧ f i = f (n + 1)
    · obtain ⟨i, h1, h2⟩ := q
      exact ⟨i, n + 1, by omega, Nat.le_refl _, h2⟩
    · have q' : ∀ i, i ≤ n → f i ≠ f (n + 1) := fun i h1 h2 => q ⟨i, h1, h2⟩
      obtain ⟨i, j, h1, h2, h3⟩ := pigeon n (fun i => if f i = n then f (n + 1) else f i) (fun i hi => by
        have a := h i (by omega)
        have b := h (n + 1) (Nat.le_refl _)
        have c := q' i hi
        split <;> omega)
      refine ⟨i, j, h1, by omega, ?_⟩
      have a := q' i (by omega)
      have b := q' j (by omega)
      split at h3 <;> split at h3 <;> omega

abbrev Edg := Nat × Nat × Int
def updE {α : Type} (f : Nat → α) (u : Nat) (x : α) : Nat → α := fun v => if v = u then x else f v
theorem updE_at {α : Type} {f : Nat → α} {u : Nat} {x : α} : updE f u x u = x := if_pos rfl
theorem updE_ne {α : Type} {f : Nat → α} {u v : Nat} {x : α} (h : v ≠ u) : updE f u x v = f v := if_neg h
/-- Does a bound ask for more? -/
def trg (t : Nat → Int) (d : Edg) : Prop := t d.1 < t d.2.1 - d.2.2
instance (t : Nat → Int) (d : Edg) : Decidable (trg t d) := inferInstanceAs (Decidable (_ < _))
/-- The numbers behind so many steps, and the last step (counted from one) that changed each. -/
def runE (e : Nat → Edg) : Nat → (Nat → Int) × (Nat → Nat)
  | 0 => (fun _ => 0, fun _ => 0)
  | m + 1 => if trg (runE e m).1 (e m) then (updE (runE e m).1 (e m).1 ((runE e m).1 (e m).2.1 - (e m).2.2), updE (runE e m).2 (e m).1 (m + 1)) else runE e m
variable {e : Nat → Edg}
theorem run_t {m : Nat} (h : trg (runE e m).1 (e m)) : runE e (m + 1) = (updE (runE e m).1 (e m).1 ((runE e m).1 (e m).2.1 - (e m).2.2), updE (runE e m).2 (e m).1 (m + 1)) := by rw [runE, if_pos h]
theorem run_f {m : Nat} (h : ¬ trg (runE e m).1 (e m)) : runE e (m + 1) = runE e m := by rw [runE, if_neg h]
theorem run_up (m x : Nat) : (runE e m).1 x ≤ (runE e (m + 1)).1 x := by
  by_cases h : trg (runE e m).1 (e m)
  · rw [run_t h]
    by_cases q : x = (e m).1
    · subst q
      show _ ≤ updE _ _ _ _
      rw [updE_at]
      unfold trg at h
      omega
    · show _ ≤ updE _ _ _ _
      rw [updE_ne q]; exact Int.le_refl _
  · rw [run_f h]; exact Int.le_refl _
theorem run_mono {m : Nat} (x : Nat) : ∀ {k : Nat}, m ≤ k → (runE e m).1 x ≤ (runE e k).1 x
  | 0, h => by
    have : m = 0 := by omega
    subst this; exact Int.le_refl _
  | k + 1, h => by
    by_cases q : m = k + 1
    · subst q; exact Int.le_refl _
    · exact Int.le_trans (run_mono x (k := k) (by omega)) (run_up k x)
theorem st_le : ∀ (m x : Nat), (runE e m).2 x ≤ m
  | 0, x => Nat.le_refl _
  | m + 1, x => by
    by_cases h : trg (runE e m).1 (e m)
    · rw [run_t h]
      by_cases q : x = (e m).1
      · subst q
        show updE _ _ _ _ ≤ _
        rw [updE_at]; exact Nat.le_refl _
      · show updE _ _ _ _ ≤ _
        rw [updE_ne q]; exact Nat.le_succ_of_le (st_le m x)
    · rw [run_f h]; exact Nat.le_succ_of_le (st_le m x)
theorem st_mono {m : Nat} (x : Nat) : ∀ {k : Nat}, m ≤ k → (runE e m).2 x ≤ (runE e k).2 x
  | 0, h => by
    have : m = 0 := by omega
    subst this; exact Nat.le_refl _
  | k + 1, h => by
    by_cases q : m = k + 1
    · subst q; exact Nat.le_refl _
    · refine Nat.le_trans (st_mono x (k := k) (by omega)) ?_
      by_cases h : trg (runE e k).1 (e k)
      · rw [run_t h]
        by_cases q : x = (e k).1
        · subst q
          show _ ≤ updE _ _ _ _
          rw [updE_at]; exact Nat.le_succ_of_le (st_le k _)
        · show _ ≤ updE _ _ _ _
          rw [updE_ne q]; exact Nat.le_refl _
      · rw [run_f h]; exact Nat.le_refl _
/-- What became larger was changed in between. -/
theorem st_of_lt {m x : Nat} : ∀ {k : Nat}, m ≤ k → (runE e m).1 x < (runE e k).1 x → m < (runE e k).2 x
  | 0, h, h2 => by
    have : m = 0 := by omega
    subst this; exact absurd h2 (Int.lt_irrefl _)
  | k + 1, h, h2 => by
    by_cases q : m = k + 1
    · subst q; exact absurd h2 (Int.lt_irrefl _)
    · by_cases t : trg (runE e k).1 (e k)
      · rw [run_t t] at h2 ⊢
        by_cases q2 : x = (e k).1
        · subst q2
          show _ < updE _ _ _ _
          rw [updE_at]; omega
        · show _ < updE _ _ _ _
          replace h2 : _ < updE _ _ _ _ := h2
          rw [updE_ne q2] at h2 ⊢
          exact st_of_lt (k := k) (by omega) h2
      · rw [run_f t] at h2 ⊢
        exact st_of_lt (k := k) (by omega) h2
theorem lt_of_st {m x : Nat} : ∀ {k : Nat}, m ≤ k → m < (runE e k).2 x → (runE e m).1 x < (runE e k).1 x
  | 0, h, h2 => absurd h2 (Nat.not_lt_zero _)
  | k + 1, h, h2 => by
    by_cases q : m = k + 1
    · subst q
      have := st_le (e := e) (k + 1) x
      omega
    · by_cases t : trg (runE e k).1 (e k)
      · rw [run_t t] at h2 ⊢
        by_cases q2 : x = (e k).1
        · subst q2
          show _ < updE _ _ _ _
          rw [updE_at]
          have := run_mono (e := e) (e k).1 (show m ≤ k by omega)
          unfold trg at t
          omega
        · show _ < updE _ _ _ _
          replace h2 : _ < updE _ _ _ _ := h2
          rw [updE_ne q2] at h2 ⊢
          exact lt_of_st (k := k) (by omega) h2
      · rw [run_f t] at h2 ⊢
        exact lt_of_st (k := k) (by omega) h2
/-- The step that changed a number last. -/
theorem st_eq {x s : Nat} : ∀ {m : Nat}, (runE e m).2 x = s + 1 → s < m ∧ (e s).1 = x ∧ trg (runE e s).1 (e s) ∧ (runE e m).1 x = (runE e s).1 (e s).2.1 - (e s).2.2
  | 0, h => by cases h
  | m + 1, h => by
    by_cases t : trg (runE e m).1 (e m)
    · rw [run_t t] at h ⊢
      by_cases q : x = (e m).1
      · subst q
        replace h : updE _ _ _ _ = _ := h
        rw [updE_at] at h
        have : s = m := by omega
        subst this
        refine ⟨by omega, rfl, t, ?_⟩
        show updE _ _ _ _ = _
        rw [updE_at]
      · replace h : updE _ _ _ _ = _ := h
        rw [updE_ne q] at h
        obtain ⟨h1, h2, h3, h4⟩ := st_eq h
        refine ⟨by omega, h2, h3, ?_⟩
        show updE _ _ _ _ = _
        rw [updE_ne q]; exact h4
    · rw [run_f t] at h ⊢
      obtain ⟨h1, h2, h3, h4⟩ := st_eq h
      exact ⟨by omega, h2, h3, h4⟩

/-- No number passes one that keeps all bounds. -/
theorem run_le {T : Nat → Int} (h0 : ∀ x, 0 ≤ T x) : ∀ (m : Nat), (∀ k, k < m → T (e k).2.1 - (e k).2.2 ≤ T (e k).1) → ∀ x, (runE e m).1 x ≤ T x
  | 0, _, x => h0 x
  | m + 1, h, x => by
    have ih := run_le h0 m (fun k hk => h k (by omega))
    by_cases t : trg (runE e m).1 (e m)
    · rw [run_t t]
      by_cases q : x = (e m).1
      · subst q
        show updE _ _ _ _ ≤ _
        rw [updE_at]
        have := h m (by omega)
        have := ih (e m).2.1
        omega
      · show updE _ _ _ _ ≤ _
        rw [updE_ne q]; exact ih x
    · rw [run_f t]; exact ih x
theorem run_bd {B : Int} (hB : 0 ≤ B) (h : ∀ m, -B ≤ (e m).2.2) : ∀ (m x : Nat), 0 ≤ (runE e m).1 x ∧ (runE e m).1 x ≤ (m : Int) * B
  | 0, x => by show (0 : Int) ≤ 0 ∧ (0 : Int) ≤ _; simp
  | m + 1, x => by
    have ih := run_bd hB h m
    have hs : ((m + 1 : Nat) : Int) * B = (m : Int) * B + B := by rw [Int.natCast_succ, Int.add_mul, Int.one_mul]
    rw [hs]
    refine ⟨Int.le_trans (ih x).1 (run_up m x), ?_⟩
    by_cases t : trg (runE e m).1 (e m)
    · rw [run_t t]
      by_cases q : x = (e m).1
      · subst q
        show updE _ _ _ _ ≤ _
        rw [updE_at]
        have := ih (e m).2.1
        have := h m
        omega
      · show updE _ _ _ _ ≤ _
        rw [updE_ne q]
        have := ih x
        omega
    · rw [run_f t]
      have := ih x
      omega
/-- Where none asks for more, all are kept. -/
theorem run_fix {m : Nat} : ∀ (k : Nat), (∀ j, j < k → ¬ trg (runE e (m + j)).1 (e (m + j))) → runE e (m + k) = runE e m
  | 0, _ => rfl
  | k + 1, h => by
    rw [show m + (k + 1) = (m + k) + 1 by omega, run_f (h k (by omega))]
    exact run_fix k (fun j hj => h j (by omega))

/-! ### The circle -/
/-- Steps along. -/
def wlk (f : Nat → Nat) (x : Nat) : Nat → Nat
  | 0 => x
  | k + 1 => f (wlk f x k)
theorem wlk_per {f : Nat → Nat} {x i p : Nat} (h : wlk f x (i + p) = wlk f x i) : ∀ k, wlk f x (i + p + k) = wlk f x (i + k)
  | 0 => h
  | k + 1 => by
    show f (wlk f x (i + p + k)) = f (wlk f x (i + k))
    rw [wlk_per h k]
/-- The bound that made a number what it is. -/
def lastE (e : Nat → Edg) (M x : Nat) : Edg := e ((runE e M).2 x - 1)
def preE (e : Nat → Edg) (M x : Nat) : Nat := (lastE e M x).2.1
/-- The sum along a walk. -/
def sumE (e : Nat → Edg) (M x : Nat) : Nat → Int
  | 0 => 0
  | k + 1 => sumE e M x k + (lastE e M (wlk (preE e M) x k)).2.2

section
variable {L n : Nat} (per : ∀ m, e (m + L) = e m) (ns : ∀ m, (e m).1 ≠ (e m).2.1) (hn : ∀ m, (e m).1 < n ∧ (e m).2.1 < n)
include per ns
/-- What made a number larger was changed not long before. -/
theorem st_pre (hL : 0 < L) {M x : Nat} (h : L < (runE e M).2 x) : (runE e M).2 x < (runE e M).2 (preE e M x) + L := by
  obtain ⟨s, hs⟩ : ∃ s, (runE e M).2 x = s + 1 := ⟨(runE e M).2 x - 1, by omega⟩
  have hp : preE e M x = (e s).2.1 := by unfold preE lastE; rw [hs]; rfl
  rw [hp, hs]
  obtain ⟨h1, h2, h3, h4⟩ := st_eq hs
  have es : e (s - L) = e s := by
    have := per (s - L)
    rw [show s - L + L = s by omega] at this
    exact this.symm
  -- behind the step before
  have a : (runE e (s - L + 1)).1 (e s).2.1 - (e s).2.2 ≤ (runE e (s - L + 1)).1 (e s).1 := by
    by_cases t : trg (runE e (s - L)).1 (e (s - L))
    · rw [run_t t, es]
      show updE _ _ _ _ - _ ≤ updE _ _ _ _
      rw [updE_at, updE_ne (fun q => ns s q.symm)]
      exact Int.le_refl _
    · rw [run_f t]
      rw [es] at t
      unfold trg at t
      omega
  have b := run_mono (e := e) (e s).1 (show s - L + 1 ≤ s by omega)
  have c : (runE e (s - L + 1)).1 (e s).2.1 < (runE e s).1 (e s).2.1 := by
    unfold trg at h3
    omega
  have d := st_of_lt (show s - L + 1 ≤ s by omega) c
  have f := st_mono (e := e) (e s).2.1 (show s ≤ M by omega)
  omega
omit per ns in
/-- A bound that changed a number last is kept, strictly if the other end was changed since. -/
theorem gap {M x : Nat} (h : 0 < (runE e M).2 x) : (runE e M).1 x ≤ (runE e M).1 (preE e M x) - (lastE e M x).2.2 ∧ ((runE e M).1 x = (runE e M).1 (preE e M x) - (lastE e M x).2.2 → (runE e M).2 (preE e M x) < (runE e M).2 x) := by
  obtain ⟨s, hs⟩ : ∃ s, (runE e M).2 x = s + 1 := ⟨(runE e M).2 x - 1, by omega⟩
  have hl : lastE e M x = e s := by unfold lastE; rw [hs]; rfl
  have hp : preE e M x = (e s).2.1 := by unfold preE; rw [hl]
  rw [hp, hl, hs]
  obtain ⟨h1, h2, h3, h4⟩ := st_eq hs
  have m := run_mono (e := e) (e s).2.1 (show s ≤ M by omega)
  refine ⟨by omega, fun q => ?_⟩
  have : ¬ s < (runE e M).2 (e s).2.1 := fun q2 => by
    have := lt_of_st (show s ≤ M by omega) q2
    omega
  omega
include hn
omit per ns in
theorem pre_lt (M x : Nat) : preE e M x < n := (hn _).2
theorem walk_ok (hL : 0 < L) {x0 : Nat} (hx : x0 < n) (h0 : (n - 1) * L < (runE e (n * L)).2 x0) : ∀ k, 0 < (runE e (n * L)).2 (wlk (preE e (n * L)) x0 k) ∧ wlk (preE e (n * L)) x0 k < n := by
  have lt : ∀ k, wlk (preE e (n * L)) x0 k < n := fun k => by
    cases k with
    | zero => exact hx
    | succ k => exact (hn _).2
  have low : ∀ k, k < n → (n - 1 - k) * L < (runE e (n * L)).2 (wlk (preE e (n * L)) x0 k) := fun k => by
    induction k with
    | zero => exact fun _ => h0
    | succ k ih =>
      intro hk
      have i := ih (by omega)
      have e1 : (n - 1 - k) * L = (n - 1 - (k + 1)) * L + L := by
        rw [show n - 1 - k = n - 1 - (k + 1) + 1 by omega, Nat.add_mul, Nat.one_mul]
      have := st_pre per ns hL (M := n * L) (x := wlk (preE e (n * L)) x0 k) (by omega)
      show _ < (runE e (n * L)).2 (preE e (n * L) (wlk (preE e (n * L)) x0 k))
      omega
  obtain ⟨i, j, h1, h2, h3⟩ := pigeon n (fun k => wlk (preE e (n * L)) x0 k) (fun i _ => lt i)
  have all : ∀ q k, k < q * n → 0 < (runE e (n * L)).2 (wlk (preE e (n * L)) x0 k) := fun q => by
    induction q with
    | zero => intro k hk; omega
    | succ q ih =>
      intro k
      induction k using Nat.strongRecOn with
      | ind k ihk =>
        intro hk
        by_cases c : k < n
        · exact Nat.lt_of_le_of_lt (Nat.zero_le _) (low k c)
        · have p : wlk (preE e (n * L)) x0 (i + (j - i)) = wlk (preE e (n * L)) x0 i := by rw [show i + (j - i) = j by omega]; exact h3.symm
          have := wlk_per p (k - j)
          rw [show i + (j - i) + (k - j) = k by omega] at this
          rw [this]
          exact ihk _ (by omega) (by omega)
  exact fun k => ⟨all (k + 1) k (by have := Nat.mul_le_mul_left (k + 1) (show 1 ≤ n by omega); omega), lt k⟩
omit per ns in
/-- It goes round. -/
theorem walk_round {x0 : Nat} (hx : x0 < n) : ∃ p, 1 ≤ p ∧ p ≤ n ∧ wlk (preE e (n * L)) x0 (n + p) = wlk (preE e (n * L)) x0 n := by
  have lt : ∀ k, wlk (preE e (n * L)) x0 k < n := fun k => by
    cases k with
    | zero => exact hx
    | succ k => exact (hn _).2
  obtain ⟨i, j, h1, h2, h3⟩ := pigeon n (fun k => wlk (preE e (n * L)) x0 k) (fun i _ => lt i)
  refine ⟨j - i, by omega, by omega, ?_⟩
  have p : wlk (preE e (n * L)) x0 (i + (j - i)) = wlk (preE e (n * L)) x0 i := by rw [show i + (j - i) = j by omega]; exact h3.symm
  have := wlk_per p (n - i)
  rw [show i + (j - i) + (n - i) = n + (j - i) by omega, show i + (n - i) = n by omega] at this
  exact this
omit per ns hn in
/-- Around a circle the sum is below zero. -/
theorem sum_neg {M x : Nat} (ok : ∀ k, 0 < (runE e M).2 (wlk (preE e M) x k)) {p : Nat} (hp : 1 ≤ p) (hc : wlk (preE e M) x p = x) : sumE e M x p < 0 := by
  have key : ∀ q, sumE e M x q ≤ (runE e M).1 (wlk (preE e M) x q) - (runE e M).1 x ∧ (sumE e M x q = (runE e M).1 (wlk (preE e M) x q) - (runE e M).1 x → q = 0 ∨ (runE e M).2 (wlk (preE e M) x q) < (runE e M).2 x) := fun q => by
    induction q with
    | zero => exact ⟨by show (0 : Int) ≤ _; show (0 : Int) ≤ (runE e M).1 x - (runE e M).1 x; omega, fun _ => .inl rfl⟩
    | succ q ih =>
      obtain ⟨g1, g2⟩ := gap (ok q)
      obtain ⟨i1, i2⟩ := ih
      have e1 : sumE e M x (q + 1) = sumE e M x q + (lastE e M (wlk (preE e M) x q)).2.2 := rfl
      have e2 : wlk (preE e M) x (q + 1) = preE e M (wlk (preE e M) x q) := rfl
      rw [e1, e2]
      refine ⟨by omega, fun h => .inr ?_⟩
      have b := g2 (by omega)
      rcases i2 (by omega) with c | c
      · subst c; exact b
      · omega
  obtain ⟨k1, k2⟩ := key p
  rw [hc] at k1 k2
  by_cases h : sumE e M x p = 0
  · rcases k2 (by omega) with c | c <;> omega
  · omega
end
end Go.Ab
