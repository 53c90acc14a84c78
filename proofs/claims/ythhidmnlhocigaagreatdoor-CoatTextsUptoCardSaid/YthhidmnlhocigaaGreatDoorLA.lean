/- Plain reasoning about trees: what they come to, rounds, numbers of 64 bits, lists. The first place at which something holds. Plain reasoning about greatest common divisors and fractions in lowest terms. -/
import Derived.Test.YthhidmnlhocigaaGreatDoorUA
section
namespace Go.Ab
open Go
set_option linter.unusedVariables false

section
variable {ρ : Type}
theorem r_ret (r : ρ) : (Tr.ret r).run = some r := Eq.trans rfl rfl
theorem r_fail : (Tr.fail : Tr ρ).run = none := Eq.trans rfl rfl
theorem r_br (b : Bool) (t e : Tr ρ) : (Tr.br b t e).run = if b = true then t.run else e.run := by cases b <;> rfl
theorem r_req (b : Bool) (t : Tr ρ) : (Tr.req b t).run = if b = true then t.run else none := by cases b <;> rfl
theorem r_bind (τ : Ty) (c : Option τ.T) (k : τ.T → Tr ρ) : (Tr.bind τ c k).run = c.bind fun x => (k x).run := Eq.trans rfl rfl
theorem r_iter (σ : Ty) (b : σ.T → Tr (σ.T ⊕ ρ)) (x : σ.T) : (Tr.iter σ b x).run = iterF (fun y => (b y).run) FUEL x := Eq.trans rfl rfl
end
theorem fuel_big : 1208925819614629174706176 ≤ FUEL := by decide

/-- Rounds that go on up to N and end there or before: what is known of the result. -/
theorem iter_post {σ ρ : Type} {b : σ → Option (σ ⊕ ρ)} (I : Nat → σ → Prop) (Q : ρ → Prop) (N : Nat) (hN : N < 1208925819614629174706176)
    (h : ∀ i x, i ≤ N → I i x → (∃ x', b x = some (.inl x') ∧ i < N ∧ I (i + 1) x') ∨ (∃ r, b x = some (.inr r) ∧ Q r)) {x0 : σ} (h0 : I 0 x0) : ∃ r, iterF b FUEL x0 = some r ∧ Q r := by
  have key : ∀ n i x, N - i < n → i ≤ N → I i x → ∃ r, iterF b n x = some r ∧ Q r := by
    intro n
    induction n with
    | zero => intro i x h1; omega
    | succ n ih =>
      intro i x h1 h2 hI
      rcases h i x h2 hI with ⟨x', e, h3, h4⟩ | ⟨r, e, h3⟩
      · obtain ⟨r, q1, q2⟩ := ih (i + 1) x' (by omega) (by omega) h4
        exact ⟨r, by simp only [iterF, e]; exact q1, q2⟩
      · exact ⟨r, by simp only [iterF, e], h3⟩
  have := fuel_big
  exact key FUEL 0 x0 (by omega) (Nat.zero_le _) h0
/-- The same, for a result that is told. -/
theorem iter_eq {σ ρ : Type} {b : σ → Option (σ ⊕ ρ)} (I : Nat → σ → Prop) (r : ρ) (N : Nat) (hN : N < 1208925819614629174706176)
    (h : ∀ i x, i ≤ N → I i x → (∃ x', b x = some (.inl x') ∧ i < N ∧ I (i + 1) x') ∨ b x = some (.inr r)) {x0 : σ} (h0 : I 0 x0) : iterF b FUEL x0 = some r := by
  obtain ⟨r', h1, h2⟩ := iter_post I (· = r) N hN (fun i x hi hI => by
    rcases h i x hi hI with h | h
    · exact .inl h
    · exact .inr ⟨r, h, rfl⟩) h0
  subst h2; exact h1

theorem w64 {x : Int} (h : -9223372036854775808 ≤ x ∧ x ≤ 9223372036854775807) : IntKind.i64.wrap x = x := wrap64 h.1 h.2
theorem inB_nat {i len : Nat} : inB (i : Int) len = decide (i < len) := by
  unfold inB
  rw [decide_eq_decide]; omega
theorem inB_t {n : Int} {len : Nat} (h : 0 ≤ n ∧ n < len) : inB n len = true := decide_eq_true h
theorem okApp_t {n b : Nat} (h : n ≤ 1099511627776 ∧ n * b ≤ 140737488355328) : okApp n b = true := decide_eq_true h
theorem nz_t {n : Int} (h : n ≠ 0) : nz n = true := decide_eq_true h

section
variable {ρ : Type} {t : Tr ρ}
theorem q_inB {n : Int} {len : Nat} (h1 : 0 ≤ n) (h2 : n < len) : (Tr.req (inB n len) t).run = t.run := by rw [r_req, inB_t ⟨h1, h2⟩, if_pos rfl]
theorem q_nz {n : Int} (h : n ≠ 0) : (Tr.req (nz n) t).run = t.run := by rw [r_req, nz_t h, if_pos rfl]
theorem q_app {n b : Nat} (h : n ≤ 1099511627776) (h2 : n * b ≤ 140737488355328) : (Tr.req (okApp n b) t).run = t.run := by rw [r_req, okApp_t ⟨h, h2⟩, if_pos rfl]
theorem q_eq {a b : Nat} (h : a = b) : (Tr.req (decide (a = b)) t).run = t.run := by rw [r_req, decide_eq_true h, if_pos rfl]
theorem q_bnd {a b : Int} {len : Nat} (h1 : 0 ≤ a) (h2 : a ≤ b) (h3 : b ≤ len) : (Tr.req (bndOk a b len) t).run = t.run := by rw [r_req, show bndOk a b len = true from decide_eq_true ⟨h1, h2, h3⟩, if_pos rfl]
theorem q_str {n : Nat} (h : n ≤ 9223372036854775807) : (Tr.req (okStr n) t).run = t.run := by rw [r_req, show okStr n = true from decide_eq_true h, if_pos rfl]
theorem q_true : (Tr.req true t).run = t.run := Eq.trans rfl rfl
theorem br_t {b : Bool} {t e : Tr ρ} (h : b = true) : (Tr.br b t e).run = t.run := by rw [r_br, if_pos h]
theorem br_f {b : Bool} {t e : Tr ρ} (h : b = false) : (Tr.br b t e).run = e.run := by rw [r_br, h]; rfl
theorem br_d {p : Prop} [Decidable p] {t e : Tr ρ} : (Tr.br (decide p) t e).run = if p then t.run else e.run := by
  rw [r_br]; by_cases h : p <;> simp [h]
theorem br_n {p : Prop} [Decidable p] {t e : Tr ρ} : (Tr.br (!decide p) t e).run = if p then e.run else t.run := by
  rw [r_br]; by_cases h : p <;> simp [h]
theorem r_bs {τ : Ty} {c : Option τ.T} {k : τ.T → Tr ρ} {x : τ.T} (h : c = some x) : (Tr.bind τ c k).run = (k x).run := by rw [r_bind, h]; rfl
end
theorem w64' {x : Int} (h : -9223372036854775808 ≤ x) (h2 : x ≤ 9223372036854775807) : IntKind.i64.wrap x = x := wrap64 h h2

/-- From a callee that is told to a law's contract. -/
theorem meets_law {P : Program} {c : Callee} (hok : c.ok P) {f : Nat} {x : (tupT (PK.tys c.ps)).T} {y y' : (tupT (BK.tys c.bl)).T} {r : (tupT (RK.tys c.rs)).T} {args : List AV} {v : AV} (h : c.fn x y = some (r, y')) (e0 : c.f = f)
    (e1 : (blocksS id c.bl y).map avL = []) (e2 : avL (argsS c.ps x) = args) (e3 : sing (avL (resS c.bl.length c.rs r)) = v) (e4 : (blocksS id c.bl y' ++ newsS c.rs r).map avL = []) : Meets P f [] args v [] := by
  have := hok.2 x y r y' h
  rw [e0, e1, e2, e3, e4] at this
  exact this

/-- Division, rounded down. -/
theorem fdiv_eq' {a b : Int} (hb : 0 < b) : a / b = if a.tmod b < 0 then a.tdiv b - 1 else a.tdiv b := by
  have h1 := Int.tmod_add_mul_tdiv a b
  have h2 := Int.tmod_lt_of_pos a hb
  have h3 := Int.lt_tmod_of_pos a hb
  split
  · refine (Int.ediv_emod_unique (r := a.tmod b + b) hb).2 ⟨?_, by omega, by omega⟩ |>.1
    rw [Int.mul_sub]; omega
  · refine (Int.ediv_emod_unique (r := a.tmod b) hb).2 ⟨h1, by omega, h2⟩ |>.1
theorem tdiv_bd {a b m : Int} (hb : 0 < b) (h : -m ≤ a) (h2 : a ≤ m) : -m ≤ a.tdiv b ∧ a.tdiv b ≤ m := by
  rcases Int.le_total 0 a with h3 | h3
  · have e := Int.tdiv_eq_ediv_of_nonneg (b := b) h3
    have := Int.ediv_nonneg h3 (Int.le_of_lt hb)
    have := Int.ediv_le_self b h3
    omega
  · have e : a.tdiv b = -((-a).tdiv b) := by rw [Int.neg_tdiv]; omega
    have e2 := Int.tdiv_eq_ediv_of_nonneg (a := -a) (b := b) (by omega)
    have := Int.ediv_nonneg (a := -a) (by omega) (Int.le_of_lt hb)
    have := Int.ediv_le_self (a := -a) b (by omega)
    omega
end Go.Ab
end

section
namespace Go.Ab
open Go
set_option linter.unusedVariables false

/-- The first place at which it holds, or -1. -/
def idxTo (p : Nat → Bool) : Nat → Int
  | 0 => -1
  | n + 1 => if idxTo p n ≠ -1 then idxTo p n else if p n then n else -1
theorem idxTo_none {p : Nat → Bool} : ∀ {n : Nat}, (∀ j, j < n → p j = false) → idxTo p n = -1
  | 0, _ => rfl
  | n + 1, h => by
    rw [idxTo, idxTo_none (fun j hj => h j (by omega))]
    simp [h n (by omega)]
theorem idxTo_at {p : Nat → Bool} {i : Nat} (h : ∀ j, j < i → p j = false) (hc : p i = true) : ∀ {n : Nat}, i < n → idxTo p n = i
  | 0, hn => by omega
  | n + 1, hn => by
    rw [idxTo]
    by_cases e : i = n
    · subst e; rw [idxTo_none h]; simp [hc]
    · rw [idxTo_at h hc (n := n) (by omega), if_pos (by omega)]
theorem idxTo_cases (p : Nat → Bool) : ∀ n : Nat, (idxTo p n = -1 ∧ ∀ j, j < n → p j = false) ∨ ∃ i : Nat, i < n ∧ idxTo p n = i ∧ p i = true ∧ ∀ j, j < i → p j = false
  | 0 => .inl ⟨rfl, fun j h => by omega⟩
  | n + 1 => by
    rcases idxTo_cases p n with ⟨h1, h2⟩ | ⟨i, h1, h2, h3, h4⟩
    · by_cases hp : p n = true
      · exact .inr ⟨n, by omega, idxTo_at h2 hp (by omega), hp, h2⟩
      · have hp' : p n = false := by simpa using hp
        refine .inl ⟨idxTo_none fun j hj => ?_, fun j hj => ?_⟩
        all_goals
          by_cases e : j = n
          · subst e; exact hp'
          · exact h2 j (by omega)
    · exact .inr ⟨i, by omega, idxTo_at h4 h3 (by omega), h3, h4⟩
theorem idxTo_bd (p : Nat → Bool) (n : Nat) : -1 ≤ idxTo p n ∧ idxTo p n < n := by
  rcases idxTo_cases p n with ⟨h, _⟩ | ⟨i, h1, h2, _⟩ <;> omega
theorem idxTo_congr {p q : Nat → Bool} : ∀ {n : Nat}, (∀ j, j < n → p j = q j) → idxTo p n = idxTo q n
  | 0, _ => rfl
  | n + 1, h => by rw [idxTo, idxTo, idxTo_congr (fun j hj => h j (by omega)), h n (by omega)]

/-- A loop that looks for the first place. -/
theorem iter_idx {ρ : Type} {b : (Int × Unit) → Option ((Int × Unit) ⊕ ρ)} (p : Nat → Bool) (n : Nat) (hn : n ≤ 1099511627776) (f : Int → ρ)
    (h1 : ∀ i : Nat, i < n → p i = true → b ((i : Int), ()) = some (.inr (f i))) (h2 : ∀ i : Nat, i < n → p i = false → b ((i : Int), ()) = some (.inl ((i : Int) + 1, ())))
    (h3 : b ((n : Int), ()) = some (.inr (f (-1)))) : iterF b FUEL (0, ()) = some (f (idxTo p n)) := by
  refine iter_eq (fun i x => x = ((i : Int), ()) ∧ ∀ j, j < i → p j = false) _ n (by omega) ?_ ⟨rfl, fun j hj => by omega⟩
  rintro i x hi ⟨rfl, hp⟩
  by_cases hlt : i < n
  · cases q : p i with
    | true => right; rw [h1 i hlt q, idxTo_at hp q hlt]
    | false =>
      left
      refine ⟨_, h2 i hlt q, hlt, rfl, fun j hj => ?_⟩
      by_cases e : j = i
      · subst e; exact q
      · exact hp j (by omega)
  · right
    have : i = n := by omega
    subst this
    rw [h3, idxTo_none hp]

/-- The first number that is not 0, or 0. -/
def firstErr (f : Nat → Int) : Nat → Int
  | 0 => 0
  | n + 1 => if firstErr f n ≠ 0 then firstErr f n else f n
theorem firstErr_0 {f : Nat → Int} : ∀ {n : Nat}, (∀ j, j < n → f j = 0) → firstErr f n = 0
  | 0, _ => rfl
  | n + 1, h => by rw [firstErr, firstErr_0 (fun j hj => h j (by omega))]; simp [h n (by omega)]
theorem firstErr_at {f : Nat → Int} {i : Nat} (h : ∀ j, j < i → f j = 0) (hi : f i ≠ 0) : ∀ {n : Nat}, i < n → firstErr f n = f i
  | 0, hn => by omega
  | n + 1, hn => by
    rw [firstErr]
    by_cases e : i = n
    · subst e; rw [firstErr_0 h]; simp
    · rw [firstErr_at h hi (n := n) (by omega), if_pos hi]
theorem firstErr_eq0 {f : Nat → Int} : ∀ {n : Nat}, firstErr f n = 0 → ∀ j, j < n → f j = 0
  | 0, _, j, h => by omega
  | n + 1, h, j, hj => by
    rw [firstErr] at h
    split at h
    · contradiction
    · rename_i h0
      have h0 : firstErr f n = 0 := by simpa using h0
      by_cases e : j = n
      · subst e; exact h
      · exact firstErr_eq0 h0 j (by omega)
theorem firstErr_congr {f g : Nat → Int} : ∀ {n : Nat}, (∀ j, j < n → f j = g j) → firstErr f n = firstErr g n
  | 0, _ => rfl
  | n + 1, h => by rw [firstErr, firstErr, firstErr_congr (fun j hj => h j (by omega)), h n (by omega)]

/-- A loop that stops at the first error. -/
theorem iter_err {σ ρ : Type} {b : σ → Option (σ ⊕ ρ)} (st : Nat → σ) (f : Nat → Int) (n : Nat) (hn : n ≤ 1099511627776) (F : Int → ρ)
    (h1 : ∀ i : Nat, i < n → (∀ j, j < i → f j = 0) → f i ≠ 0 → b (st i) = some (.inr (F (f i)))) (h2 : ∀ i : Nat, i < n → (∀ j, j < i → f j = 0) → f i = 0 → b (st i) = some (.inl (st (i + 1))))
    (h3 : (∀ j, j < n → f j = 0) → b (st n) = some (.inr (F 0))) : iterF b FUEL (st 0) = some (F (firstErr f n)) := by
  refine iter_eq (fun i x => x = st i ∧ ∀ j, j < i → f j = 0) _ n (by omega) ?_ ⟨rfl, fun j hj => by omega⟩
  rintro i x hi ⟨rfl, hp⟩
  by_cases hlt : i < n
  · by_cases q : f i = 0
    · left
      refine ⟨_, h2 i hlt hp q, hlt, rfl, fun j hj => ?_⟩
      by_cases e : j = i
      · subst e; exact q
      · exact hp j (by omega)
    · right; rw [h1 i hlt hp q, firstErr_at hp q hlt]
  · right
    have : i = n := by omega
    subst this
    rw [h3 hp, firstErr_0 hp]
end Go.Ab
end

section
namespace Go.Ab
open Go
set_option linter.unusedVariables false

theorem mul_bd {a b m n : Int} (ha : -m ≤ a) (ha' : a ≤ m) (hb : -n ≤ b) (hb' : b ≤ n) : -(m * n) ≤ a * b ∧ a * b ≤ m * n := by
  have h1 : a.natAbs ≤ m.natAbs := by omega
  have h2 : b.natAbs ≤ n.natAbs := by omega
  have h3 : (a * b).natAbs ≤ m.natAbs * n.natAbs := by rw [Int.natAbs_mul]; exact Nat.mul_le_mul h1 h2
  have h4 : ((m.natAbs * n.natAbs : Nat) : Int) = m * n := by
    rw [Int.natCast_mul, Int.natAbs_of_nonneg (by omega), Int.natAbs_of_nonneg (by omega)]
  omega

/-- The greatest common divisor, as a whole number. -/
def G (a b : Int) : Int := (Int.gcd a b : Nat)
theorem G_tmod (a b : Int) : G a b = G b (a.tmod b) := by
  unfold G
  rw [Int.gcd, Int.gcd, Int.natAbs_tmod, Nat.gcd_comm b.natAbs, ← Nat.gcd_rec, Nat.gcd_comm]
theorem G_zero (a : Int) : G a 0 = max a (-a) := by
  unfold G
  rw [Int.gcd_zero_right]; omega
theorem G_nonneg (a b : Int) : 0 ≤ G a b := Int.natCast_nonneg _
theorem G_pos {a b : Int} (h : b ≠ 0) : 0 < G a b := by
  have : 0 < Int.gcd a b := Int.gcd_pos_of_ne_zero_right a h
  unfold G; omega
theorem G_le {a b : Int} (h : b ≠ 0) : G a b ≤ b.natAbs := by
  have h1 : Int.gcd a b ∣ b.natAbs := Nat.gcd_dvd_right _ _
  have := Nat.le_of_dvd (by omega) h1
  unfold G; omega
theorem G_dvd_left (a b : Int) : G a b ∣ a := Int.gcd_dvd_left ..
theorem G_dvd_right (a b : Int) : G a b ∣ b := Int.gcd_dvd_right ..

/-- In lowest terms, the denominator above 0. -/
def IsLow (f : Int × Int) : Prop := 0 < f.2 ∧ G f.1 f.2 = 1
instance (f : Int × Int) : Decidable (IsLow f) := inferInstanceAs (Decidable (_ ∧ _))
/-- The lowest terms of a fraction. -/
def low (n d : Int) : Int × Int := if d < 0 then (n.tdiv (-G n d), d.tdiv (-G n d)) else (n.tdiv (G n d), d.tdiv (G n d))

/-- What lowest terms are: a common divisor is divided out. -/
theorem low_spec {n d : Int} (h : d ≠ 0) : ∃ g : Int, g ≠ 0 ∧ (g < 0 ↔ d < 0) ∧ n = g * (low n d).1 ∧ d = g * (low n d).2 ∧ g.natAbs = Int.gcd n d ∧ IsLow (low n d) := by
  have hp := G_pos (a := n) h
  obtain ⟨x, hx⟩ := G_dvd_left n d
  obtain ⟨y, hy⟩ := G_dvd_right n d
  have hg : ((Int.gcd n d : Nat) : Int) = G n d := rfl
  have hc : Int.gcd x y = 1 := by
    have e : Int.gcd n d = (G n d).natAbs * Int.gcd x y := by
      have e0 := Int.gcd_mul_left (G n d) x y
      rwa [← hx, ← hy] at e0
    have e2 : (G n d).natAbs = Int.gcd n d := by omega
    rw [e2] at e
    have : 0 < Int.gcd n d := by omega
    exact Nat.eq_of_mul_eq_mul_left this (by omega)
  by_cases hd : d < 0
  · have h1 : n.tdiv (-G n d) = -x := by
      conv => lhs; arg 1; rw [hx]
      rw [Int.tdiv_neg, Int.mul_tdiv_cancel_left _ (by omega)]
    have h2 : d.tdiv (-G n d) = -y := by
      conv => lhs; arg 1; rw [hy]
      rw [Int.tdiv_neg, Int.mul_tdiv_cancel_left _ (by omega)]
    refine ⟨-G n d, by omega, by omega, ?_, ?_, by omega, ?_⟩
    · rw [low, if_pos hd]; show n = -G n d * (n.tdiv (-G n d)); rw [h1, Int.neg_mul_neg]; exact hx
    · rw [low, if_pos hd]; show d = -G n d * (d.tdiv (-G n d)); rw [h2, Int.neg_mul_neg]; exact hy
    · rw [low, if_pos hd]
      refine ⟨?_, ?_⟩
      · show 0 < d.tdiv (-G n d)
        rw [h2]
        rcases Int.lt_trichotomy y 0 with q | q | q
        · omega
        · rw [q] at hy; omega
        · have := Int.mul_pos hp q; omega
      · show G (n.tdiv (-G n d)) (d.tdiv (-G n d)) = 1
        rw [h1, h2]; unfold G; rw [Int.gcd_neg, Int.neg_gcd, hc]; rfl
  · have h1 : n.tdiv (G n d) = x := by
      conv => lhs; arg 1; rw [hx]
      rw [Int.mul_tdiv_cancel_left _ (by omega)]
    have h2 : d.tdiv (G n d) = y := by
      conv => lhs; arg 1; rw [hy]
      rw [Int.mul_tdiv_cancel_left _ (by omega)]
    refine ⟨G n d, by omega, by omega, ?_, ?_, by omega, ?_⟩
    · rw [low, if_neg hd]; show n = G n d * (n.tdiv (G n d)); rw [h1]; exact hx
    · rw [low, if_neg hd]; show d = G n d * (d.tdiv (G n d)); rw [h2]; exact hy
    · rw [low, if_neg hd]
      refine ⟨?_, ?_⟩
      · show 0 < d.tdiv (G n d)
        rw [h2]
        rcases Int.lt_trichotomy y 0 with q | q | q
        · have := Int.mul_neg_of_pos_of_neg hp q; omega
        · rw [q] at hy; omega
        · exact q
      · show G (n.tdiv (G n d)) (d.tdiv (G n d)) = 1
        rw [h1, h2]; unfold G; rw [hc]; rfl
theorem low_is {n d : Int} (h : d ≠ 0) : IsLow (low n d) := (low_spec h).choose_spec.2.2.2.2.2
theorem low_cross {n d : Int} (h : d ≠ 0) : n * (low n d).2 = (low n d).1 * d := by
  obtain ⟨g, h1, h2, h3, h4, _⟩ := low_spec (n := n) h
  generalize low n d = f at *
  obtain ⟨a, b⟩ := f
  simp only at *
  subst h3 h4
  rw [Int.mul_comm g a, Int.mul_assoc]
theorem low_bd {n d : Int} (h : d ≠ 0) : (low n d).1.natAbs ≤ n.natAbs ∧ (low n d).2.natAbs ≤ d.natAbs := by
  obtain ⟨g, h1, h2, h3, h4, _⟩ := low_spec (n := n) h
  generalize low n d = f at *
  obtain ⟨a, b⟩ := f
  simp only at *
  subst h3 h4
  rw [Int.natAbs_mul, Int.natAbs_mul]
  exact ⟨Nat.le_mul_of_pos_left _ (by omega), Nat.le_mul_of_pos_left _ (by omega)⟩
/-- Lowest terms of the same number are the same. -/
theorem IsLow.eq {a b : Int × Int} (ha : IsLow a) (hb : IsLow b) (h : a.1 * b.2 = b.1 * a.2) : a = b := by
  obtain ⟨p, q⟩ := a
  obtain ⟨r, s⟩ := b
  obtain ⟨h1, h2⟩ := ha
  obtain ⟨h3, h4⟩ := hb
  simp only at *
  have c1 : Int.gcd p q = 1 := by unfold G at h2; omega
  have c2 : Int.gcd r s = 1 := by unfold G at h4; omega
  have n1 : Nat.Coprime q.natAbs p.natAbs := (Nat.gcd_comm _ _).trans c1
  have n2 : Nat.Coprime s.natAbs r.natAbs := (Nat.gcd_comm _ _).trans c2
  have d1 : q ∣ s := by
    refine Int.natAbs_dvd_natAbs.1 (n1.dvd_of_dvd_mul_left ?_)
    rw [← Int.natAbs_mul, h, Int.natAbs_mul]
    exact ⟨r.natAbs, Nat.mul_comm ..⟩
  have d2 : s ∣ q := by
    refine Int.natAbs_dvd_natAbs.1 (n2.dvd_of_dvd_mul_left ?_)
    rw [← Int.natAbs_mul, ← h, Int.natAbs_mul]
    exact ⟨p.natAbs, Nat.mul_comm ..⟩
  have e : q = s := Int.le_antisymm (Int.le_of_dvd (by omega) d1) (Int.le_of_dvd (by omega) d2)
  subst e
  have := Int.eq_of_mul_eq_mul_right (by omega : q ≠ 0) h
  subst this; rfl
theorem low_self {f : Int × Int} (h : IsLow f) : low f.1 f.2 = f := by
  have h1 := h.1
  exact (low_is (by omega)).eq h (low_cross (by omega)).symm
theorem isLow_one (n : Int) : IsLow (n, 1) := ⟨show (0 : Int) < 1 by decide, by unfold G; rw [Int.gcd_one_right]; rfl⟩

/-- A fraction whose parts are small. -/
def Small (f : Int × Int) : Prop := IsLow f ∧ -1000000000 ≤ f.1 ∧ f.1 ≤ 1000000000 ∧ f.2 ≤ 1000000000
instance (f : Int × Int) : Decidable (Small f) := inferInstanceAs (Decidable (_ ∧ _))
theorem small_one {n : Int} (h : -1000000000 ≤ n) (h2 : n ≤ 1000000000) : Small (n, 1) := ⟨isLow_one n, h, h2, show (1 : Int) ≤ 1000000000 by decide⟩
/-- A number brought to lowest terms, 0 if it is large; whether it is. -/
def fv (n d : Int) : Int × Int := if Small (low n d) then low n d else (0, 1)
def lg (n d : Int) : Bool := !decide (Small (low n d))
theorem fv_small (n d : Int) : Small (fv n d) := by
  unfold fv
  split
  · assumption
  · exact small_one (by decide) (by decide)
/-- The error of a fraction. -/
def cfE (f : Int × Int) : Int := if IsLow f then (if (-1000000000 ≤ f.1 ∧ f.1 ≤ 1000000000) ∧ f.2 ≤ 1000000000 then 0 else 2) else 3
theorem cfE_zero {f : Int × Int} : cfE f = 0 ↔ Small f := by
  unfold cfE Small
  by_cases h : IsLow f
  · by_cases h2 : (-1000000000 ≤ f.1 ∧ f.1 ≤ 1000000000) ∧ f.2 ≤ 1000000000
    · rw [if_pos h, if_pos h2]
      exact Iff.intro (fun _ => ⟨h, h2.1.1, h2.1.2, h2.2⟩) (fun _ => rfl)
    · rw [if_pos h, if_neg h2]
      exact Iff.intro (fun h => by cases h) (fun ⟨_, h3, h4, h5⟩ => absurd ⟨⟨h3, h4⟩, h5⟩ h2)
  · rw [if_neg h]
    exact Iff.intro (fun h => by cases h) (fun h' => absurd h'.1 h)
theorem cfE_of {f : Int × Int} (h : Small f) : cfE f = 0 := cfE_zero.2 h
end Go.Ab
end
