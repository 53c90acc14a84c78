/- Plain reasoning about trees: what they come to, rounds, numbers of 64 bits, lists. The first place at which something holds. Plain reasoning about greatest common divisors and fractions in lowest terms. -/
import Derived.Test.YtlihngoejfmheaaGreatDoorUA
section
namespace Go.Ab
open Go
set_option linter.unusedVariables false

section
variable {ρ : Type}
theorem r_ret (r : ρ) : (Tr.ret r).run = some r := Eq.trans rfl rfl
theorem r_fail : (Tr.fail : Tr ρ).run = none := Eq.trans rfl rfl
theorem r_br (b : Bool) (t e : Tr ρ) : (Tr.br b t e).run = if b = true then t.run else e.run := by cases b <;> rfl
theorem r_req (b : Bool) (t : Tr ρ) : (Tr.req b t).run = if b = true then t.run else none := by cases b <;> rfl
theorem r_bind (τ : Ty) (c : Option τ.T) (k : τ.T → Tr ρ) : (Tr.bind τ c k).run = c.bind fun x => (k x).run := Eq.trans rfl rfl
theorem r_iter (σ : Ty) (b : σ.T → Tr (σ.T ⊕ ρ)) (x : σ.T) : (Tr.iter σ b x).run = iterF (fun y => (b y).run) FUEL x := Eq.trans rfl rfl
end
theorem fuel_big : 1208925819614629174706176 ≤ FUEL := by decide

/-- Rounds that go on up to N and end there or before: what is known of the result. -/
theorem iter_post {σ ρ : Type} {b : σ → Option (σ ⊕ ρ)} (I : Nat → σ → Prop) (Q : ρ → Prop) (N : Nat) (hN : N < 1208925819614629174706176)
    (h : ∀ i x, i ≤ N → I i x → (∃ x', b x = some (.inl x') ∧ i < N ∧ I (i + 1) x') ∨ (∃ r, b x = some (.inr r) ∧ Q r)) {x0 : σ} (h0 : I 0 x0) : ∃ r, iterF b FUEL x0 = some r ∧ Q r := by
  have key : ∀ n i x, N - i < n → i ≤ N → I i x → ∃ r, iterF b n x = some r ∧ Q r := by
    intro n
    induction n with
    | zero => intro i x h1; omega
    | succ n ih =>
      intro i x h1 h2 hI
      rcases h i x h2 hI with ⟨x', e, h3, h4⟩ | ⟨r, e, h3⟩
      · obtain ⟨r, q1, q2⟩ := ih (i + 1) x' (by omega) (by omega) h4
        exact ⟨r, by simp only [iterF, e]; exact q1, q2⟩
      · exact ⟨r, by simp only [iterF, e], h3⟩
  have := fuel_big
  exact key FUEL 0 x0 (by omega) (Nat.zero_le _) h0
/-- The same, for a result that is told. -/
theorem iter_eq {σ ρ : Type} {b : σ → Option (σ ⊕ ρ)} (I : Nat → σ → Prop) (r : ρ) (N : Nat) (hN : N < 1208925819614629174706176)
    (h : ∀ i x, i ≤ N → I i x → (∃ x', b x = some (.inl x') ∧ i < N ∧ I (i + 1) x') ∨ b x = some (.inr r)) {x0 : σ} (h0 : I 0 x0) : iterF b FUEL x0 = some r := by
  obtain ⟨r', h1, h2⟩ := iter_post I (· = r) N hN (fun i x hi hI => by
    rcases h i x hi hI with h | h
    · exact .inl h
    · exact .inr ⟨r, h, rfl⟩) h0
  subst h2; exact h1

theorem inB_t {n : Int} {len : Nat} (h : 0 ≤ n ∧ n < len) : inB n len = true := decide_eq_true h
theorem okApp_t {n b : Nat} (h : n ≤ 1099511627776 ∧ n * b ≤ 140737488355328) : okApp n b = true := decide_eq_true h
theorem nz_t {n : Int} (h : n ≠ 0) : nz n = true := decide_eq_true h

section
variable {ρ : Type} {t : Tr ρ}
theorem q_inB {n : Int} {len : Nat} (h1 : 0 ≤ n) (h2 : n < len) : (Tr.req (inB n len) t).run = t.run := by rw [r_req, inB_t ⟨h1, h2⟩, if_pos rfl]
theorem q_nz {n : Int} (h : n ≠ 0) : (Tr.req (nz n) t).run = t.run := by rw [r_req, nz_t h, if_pos rfl]
theorem q_app {n b : Nat} (h : n ≤ 1099511627776) (h2 : n * b ≤ 140737488355328) : (Tr.req (okApp n b) t).run = t.run := by rw [r_req, okApp_t ⟨h, h2⟩, if_pos rfl]
theorem q_eq {a b : Nat} (h : a = b) : (Tr.req (decide (a = b)) t).run = t.run := by rw [r_req, decide_eq_true h, if_pos rfl]
theorem q_bnd {a b : Int} {len : Nat} (h1 : 0 ≤ a) (h2 : a ≤ b) (h3 : b ≤ len) : (Tr.req (bndOk a b len) t).run = t.run := by rw [r_req, show bndOk a b len = true from decide_eq_true ⟨h1, h2, h3⟩, if_pos rfl]
theorem q_str {n : Nat} (h : n ≤ 9223372036854775807) : (Tr.req (okStr n) t).run = t.run := by rw [r_req, show okStr n = true from decide_eq_true h, if_pos rfl]
theorem q_true : (Tr.req true t).run = t.run := Eq.trans rfl rfl
theorem br_t {b : Bool} {t e : Tr ρ} (h : b = true) : (Tr.br b t e).run = t.run := by rw [r_br, if_pos h]
theorem br_f {b : Bool} {t e : Tr ρ} (h : b = false) : (Tr.br b t e).run = e.run := by rw [r_br, h]; rfl
theorem r_bs {τ : Ty} {c : Option τ.T} {k : τ.T → Tr ρ} {x : τ.T} (h : c = some x) : (Tr.bind τ c k).run = (k x).run := by rw [r_bind, h]; rfl
end
theorem w64' {x : Int} (h : -9223372036854775808 ≤ x) (h2 : x ≤ 9223372036854775807) : IntKind.i64.wrap x = x := wrap64 h h2

/-- From a callee that is told to a law's contract. -/
theorem meets_law {P : Program} {c : Callee} (hok : c.ok P) {f : Nat} {x : (tupT (PK.tys c.ps)).T} {y y' : (tupT (BK.tys c.bl)).T} {r : (tupT (RK.tys c.rs)).T} {args : List AV} {v : AV} (h : c.fn x y = some (r, y')) (e0 : c.f = f)
    (e1 : (blocksS id c.bl y).map avL = []) (e2 : avL (argsS c.ps x) = args) (e3 : sing (avL (resS c.bl.length c.rs r)) = v) (e4 : (blocksS id c.bl y' ++ newsS c.rs r).map avL = []) : Meets P f [] args v [] := by
  have := hok.2 x y r y' h
  rw [e0, e1, e2, e3, e4] at this
  exact this

end Go.Ab
end

section
namespace Go.Ab
open Go
set_option linter.unusedVariables false

/-- The first number that is not 0, or 0. -/
def firstErr (f : Nat → Int) : Nat → Int
  | 0 => 0
  | n + 1 => if firstErr f n ≠ 0 then firstErr f n else f n
theorem firstErr_0 {f : Nat → Int} : ∀ {n : Nat}, (∀ j, j < n → f j = 0) → firstErr f n = 0
  | 0, _ => rfl
  | n + 1, h => by rw [firstErr, firstErr_0 (fun j hj => h j (by omega))]; simp [h n (by omega)]
theorem firstErr_at {f : Nat → Int} {i : Nat} (h : ∀ j, j < i → f j = 0) (hi : f i ≠ 0) : ∀ {n : Nat}, i < n → firstErr f n = f i
  | 0, hn => by omega
  | n + 1, hn => by
    rw [firstErr]
    by_cases e : i = n
    · subst e; rw [firstErr_0 h]; simp
    · rw [firstErr_at h hi (n := n) (by omega), if_pos hi]
theorem firstErr_eq0 {f : Nat → Int} : ∀ {n : Nat}, firstErr f n = 0 → ∀ j, j < n → f j = 0
  | 0, _, j, h => by omega
  | n + 1, h, j, hj => by
    rw [firstErr] at h
    split at h
    · contradiction
    · rename_i h0
      have h0 : firstErr f n = 0 := by simpa using h0
      by_cases e : j = n
      · subst e; exact h
      · exact firstErr_eq0 h0 j (by omega)
/-- A loop that stops at the first error. -/
theorem iter_err {σ ρ : Type} {b : σ → Option (σ ⊕ ρ)} (st : Nat → σ) (f : Nat → Int) (n : Nat) (hn : n ≤ 1099511627776) (F : Int → ρ)
    (h1 : ∀ i : Nat, i < n → (∀ j, j < i → f j = 0) → f i ≠ 0 → b (st i) = some (.inr (F (f i)))) (h2 : ∀ i : Nat, i < n → (∀ j, j < i → f j = 0) → f i = 0 → b (st i) = some (.inl (st (i + 1))))
    (h3 : (∀ j, j < n → f j = 0) → b (st n) = some (.inr (F 0))) : iterF b FUEL (st 0) = some (F (firstErr f n)) := by
  refine iter_eq (fun i x => x = st i ∧ ∀ j, j < i → f j = 0) _ n (by omega) ?_ ⟨rfl, fun j hj => by omega⟩
  rintro i x hi ⟨rfl, hp⟩
  by_cases hlt : i < n
  · by_cases q : f i = 0
    · left
      refine ⟨_, h2 i hlt hp q, hlt, rfl, fun j hj => ?_⟩
      by_cases e : j = i
      · subst e; exact q
      · exact hp j (by omega)
    · right; rw [h1 i hlt hp q, firstErr_at hp q hlt]
  · right
    have : i = n := by omega
    subst this
    rw [h3 hp, firstErr_0 hp]
end Go.Ab
end

section
namespace Go.Ab
open Go
set_option linter.unusedVariables false

theorem mul_bd {a b m n : Int} (ha : -m ≤ a) (ha' : a ≤ m) (hb : -n ≤ b) (hb' : b ≤ n) : -(m * n) ≤ a * b ∧ a * b ≤ m * n := by
  have h1 : a.natAbs ≤ m.natAbs := by omega
  have h2 : b.natAbs ≤ n.natAbs := by omega
  have h3 : (a * b).natAbs ≤ m.natAbs * n.natAbs := by rw [Int.natAbs_mul]; exact Nat.mul_le_mul h1 h2
  have h4 : ((m.natAbs * n.natAbs : Nat) : Int) = m * n := by
    rw [Int.natCast_mul, Int.natAbs_of_nonneg (by omega), Int.natAbs_of_nonneg (by omega)]
  omega

/-- The greatest common divisor, as a whole number. -/
def G (a b : Int) : Int := (Int.gcd a b : Nat)
/-- In lowest terms, the denominator above 0. -/
def IsLow (f : Int × Int) : Prop := 0 < f.2 ∧ G f.1 f.2 = 1
instance (f : Int × Int) : Decidable (IsLow f) := inferInstanceAs (Decidable (_ ∧ _))
/-- The lowest terms of a fraction. -/
def low (n d : Int) : Int × Int := if d < 0 then (n.tdiv (-G n d), d.tdiv (-G n d)) else (n.tdiv (G n d), d.tdiv (G n d))

/-- Lowest terms of the same number are the same. -/
theorem IsLow.eq {a b : Int × Int} (ha : IsLow a) (hb : IsLow b) (h : a.1 * b.2 = b.1 * a.2) : a = b := by
  obtain ⟨p, q⟩ := a
  obtain ⟨r, s⟩ := b
  obtain ⟨h1, h2⟩ := ha
  obtain ⟨h3, h4⟩ := hb
  simp only at *
  have c1 : Int.gcd p q = 1 := by unfold G at h2; omega
  have c2 : Int.gcd r s = 1 := by unfold G at h4; omega
  have n1 : Nat.Coprime q.natAbs p.natAbs := (Nat.gcd_comm _ _).trans c1
  have n2 : Nat.Coprime s.natAbs r.natAbs := (Nat.gcd_comm _ _).trans c2
  have d1 : q ∣ s := by
    refine Int.natAbs_dvd_natAbs.1 (n1.dvd_of_dvd_mul_left ?_)
    rw [← Int.natAbs_mul, h, Int.natAbs_mul]
    exact ⟨r.natAbs, Nat.mul_comm ..⟩
  have d2 : s ∣ q := by
    refine Int.natAbs_dvd_natAbs.1 (n2.dvd_of_dvd_mul_left ?_)
    rw [← Int.natAbs_mul, ← h, Int.natAbs_mul]
    exact ⟨p.natAbs, Nat.mul_comm ..⟩
  have e : q = s := Int.le_antisymm (Int.le_of_dvd (by omega) d1) (Int.le_of_dvd (by omega) d2)
  subst e
  have := Int.eq_of_mul_eq_mul_right (by omega : q ≠ 0) h
  subst this; rfl
/-- A fraction whose parts are small. -/
def Small (f : Int × Int) : Prop := IsLow f ∧ -1000000000 ≤ f.1 ∧ f.1 ≤ 1000000000 ∧ f.2 ≤ 1000000000
instance (f : Int × Int) : Decidable (Small f) := inferInstanceAs (Decidable (_ ∧ _))
end Go.Ab
end
