/- Plain reasoning about trees: what they come to, rounds, numbers of 64 bits, lists. -/
import Derived.Test.YtpgagefaneaioaaU6
namespace Go.Ab
open Go
set_option linter.unusedVariables false

section
variable {ρ : Type}
theorem r_ret (r : ρ) : (Tr.ret r).run = some r := Eq.trans rfl rfl
theorem r_fail : (Tr.fail : Tr ρ).run = none := Eq.trans rfl rfl
theorem r_br (b : Bool) (t e : Tr ρ) : (Tr.br b t e).run = if b = true then t.run else e.run := by cases b <;> rfl
theorem r_req (b : Bool) (t : Tr ρ) : (Tr.req b t).run = if b = true then t.run else none := by cases b <;> rfl
theorem r_bind (τ : Ty) (c : Option τ.T) (k : τ.T → Tr ρ) : (Tr.bind τ c k).run = c.bind fun x => (k x).run := Eq.trans rfl rfl
theorem r_iter (σ : Ty) (b : σ.T → Tr (σ.T ⊕ ρ)) (x : σ.T) : (Tr.iter σ b x).run = iterF (fun y => (b y).run) FUEL x := Eq.trans rfl rfl
end
theorem fuel_big : 1208925819614629174706176 ≤ FUEL := by decide

/-- Rounds that go on up to N and end there or before: what is known of the result. -/
theorem iter_post {σ ρ : Type} {b : σ → Option (σ ⊕ ρ)} (I : Nat → σ → Prop) (Q : ρ → Prop) (N : Nat) (hN : N < 1208925819614629174706176)
    (h : ∀ i x, i ≤ N → I i x → (∃ x', b x = some (.inl x') ∧ i < N ∧ I (i + 1) x') ∨ (∃ r, b x = some (.inr r) ∧ Q r)) {x0 : σ} (h0 : I 0 x0) : ∃ r, iterF b FUEL x0 = some r ∧ Q r := by
  have key : ∀ n i x, N - i < n → i ≤ N → I i x → ∃ r, iterF b n x = some r ∧ Q r := by
    intro n
    induction n with
    | zero => intro i x h1; omega
    | succ n ih =>
      intro i x h1 h2 hI
      rcases h i x h2 hI with ⟨x', e, h3, h4⟩ | ⟨r, e, h3⟩
      · obtain ⟨r, q1, q2⟩ := ih (i + 1) x' (by omega) (by omega) h4
        exact ⟨r, by simp only [iterF, e]; exact q1, q2⟩
      · exact ⟨r, by simp only [iterF, e], h3⟩
  have := fuel_big
  exact key FUEL 0 x0 (by omega) (Nat.zero_le _) h0
/-- The same, for a result that is told. -/
theorem iter_eq {σ ρ : Type} {b : σ → Option (σ ⊕ ρ)} (I : Nat → σ → Prop) (r : ρ) (N : Nat) (hN : N < 1208925819614629174706176)
    (h : ∀ i x, i ≤ N → I i x → (∃ x', b x = some (.inl x') ∧ i < N ∧ I (i + 1) x') ∨ b x = some (.inr r)) {x0 : σ} (h0 : I 0 x0) : iterF b FUEL x0 = some r := by
  obtain ⟨r', h1, h2⟩ := iter_post I (· = r) N hN (fun i x hi hI => by
    rcases h i x hi hI with h | h
    · exact .inl h
    · exact .inr ⟨r, h, rfl⟩) h0
  subst h2; exact h1

theorem w64 {x : Int} (h : -9223372036854775808 ≤ x ∧ x ≤ 9223372036854775807) : IntKind.i64.wrap x = x := wrap64 h.1 h.2
theorem inB_nat {i len : Nat} : inB (i : Int) len = decide (i < len) := by
  unfold inB
  rw [decide_eq_decide]; omega
theorem inB_t {n : Int} {len : Nat} (h : 0 ≤ n ∧ n < len) : inB n len = true := decide_eq_true h
theorem okApp_t {n b : Nat} (h : n ≤ 1099511627776 ∧ n * b ≤ 140737488355328) : okApp n b = true := decide_eq_true h
theorem nz_t {n : Int} (h : n ≠ 0) : nz n = true := decide_eq_true h

section
variable {ρ : Type} {t : Tr ρ}
theorem q_inB {n : Int} {len : Nat} (h1 : 0 ≤ n) (h2 : n < len) : (Tr.req (inB n len) t).run = t.run := by rw [r_req, inB_t ⟨h1, h2⟩, if_pos rfl]
theorem q_nz {n : Int} (h : n ≠ 0) : (Tr.req (nz n) t).run = t.run := by rw [r_req, nz_t h, if_pos rfl]
theorem q_app {n b : Nat} (h : n ≤ 1099511627776) (h2 : n * b ≤ 140737488355328) : (Tr.req (okApp n b) t).run = t.run := by rw [r_req, okApp_t ⟨h, h2⟩, if_pos rfl]
theorem q_eq {a b : Nat} (h : a = b) : (Tr.req (decide (a = b)) t).run = t.run := by rw [r_req, decide_eq_true h, if_pos rfl]
theorem q_bnd {a b : Int} {len : Nat} (h1 : 0 ≤ a) (h2 : a ≤ b) (h3 : b ≤ len) : (Tr.req (bndOk a b len) t).run = t.run := by rw [r_req, show bndOk a b len = true from decide_eq_true ⟨h1, h2, h3⟩, if_pos rfl]
theorem q_str {n : Nat} (h : n ≤ 9223372036854775807) : (Tr.req (okStr n) t).run = t.run := by rw [r_req, show okStr n = true from decide_eq_true h, if_pos rfl]
theorem q_true : (Tr.req true t).run = t.run := Eq.trans rfl rfl
theorem br_t {b : Bool} {t e : Tr ρ} (h : b = true) : (Tr.br b t e).run = t.run := by rw [r_br, if_pos h]
theorem br_f {b : Bool} {t e : Tr ρ} (h : b = false) : (Tr.br b t e).run = e.run := by rw [r_br, h]; rfl
theorem br_d {p : Prop} [Decidable p] {t e : Tr ρ} : (Tr.br (decide p) t e).run = if p then t.run else e.run := by
  rw [r_br]; by_cases h : p <;> simp [h]
theorem br_n {p : Prop} [Decidable p] {t e : Tr ρ} : (Tr.br (!decide p) t e).run = if p then e.run else t.run := by
  rw [r_br]; by_cases h : p <;> simp [h]
theorem r_bs {τ : Ty} {c : Option τ.T} {k : τ.T → Tr ρ} {x : τ.T} (h : c = some x) : (Tr.bind τ c k).run = (k x).run := by rw [r_bind, h]; rfl
end
theorem w64' {x : Int} (h : -9223372036854775808 ≤ x) (h2 : x ≤ 9223372036854775807) : IntKind.i64.wrap x = x := wrap64 h h2

/-- From a callee that is told to a law's contract. -/
theorem meets_law {P : Program} {c : Callee} (hok : c.ok P) {f : Nat} {x : (tupT (PK.tys c.ps)).T} {y y' : (tupT (BK.tys c.bl)).T} {r : (tupT (RK.tys c.rs)).T} {args : List AV} {v : AV} (h : c.fn x y = some (r, y')) (e0 : c.f = f)
    (e1 : (blocksS id c.bl y).map avL = []) (e2 : avL (argsS c.ps x) = args) (e3 : sing (avL (resS c.bl.length c.rs r)) = v) (e4 : (blocksS id c.bl y' ++ newsS c.rs r).map avL = []) : Meets P f [] args v [] := by
  have := hok.2 x y r y' h
  rw [e0, e1, e2, e3, e4] at this
  exact this

/-- Division, rounded down. -/
theorem fdiv_eq' {a b : Int} (hb : 0 < b) : a / b = if a.tmod b < 0 then a.tdiv b - 1 else a.tdiv b := by
  have h1 := Int.tmod_add_mul_tdiv a b
  have h2 := Int.tmod_lt_of_pos a hb
  have h3 := Int.lt_tmod_of_pos a hb
  split
  · refine (Int.ediv_emod_unique (r := a.tmod b + b) hb).2 ⟨?_, by omega, by omega⟩ |>.1
    rw [Int.mul_sub]; omega
  · refine (Int.ediv_emod_unique (r := a.tmod b) hb).2 ⟨h1, by omega, h2⟩ |>.1
theorem tdiv_bd {a b m : Int} (hb : 0 < b) (h : -m ≤ a) (h2 : a ≤ m) : -m ≤ a.tdiv b ∧ a.tdiv b ≤ m := by
  rcases Int.le_total 0 a with h3 | h3
  · have e := Int.tdiv_eq_ediv_of_nonneg (b := b) h3
    have := Int.ediv_nonneg h3 (Int.le_of_lt hb)
    have := Int.ediv_le_self b h3
    omega
  · have e : a.tdiv b = -((-a).tdiv b) := by rw [Int.neg_tdiv]; omega
    have e2 := Int.tdiv_eq_ediv_of_nonneg (a := -a) (b := b) (by omega)
    have := Int.ediv_nonneg (a := -a) (by omega) (Int.le_of_lt hb)
    have := Int.ediv_le_self (a := -a) b (by omega)
    omega
end Go.Ab
