/- Annealings: what CheckAnnealing, LeastMinutes, StressOf and CoolSystem of the program and of the reference compute. -/
import Derived.Test.YtlihngoejfmheaaGreatDoorQ1
import Derived.Test.YtlihngoejfmheaaGreatDoorB1
import Derived.Test.YtlihngoejfmheaaGreatDoorG3
namespace Go.Ab
open Go
set_option maxRecDepth 1000000
set_option maxHeartbeats 1000000
set_option linter.unusedVariables false
set_option linter.unusedSimpArgs false

theorem awake_ok : law03xawake = some ((true, ()), ()) := by kernel_rfl
theorem k_within (n lo hi : Int) : blank_within n lo hi = some ((decide (lo ≤ n ∧ n ≤ hi), ()), ()) := by
  simp only [blank_within, T_blank_within, r_br, r_ret]
  by_cases h : lo ≤ n <;> simp [h]
theorem k_Within (n lo hi : Int) : base_Within n lo hi = some ((decide (lo ≤ n ∧ n ≤ hi), ()), ()) := by
  simp only [base_Within, T_base_Within, r_br, r_ret]
  by_cases h : lo ≤ n <;> simp [h]
theorem nd {p : Prop} [Decidable p] (h : p) : (!decide p) = false := by simp [h]
theorem nd' {p : Prop} [Decidable p] (h : ¬ p) : (!decide p) = true := by simp [h]

abbrev Tri := Int × Int × Int
abbrev Ann := Int × Int × List Tri × List Tri
/-- A right annealing. -/
structure An (a : Ann) : Prop where
  th : 1 ≤ a.1 ∧ a.1 ≤ 500
  fa : 0 ≤ a.2.1 ∧ a.2.1 ≤ 1000
  len : 1 ≤ a.2.2.1.length ∧ a.2.2.1.length ≤ 30
  wl : a.2.2.2.length ≤ 60
  st : ∀ i : Nat, i < a.2.2.1.length → (1 ≤ (gi a.2.2.1 (i : Int)).1 ∧ (gi a.2.2.1 (i : Int)).1 ≤ 1000) ∧ (1 ≤ (gi a.2.2.1 (i : Int)).2.1 ∧ (gi a.2.2.1 (i : Int)).2.1 ≤ 1000000000) ∧ 1 ≤ (gi a.2.2.1 (i : Int)).2.2 ∧ (gi a.2.2.1 (i : Int)).2.2 ≤ 100000
  wi : ∀ i : Nat, i < a.2.2.2.length → (0 ≤ (gi a.2.2.2 (i : Int)).1 ∧ (gi a.2.2.2 (i : Int)).1 ≤ (a.2.2.1.length : Int)) ∧ (0 ≤ (gi a.2.2.2 (i : Int)).2.1 ∧ (gi a.2.2.2 (i : Int)).2.1 ≤ 1000000) ∧ (0 ≤ (gi a.2.2.2 (i : Int)).2.2 ∧ (gi a.2.2.2 (i : Int)).2.2 ≤ 1000000) ∧ (gi a.2.2.2 (i : Int)).2.1 ≤ (gi a.2.2.2 (i : Int)).2.2
/-! ### Quotients -/
/-! ### Stress -/
theorem An.at {a : Ann} (h : An a) {i : Int} (h0 : 0 ≤ i) (hi : i < a.2.2.1.length) : (1 ≤ (gi a.2.2.1 i).1 ∧ (gi a.2.2.1 i).1 ≤ 1000) ∧ (1 ≤ (gi a.2.2.1 i).2.1 ∧ (gi a.2.2.1 i).2.1 ≤ 1000000000) ∧ 1 ≤ (gi a.2.2.1 i).2.2 ∧ (gi a.2.2.1 i).2.2 ≤ 100000 := by
  have := h.st i.toNat (by omega)
  rw [show ((i.toNat : Nat) : Int) = i by omega] at this
  exact this
/-! ### What is asked of a step -/
end Go.Ab
