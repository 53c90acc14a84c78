/- Fractions of the program and of the reference. -/
import Derived.Test.YtpghhfnlfmlakaaGreatDoorQ2
import Derived.Test.YtpghhfnlfmlakaaGreatDoorB1
import Derived.Test.YtpghhfnlfmlakaaGreatDoorR1
namespace Go.Ab
open Go
set_option maxRecDepth 1000000
set_option maxHeartbeats 1000000
set_option linter.unusedVariables false
set_option linter.unusedSimpArgs false

attribute [local congr] bindC iterC

theorem k_within (n lo hi : Int) : optics_within n lo hi = some ((decide (lo ≤ n ∧ n ≤ hi), ()), ()) := by
  simp only [optics_within, T_optics_within, r_br, r_ret]
  by_cases h : lo ≤ n <;> simp [h]
theorem k_Within (n lo hi : Int) : base_Within n lo hi = some ((decide (lo ≤ n ∧ n ≤ hi), ()), ()) := by
  simp only [base_Within, T_base_Within, r_br, r_ret]
  by_cases h : lo ≤ n <;> simp [h]
theorem awake_ok : law02xawake = some ((true, ()), ()) := by kernel_rfl
theorem k_small {n m : Int} (h : -9223372036854775807 ≤ m) (h2 : m ≤ 9223372036854775807) : optics_small n m = some ((decide (-m ≤ n ∧ n ≤ m), ()), ()) := by
  simp only [optics_small, T_optics_small]
  simp (maxSteps := 1000000) (disch := first | omega | assumption) only [↓r_ret, ↓r_fail, ↓r_br, ↓r_bind, ↓r_iter, ↓r_req, decide_eq_true_eq, Bool.not_eq_eq_eq_not, decide_eq_false_iff_not, ite_not, inB_t', app_t', bnd_t', str_t', nz_t, Int.reduceEq, Int.reduceLT, Int.reduceLE, w64', Option.bind_some, Option.bind_none, List.length_cons, List.length_nil, List.length_append, Nat.zero_add, if_pos, if_neg, decide_true, decide_false, if_true, if_false, Bool.not_true, Bool.not_false, Bool.false_eq_true, Bool.true_eq_false, not_true_eq_false, not_false_eq_true, ↓reduceIte, List.nil_append, k_within, Int.zero_sub]
theorem k_owhole (n : Int) : optics_whole n = some (((n, 1), ()), ()) := by simp only [optics_whole, T_optics_whole, r_ret]
theorem k_Abs {n : Int} (h : -9223372036854775807 ≤ n) (h2 : n ≤ 9223372036854775807) : base_Abs n = some ((max n (-n), ()), ()) := by
  simp only [base_Abs, T_base_Abs, r_br, r_ret]
  by_cases h : n < 0
  · simp only [h, decide_true, if_true]; rw [w64' (by omega) (by omega)]; congr 3; omega
  · simp only [h, decide_false, Bool.false_eq_true, if_false]; congr 3; omega

theorem tmod_lt {a b : Int} (h : b ≠ 0) : (a.tmod b).natAbs < b.natAbs := by
  rw [Int.natAbs_tmod]; exact Nat.mod_lt _ (by omega)
theorem k_Gcd {a b : Int} (h1 : -9223372036854775808 ≤ a) (h2 : a ≤ 9223372036854775807) (h3 : -9223372036854775807 ≤ b) (h4 : b ≤ 9223372036854775807) (h5 : b = 0 → -9223372036854775807 ≤ a) :
    base_Gcd a b = some ((G a b, ()), ()) := by
  simp only [base_Gcd, T_base_Gcd, r_iter]
  refine iter_eq (fun i x => ∃ c d : Int, x = (c, d, ()) ∧ G c d = G a b ∧ -9223372036854775808 ≤ c ∧ c ≤ 9223372036854775807 ∧ -9223372036854775807 ≤ d ∧ d ≤ 9223372036854775807 ∧ (d = 0 → -9223372036854775807 ≤ c) ∧ d.natAbs + i ≤ b.natAbs) _ b.natAbs (by omega) ?_ ⟨a, b, rfl, rfl, h1, h2, h3, h4, h5, by omega⟩
  rintro i x hi ⟨c, d, rfl, hg, c1, c2, c3, c4, c5, hd⟩
  simp only [T_base_Gcd_l0, r_br]
  by_cases hz : d = 0
  · right
    subst hz
    simp only [decide_true, Bool.not_true, Bool.false_eq_true, if_false, r_bind, r_ret]
    rw [k_Abs (c5 rfl) c2, ← hg, G_zero]
    simp only [Option.bind_some, r_ret]
  · left
    have hl := tmod_lt (a := c) hz
    refine ⟨_, by simp only [hz, decide_false, Bool.not_false, if_true, r_req, nz_t hz, r_ret], by omega, d, c.tmod d, rfl, by rw [← hg, ← G_tmod], by omega, by omega, by omega, by omega, by omega, by omega⟩
theorem k_ogcd {a b : Int} (h1 : -9223372036854775808 ≤ a) (h2 : a ≤ 9223372036854775807) (h3 : -9223372036854775807 ≤ b) (h4 : b ≤ 9223372036854775807) (h5 : b = 0 → -9223372036854775807 ≤ a) :
    optics_gcd a b = some ((G a b, ()), ()) := by
  simp only [optics_gcd, T_optics_gcd, r_iter]
  refine iter_eq (fun i x => ∃ c d : Int, x = (c, d, ()) ∧ G c d = G a b ∧ -9223372036854775808 ≤ c ∧ c ≤ 9223372036854775807 ∧ -9223372036854775807 ≤ d ∧ d ≤ 9223372036854775807 ∧ (d = 0 → -9223372036854775807 ≤ c) ∧ d.natAbs + i ≤ b.natAbs) _ b.natAbs (by omega) ?_ ⟨a, b, rfl, rfl, h1, h2, h3, h4, h5, by omega⟩
  rintro i x hi ⟨c, d, rfl, hg, c1, c2, c3, c4, c5, hd⟩
  simp only [T_optics_gcd_l0, r_br]
  by_cases hz : d = 0
  · right
    subst hz
    simp only [decide_true, Bool.not_true, Bool.false_eq_true, if_false, r_ret]
    rw [← hg, G_zero, w64' (by omega) (by omega), Int.zero_sub]
  · left
    have hl := tmod_lt (a := c) hz
    refine ⟨_, by simp only [hz, decide_false, Bool.not_false, if_true, r_req, nz_t hz, r_ret], by omega, d, c.tmod d, rfl, by rw [← hg, ← G_tmod], by omega, by omega, by omega, by omega, by omega, by omega⟩

/-- A number of 64 bits. -/

theorem k_IsLowest {f : Int × Int} (h1 : I64 f.1) (h2 : I64 f.2) : base_IsLowest f = some ((decide (IsLow f), ()), ()) := by
  simp only [I64] at h1 h2
  simp only [base_IsLowest, T_base_IsLowest]
  by_cases h : 0 < f.2
  · have e : decide (IsLow f) = decide (G f.1 f.2 = 1) := decide_eq_decide.2 ⟨fun h => h.2, fun h' => ⟨h, h'⟩⟩
    simp (maxSteps := 1000000) (disch := first | omega | assumption) only [↓r_ret, ↓r_fail, ↓r_br, ↓r_bind, ↓r_iter, ↓r_req, decide_eq_true_eq, Bool.not_eq_eq_eq_not, decide_eq_false_iff_not, ite_not, inB_t', app_t', bnd_t', str_t', nz_t, Int.reduceEq, Int.reduceLT, Int.reduceLE, w64', Option.bind_some, Option.bind_none, List.length_cons, List.length_nil, List.length_append, Nat.zero_add, if_pos, if_neg, decide_true, decide_false, if_true, if_false, Bool.not_true, Bool.not_false, Bool.false_eq_true, Bool.true_eq_false, not_true_eq_false, not_false_eq_true, ↓reduceIte, List.nil_append, h, k_Gcd (a := f.1) (b := f.2) (by omega) (by omega) (by omega) (by omega) (by omega), e]
  · have e : ¬ IsLow f := fun h' => h h'.1
    simp (maxSteps := 1000000) (disch := first | omega | assumption) only [↓r_ret, ↓r_fail, ↓r_br, ↓r_bind, ↓r_iter, ↓r_req, decide_eq_true_eq, Bool.not_eq_eq_eq_not, decide_eq_false_iff_not, ite_not, inB_t', app_t', bnd_t', str_t', nz_t, Int.reduceEq, Int.reduceLT, Int.reduceLE, w64', Option.bind_some, Option.bind_none, List.length_cons, List.length_nil, List.length_append, Nat.zero_add, if_pos, if_neg, decide_true, decide_false, if_true, if_false, Bool.not_true, Bool.not_false, Bool.false_eq_true, Bool.true_eq_false, not_true_eq_false, not_false_eq_true, ↓reduceIte, List.nil_append, h, e]
end Go.Ab
