/- Fractions of the program and of the reference of chapter 1. -/
import Derived.Test.YtgncmamcgplcgaaQ1
import Derived.Test.YtgncmamcgplcgaaB1
import Derived.Test.YtgncmamcgplcgaaG3
namespace Go.Ab
open Go
set_option maxRecDepth 1000000
set_option maxHeartbeats 1000000
set_option linter.unusedVariables false
set_option linter.unusedSimpArgs false
attribute [local congr] bindC iterC

theorem awake_ok : law01xawake = some ((true, ()), ()) := by kernel_rfl
theorem nd {p : Prop} [Decidable p] (h : p) : (!decide p) = false := by simp [h]
theorem nd' {p : Prop} [Decidable p] (h : ¬ p) : (!decide p) = true := by simp [h]
theorem k_between (n lo hi : Int) : number_between n lo hi = some ((decide (lo ≤ n ∧ n ≤ hi), ()), ()) := by
  simp only [number_between, T_number_between, r_br, r_ret]
  by_cases h : lo ≤ n <;> simp [h]
theorem k_Within (n lo hi : Int) : base_Within n lo hi = some ((decide (lo ≤ n ∧ n ≤ hi), ()), ()) := by
  simp only [base_Within, T_base_Within, r_br, r_ret]
  by_cases h : lo ≤ n <;> simp [h]
theorem k_Abs {n : Int} (h : -9223372036854775807 ≤ n) (h2 : n ≤ 9223372036854775807) : base_Abs n = some ((max n (-n), ()), ()) := by
  simp only [base_Abs, T_base_Abs, r_br, r_ret]
  by_cases h : n < 0
  · simp only [h, decide_true, if_true]; rw [w64' (by omega) (by omega)]; congr 3; omega
  · simp only [h, decide_false, Bool.false_eq_true, if_false]; congr 3; omega
theorem tmod_lt {a b : Int} (h : b ≠ 0) : (a.tmod b).natAbs < b.natAbs := by
  rw [Int.natAbs_tmod]; exact Nat.mod_lt _ (by omega)
theorem max_wrap {a : Int} (h : -9223372036854775807 ≤ a) (h2 : a ≤ 9223372036854775807) : (if false = true then min a (IntKind.i64.wrap (0 - a)) else max a (IntKind.i64.wrap (0 - a))) = max a (-a) := by
  rw [if_neg (by decide), w64' (by omega) (by omega), Int.zero_sub]
theorem k_divisorF : ∀ (n : Nat) (a b : Int), b.natAbs < n → -9223372036854775808 ≤ a → a ≤ 9223372036854775807 → -9223372036854775807 ≤ b → b ≤ 9223372036854775807 → (b = 0 → -9223372036854775807 ≤ a) →
    number_divisorF n a b = some ((G a b, ()), ())
  | 0, a, b, h, _, _, _, _, _ => by omega
  | n + 1, a, b, h, h1, h2, h3, h4, h5 => by
    show (T_number_divisor (number_divisorF n) a b).run = _
    simp only [T_number_divisor, r_br]
    by_cases hb : b = 0
    · subst hb
      simp only [decide_true, if_true, r_ret]
      rw [max_wrap (h5 rfl) h2, G_zero]
    · have hl := tmod_lt (a := a) hb
      simp only [hb, decide_false, Bool.false_eq_true, if_false, r_req, nz_t hb, if_true, r_bind]
      rw [k_divisorF n b (a.tmod b) (by omega) (by omega) (by omega) (by omega) (by omega) (by omega)]
      simp only [Option.bind_some, r_ret]
      rw [← G_tmod]
theorem k_divisor {a b : Int} (h1 : -9223372036854775808 ≤ a) (h2 : a ≤ 9223372036854775807) (h3 : -9223372036854775807 ≤ b) (h4 : b ≤ 9223372036854775807) (h5 : b = 0 → -9223372036854775807 ≤ a) :
    number_divisor a b = some ((G a b, ()), ()) := k_divisorF _ a b (by have := fuel_big; omega) h1 h2 h3 h4 h5
theorem k_Gcd {a b : Int} (h1 : -9223372036854775808 ≤ a) (h2 : a ≤ 9223372036854775807) (h3 : -9223372036854775807 ≤ b) (h4 : b ≤ 9223372036854775807) (h5 : b = 0 → -9223372036854775807 ≤ a) :
    base_Gcd a b = some ((G a b, ()), ()) := by
  simp only [base_Gcd, T_base_Gcd, r_iter]
  refine iter_eq (fun i x => ∃ c d : Int, x = (c, d, ()) ∧ G c d = G a b ∧ -9223372036854775808 ≤ c ∧ c ≤ 9223372036854775807 ∧ -9223372036854775807 ≤ d ∧ d ≤ 9223372036854775807 ∧ (d = 0 → -9223372036854775807 ≤ c) ∧ d.natAbs + i ≤ b.natAbs) _ b.natAbs (by omega) ?_ ⟨a, b, rfl, rfl, h1, h2, h3, h4, h5, by omega⟩
  rintro i x hi ⟨c, d, rfl, hg, c1, c2, c3, c4, c5, hd⟩
  simp only [T_base_Gcd_l0, r_br]
  by_cases hz : d = 0
  · right
    subst hz
    simp only [decide_true, Bool.not_true, Bool.false_eq_true, if_false, r_bind, r_ret]
    rw [k_Abs (c5 rfl) c2, ← hg, G_zero]
    simp only [Option.bind_some, r_ret]
  · left
    have hl := tmod_lt (a := c) hz
    refine ⟨_, by simp only [hz, decide_false, Bool.not_false, if_true, r_req, nz_t hz, r_ret], by omega, d, c.tmod d, rfl, by rw [← hg, ← G_tmod], by omega, by omega, by omega, by omega, by omega, by omega⟩
/-- A number of 64 bits. -/
theorem k_CheckFrac {f : Int × Int} (h1 : I64 f.1) (h2 : I64 f.2) : number_CheckFrac f = some ((cfE f, ()), ()) := by
  simp only [I64] at h1 h2
  simp only [number_CheckFrac, T_number_CheckFrac, cfE]
  by_cases h : f.2 < 1
  · have e : ¬ IsLow f := fun h' => by have := h'.1; omega
    simp (maxSteps := 1000000) (disch := first | omega | assumption) only [↓r_ret, ↓r_fail, ↓r_br, ↓r_bind, ↓r_iter, ↓r_req, decide_eq_true_eq, Bool.not_eq_eq_eq_not, decide_eq_false_iff_not, ite_not, inB_t', app_t', bnd_t', str_t', nz_t, Int.reduceEq, Int.reduceLT, Int.reduceLE, w64', Option.bind_some, Option.bind_none, List.length_cons, List.length_nil, List.length_append, Nat.zero_add, if_pos, if_neg, decide_true, decide_false, if_true, if_false, Bool.not_true, Bool.not_false, Bool.false_eq_true, Bool.true_eq_false, not_true_eq_false, not_false_eq_true, ↓reduceIte, List.nil_append, h, e]
  · have kd := k_divisor (a := f.1) (b := f.2) (by omega) (by omega) (by omega) (by omega) (by omega)
    by_cases hg : G f.1 f.2 = 1
    · have e : IsLow f := ⟨by omega, hg⟩
      by_cases h3 : -1000000000 ≤ f.1 ∧ f.1 ≤ 1000000000
      · by_cases h4 : f.2 ≤ 1000000000
        · have h5 : ¬ 1000000000 < f.2 := by omega
          simp (maxSteps := 1000000) (disch := first | omega | assumption) only [↓r_ret, ↓r_fail, ↓r_br, ↓r_bind, ↓r_iter, ↓r_req, decide_eq_true_eq, Bool.not_eq_eq_eq_not, decide_eq_false_iff_not, ite_not, inB_t', app_t', bnd_t', str_t', nz_t, Int.reduceEq, Int.reduceLT, Int.reduceLE, w64', Option.bind_some, Option.bind_none, List.length_cons, List.length_nil, List.length_append, Nat.zero_add, if_pos, if_neg, decide_true, decide_false, if_true, if_false, Bool.not_true, Bool.not_false, Bool.false_eq_true, Bool.true_eq_false, not_true_eq_false, not_false_eq_true, ↓reduceIte, List.nil_append, h, kd, hg, k_between, h3, h4, h5, e, and_self]
        · have h5 : 1000000000 < f.2 := by omega
          simp (maxSteps := 1000000) (disch := first | omega | assumption) only [↓r_ret, ↓r_fail, ↓r_br, ↓r_bind, ↓r_iter, ↓r_req, decide_eq_true_eq, Bool.not_eq_eq_eq_not, decide_eq_false_iff_not, ite_not, inB_t', app_t', bnd_t', str_t', nz_t, Int.reduceEq, Int.reduceLT, Int.reduceLE, w64', Option.bind_some, Option.bind_none, List.length_cons, List.length_nil, List.length_append, Nat.zero_add, if_pos, if_neg, decide_true, decide_false, if_true, if_false, Bool.not_true, Bool.not_false, Bool.false_eq_true, Bool.true_eq_false, not_true_eq_false, not_false_eq_true, ↓reduceIte, List.nil_append, h, kd, hg, k_between, h3, h4, h5, e, and_self, and_false]
      · simp (maxSteps := 1000000) (disch := first | omega | assumption) only [↓r_ret, ↓r_fail, ↓r_br, ↓r_bind, ↓r_iter, ↓r_req, decide_eq_true_eq, Bool.not_eq_eq_eq_not, decide_eq_false_iff_not, ite_not, inB_t', app_t', bnd_t', str_t', nz_t, Int.reduceEq, Int.reduceLT, Int.reduceLE, w64', Option.bind_some, Option.bind_none, List.length_cons, List.length_nil, List.length_append, Nat.zero_add, if_pos, if_neg, decide_true, decide_false, if_true, if_false, Bool.not_true, Bool.not_false, Bool.false_eq_true, Bool.true_eq_false, not_true_eq_false, not_false_eq_true, ↓reduceIte, List.nil_append, h, kd, hg, k_between, h3, e, false_and]
    · have e : ¬ IsLow f := fun h' => hg h'.2
      simp (maxSteps := 1000000) (disch := first | omega | assumption) only [↓r_ret, ↓r_fail, ↓r_br, ↓r_bind, ↓r_iter, ↓r_req, decide_eq_true_eq, Bool.not_eq_eq_eq_not, decide_eq_false_iff_not, ite_not, inB_t', app_t', bnd_t', str_t', nz_t, Int.reduceEq, Int.reduceLT, Int.reduceLE, w64', Option.bind_some, Option.bind_none, List.length_cons, List.length_nil, List.length_append, Nat.zero_add, if_pos, if_neg, decide_true, decide_false, if_true, if_false, Bool.not_true, Bool.not_false, Bool.false_eq_true, Bool.true_eq_false, not_true_eq_false, not_false_eq_true, ↓reduceIte, List.nil_append, h, kd, hg, e]
theorem k_checkFracs {l : List (Int × Int)} (hl : l.length ≤ 1099511627776) (h : ∀ i : Nat, i < l.length → I64 (gi l i).1 ∧ I64 (gi l i).2) : number_checkFracs l = some ((firstErr (fun i => cfE (gi l i)) l.length, ()), ()) := by
  simp only [number_checkFracs, T_number_checkFracs, r_iter]
  refine iter_err (fun i => ((i : Int), ())) (fun i => cfE (gi l i)) l.length (by omega) (fun e => ((e, ()), ())) ?_ ?_ ?_
  · intro i hi _ hc
    have hk := k_CheckFrac (h i hi).1 (h i hi).2
    simp only [T_number_checkFracs_l0]
    simp (maxSteps := 1000000) (disch := first | omega | assumption) only [↓r_ret, ↓r_fail, ↓r_br, ↓r_bind, ↓r_iter, ↓r_req, decide_eq_true_eq, Bool.not_eq_eq_eq_not, decide_eq_false_iff_not, ite_not, inB_t', app_t', bnd_t', str_t', nz_t, Int.reduceEq, Int.reduceLT, Int.reduceLE, w64', Option.bind_some, Option.bind_none, List.length_cons, List.length_nil, List.length_append, Nat.zero_add, if_pos, if_neg, decide_true, decide_false, if_true, if_false, Bool.not_true, Bool.not_false, Bool.false_eq_true, Bool.true_eq_false, not_true_eq_false, not_false_eq_true, ↓reduceIte, List.nil_append, hk, hc, eta2]
  · intro i hi _ hc
    have hk := k_CheckFrac (h i hi).1 (h i hi).2
    simp only [T_number_checkFracs_l0]
    simp (maxSteps := 1000000) (disch := first | omega | assumption) only [↓r_ret, ↓r_fail, ↓r_br, ↓r_bind, ↓r_iter, ↓r_req, decide_eq_true_eq, Bool.not_eq_eq_eq_not, decide_eq_false_iff_not, ite_not, inB_t', app_t', bnd_t', str_t', nz_t, Int.reduceEq, Int.reduceLT, Int.reduceLE, w64', Option.bind_some, Option.bind_none, List.length_cons, List.length_nil, List.length_append, Nat.zero_add, if_pos, if_neg, decide_true, decide_false, if_true, if_false, Bool.not_true, Bool.not_false, Bool.false_eq_true, Bool.true_eq_false, not_true_eq_false, not_false_eq_true, ↓reduceIte, List.nil_append, hk, hc, eta2]
    rfl
  · intro _
    simp only [T_number_checkFracs_l0]
    simp (maxSteps := 1000000) (disch := first | omega | assumption) only [↓r_ret, ↓r_fail, ↓r_br, ↓r_bind, ↓r_iter, ↓r_req, decide_eq_true_eq, Bool.not_eq_eq_eq_not, decide_eq_false_iff_not, ite_not, inB_t', app_t', bnd_t', str_t', nz_t, Int.reduceEq, Int.reduceLT, Int.reduceLE, w64', Option.bind_some, Option.bind_none, List.length_cons, List.length_nil, List.length_append, Nat.zero_add, if_pos, if_neg, decide_true, decide_false, if_true, if_false, Bool.not_true, Bool.not_false, Bool.false_eq_true, Bool.true_eq_false, not_true_eq_false, not_false_eq_true, ↓reduceIte, List.nil_append, ]
theorem Small.i1 {f : Int × Int} (h : Small f) : I64 f.1 := by
  obtain ⟨_, h1, h2, h3⟩ := h
  exact ⟨by omega, by omega⟩
theorem Small.i2 {f : Int × Int} (h : Small f) : I64 f.2 := by
  obtain ⟨⟨h0, _⟩, h1, h2, h3⟩ := h
  exact ⟨by omega, by omega⟩
theorem k_check2 {a b : Int × Int} (ha : Small a) (hb : Small b) : number_checkFracs [a, b] = some ((0, ()), ()) := by
  rw [k_checkFracs (by simp) (by
    intro i hi
    simp only [List.length_cons, List.length_nil] at hi
    match i, hi with
    | 0, _ => exact ⟨ha.i1, ha.i2⟩
    | 1, _ => exact ⟨hb.i1, hb.i2⟩)]
  rw [firstErr_0]
  intro j hj
  simp only [List.length_cons, List.length_nil] at hj
  match j, hj with
  | 0, _ => exact cfE_of ha
  | 1, _ => exact cfE_of hb
theorem k_valid {n d : Int} (hd : d ≠ 0) (h1 : -9223372036854775807 ≤ n) (h2 : n ≤ 9223372036854775807) (h3 : -9223372036854775807 ≤ d) (h4 : d ≤ 9223372036854775807) :
    number_valid n d = some ((if Small (low n d) then low n d else (0, 0), if Small (low n d) then 0 else 8, ()), ()) := by
  have hp := G_pos (a := n) hd
  have hg := G_le (a := n) hd
  have kd := k_divisor (a := n) (b := d) (by omega) h2 h3 h4 (fun _ => h1)
  obtain ⟨b1, b2⟩ := low_bd (n := n) hd
  have i1 : I64 (low n d).1 := ⟨by omega, by omega⟩
  have i2 : I64 (low n d).2 := ⟨by omega, by omega⟩
  have kc := k_CheckFrac i1 i2
  have e0 : IntKind.i64.wrap (0 - G n d) = -G n d := by rw [w64' (by omega) (by omega)]; omega
  have e1 : IntKind.i64.wrap (low n d).1 = (low n d).1 := w64' i1.1 i1.2
  have e2 : IntKind.i64.wrap (low n d).2 = (low n d).2 := w64' i2.1 i2.2
  simp only [number_valid, T_number_valid]
  by_cases h : d < 0
  · have el : low n d = (n.tdiv (-G n d), d.tdiv (-G n d)) := if_pos h
    have f1 : n.tdiv (-G n d) = (low n d).1 := by rw [el]
    have f2 : d.tdiv (-G n d) = (low n d).2 := by rw [el]
    have nz0 : -G n d ≠ 0 := by omega
    by_cases hs : Small (low n d)
    · have := cfE_of hs
      simp (maxSteps := 1000000) (disch := first | omega | assumption) only [↓r_ret, ↓r_fail, ↓r_br, ↓r_bind, ↓r_iter, ↓r_req, decide_eq_true_eq, Bool.not_eq_eq_eq_not, decide_eq_false_iff_not, ite_not, inB_t', app_t', bnd_t', str_t', nz_t, Int.reduceEq, Int.reduceLT, Int.reduceLE, w64', Option.bind_some, Option.bind_none, List.length_cons, List.length_nil, List.length_append, Nat.zero_add, if_pos, if_neg, decide_true, decide_false, if_true, if_false, Bool.not_true, Bool.not_false, Bool.false_eq_true, Bool.true_eq_false, not_true_eq_false, not_false_eq_true, ↓reduceIte, List.nil_append, kd, h, e0, f1, f2, e1, e2, kc, hs, this, eta2]
    · have : ¬ cfE (low n d) = 0 := fun h => hs (cfE_zero.1 h)
      simp (maxSteps := 1000000) (disch := first | omega | assumption) only [↓r_ret, ↓r_fail, ↓r_br, ↓r_bind, ↓r_iter, ↓r_req, decide_eq_true_eq, Bool.not_eq_eq_eq_not, decide_eq_false_iff_not, ite_not, inB_t', app_t', bnd_t', str_t', nz_t, Int.reduceEq, Int.reduceLT, Int.reduceLE, w64', Option.bind_some, Option.bind_none, List.length_cons, List.length_nil, List.length_append, Nat.zero_add, if_pos, if_neg, decide_true, decide_false, if_true, if_false, Bool.not_true, Bool.not_false, Bool.false_eq_true, Bool.true_eq_false, not_true_eq_false, not_false_eq_true, ↓reduceIte, List.nil_append, kd, h, e0, f1, f2, e1, e2, kc, hs, this, eta2]
  · have el : low n d = (n.tdiv (G n d), d.tdiv (G n d)) := if_neg h
    have f1 : n.tdiv (G n d) = (low n d).1 := by rw [el]
    have f2 : d.tdiv (G n d) = (low n d).2 := by rw [el]
    have nz0 : G n d ≠ 0 := by omega
    by_cases hs : Small (low n d)
    · have := cfE_of hs
      simp (maxSteps := 1000000) (disch := first | omega | assumption) only [↓r_ret, ↓r_fail, ↓r_br, ↓r_bind, ↓r_iter, ↓r_req, decide_eq_true_eq, Bool.not_eq_eq_eq_not, decide_eq_false_iff_not, ite_not, inB_t', app_t', bnd_t', str_t', nz_t, Int.reduceEq, Int.reduceLT, Int.reduceLE, w64', Option.bind_some, Option.bind_none, List.length_cons, List.length_nil, List.length_append, Nat.zero_add, if_pos, if_neg, decide_true, decide_false, if_true, if_false, Bool.not_true, Bool.not_false, Bool.false_eq_true, Bool.true_eq_false, not_true_eq_false, not_false_eq_true, ↓reduceIte, List.nil_append, kd, h, f1, f2, e1, e2, kc, hs, this, eta2]
    · have : ¬ cfE (low n d) = 0 := fun h => hs (cfE_zero.1 h)
      simp (maxSteps := 1000000) (disch := first | omega | assumption) only [↓r_ret, ↓r_fail, ↓r_br, ↓r_bind, ↓r_iter, ↓r_req, decide_eq_true_eq, Bool.not_eq_eq_eq_not, decide_eq_false_iff_not, ite_not, inB_t', app_t', bnd_t', str_t', nz_t, Int.reduceEq, Int.reduceLT, Int.reduceLE, w64', Option.bind_some, Option.bind_none, List.length_cons, List.length_nil, List.length_append, Nat.zero_add, if_pos, if_neg, decide_true, decide_false, if_true, if_false, Bool.not_true, Bool.not_false, Bool.false_eq_true, Bool.true_eq_false, not_true_eq_false, not_false_eq_true, ↓reduceIte, List.nil_append, kd, h, f1, f2, e1, e2, kc, hs, this, eta2]
theorem k_Lowest {n d : Int} (hd : d ≠ 0) (h1 : -9223372036854775807 ≤ n) (h2 : n ≤ 9223372036854775807) (h3 : -9223372036854775807 ≤ d) (h4 : d ≤ 9223372036854775807) :
    base_Lowest n d = some ((low n d, ()), ()) := by
  have hp := G_pos (a := n) hd
  have hg := G_le (a := n) hd
  have kd := k_Gcd (a := n) (b := d) (by omega) h2 h3 h4 (fun _ => h1)
  obtain ⟨b1, b2⟩ := low_bd (n := n) hd
  have e0 : IntKind.i64.wrap (0 - G n d) = -G n d := by rw [w64' (by omega) (by omega)]; omega
  have e1 : IntKind.i64.wrap (low n d).1 = (low n d).1 := w64' (by omega) (by omega)
  have e2 : IntKind.i64.wrap (low n d).2 = (low n d).2 := w64' (by omega) (by omega)
  simp only [base_Lowest, T_base_Lowest]
  by_cases h : d < 0
  · have el : low n d = (n.tdiv (-G n d), d.tdiv (-G n d)) := if_pos h
    have f1 : n.tdiv (-G n d) = (low n d).1 := by rw [el]
    have f2 : d.tdiv (-G n d) = (low n d).2 := by rw [el]
    have nz0 : -G n d ≠ 0 := by omega
    simp (maxSteps := 1000000) (disch := first | omega | assumption) only [↓r_ret, ↓r_fail, ↓r_br, ↓r_bind, ↓r_iter, ↓r_req, decide_eq_true_eq, Bool.not_eq_eq_eq_not, decide_eq_false_iff_not, ite_not, inB_t', app_t', bnd_t', str_t', nz_t, Int.reduceEq, Int.reduceLT, Int.reduceLE, w64', Option.bind_some, Option.bind_none, List.length_cons, List.length_nil, List.length_append, Nat.zero_add, if_pos, if_neg, decide_true, decide_false, if_true, if_false, Bool.not_true, Bool.not_false, Bool.false_eq_true, Bool.true_eq_false, not_true_eq_false, not_false_eq_true, ↓reduceIte, List.nil_append, kd, h, e0, f1, f2, e1, e2, eta2]
  · have el : low n d = (n.tdiv (G n d), d.tdiv (G n d)) := if_neg h
    have f1 : n.tdiv (G n d) = (low n d).1 := by rw [el]
    have f2 : d.tdiv (G n d) = (low n d).2 := by rw [el]
    have nz0 : G n d ≠ 0 := by omega
    simp (maxSteps := 1000000) (disch := first | omega | assumption) only [↓r_ret, ↓r_fail, ↓r_br, ↓r_bind, ↓r_iter, ↓r_req, decide_eq_true_eq, Bool.not_eq_eq_eq_not, decide_eq_false_iff_not, ite_not, inB_t', app_t', bnd_t', str_t', nz_t, Int.reduceEq, Int.reduceLT, Int.reduceLE, w64', Option.bind_some, Option.bind_none, List.length_cons, List.length_nil, List.length_append, Nat.zero_add, if_pos, if_neg, decide_true, decide_false, if_true, if_false, Bool.not_true, Bool.not_false, Bool.false_eq_true, Bool.true_eq_false, not_true_eq_false, not_false_eq_true, ↓reduceIte, List.nil_append, kd, h, f1, f2, e1, e2, eta2]
/-- The bounds of what small fractions make. -/
theorem Small.bds {a b : Int × Int} (ha : Small a) (hb : Small b) : (-1000000000000000000 ≤ a.1 * b.1 ∧ a.1 * b.1 ≤ 1000000000000000000) ∧ (-1000000000000000000 ≤ a.1 * b.2 ∧ a.1 * b.2 ≤ 1000000000000000000) ∧
    (-1000000000000000000 ≤ b.1 * a.2 ∧ b.1 * a.2 ≤ 1000000000000000000) ∧ (0 < a.2 * b.2 ∧ a.2 * b.2 ≤ 1000000000000000000) ∧ (-1000000000000000000 ≤ a.2 * b.1 ∧ a.2 * b.1 ≤ 1000000000000000000) := by
  obtain ⟨⟨a0, _⟩, a1, a2, a3⟩ := ha
  obtain ⟨⟨b0, _⟩, b1, b2, b3⟩ := hb
  have m1 := mul_bd a1 a2 b1 b2
  have m2 := mul_bd a1 a2 (show -1000000000 ≤ b.2 by omega) b3
  have m3 := mul_bd b1 b2 (show -1000000000 ≤ a.2 by omega) a3
  have m4 := mul_bd (show -1000000000 ≤ a.2 by omega) a3 (show -1000000000 ≤ b.2 by omega) b3
  have m5 := mul_bd (show -1000000000 ≤ a.2 by omega) a3 b1 b2
  have m6 := Int.mul_pos a0 b0
  omega
theorem k_Add {a b : Int × Int} (ha : Small a) (hb : Small b) : number_Add a b = some ((if Small (low (a.1 * b.2 + b.1 * a.2) (a.2 * b.2)) then low (a.1 * b.2 + b.1 * a.2) (a.2 * b.2) else (0, 0), if Small (low (a.1 * b.2 + b.1 * a.2) (a.2 * b.2)) then 0 else 8, ()), ()) := by
  have h := ha.bds hb
  have kv := k_valid (n := a.1 * b.2 + b.1 * a.2) (d := a.2 * b.2) (by omega) (by omega) (by omega) (by omega) (by omega)
  simp only [number_Add, T_number_Add]
  simp (maxSteps := 1000000) (disch := first | omega | assumption) only [↓r_ret, ↓r_fail, ↓r_br, ↓r_bind, ↓r_iter, ↓r_req, decide_eq_true_eq, Bool.not_eq_eq_eq_not, decide_eq_false_iff_not, ite_not, inB_t', app_t', bnd_t', str_t', nz_t, Int.reduceEq, Int.reduceLT, Int.reduceLE, w64', Option.bind_some, Option.bind_none, List.length_cons, List.length_nil, List.length_append, Nat.zero_add, if_pos, if_neg, decide_true, decide_false, if_true, if_false, Bool.not_true, Bool.not_false, Bool.false_eq_true, Bool.true_eq_false, not_true_eq_false, not_false_eq_true, ↓reduceIte, List.nil_append, k_check2 ha hb, kv, eta2]
end Go.Ab
