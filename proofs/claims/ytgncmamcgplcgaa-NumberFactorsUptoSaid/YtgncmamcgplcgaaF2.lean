/- NumberFracs. -/
import Derived.Test.YtgncmamcgplcgaaR1
import Derived.Test.YtgncmamcgplcgaaF1
namespace Go.Ab
open Go
set_option maxRecDepth 1000000
set_option maxHeartbeats 1000000
set_option linter.unusedVariables false
set_option linter.unusedSimpArgs false
attribute [local congr] bindC iterC

theorem k_rCheckFrac {f : Int × Int} (h1 : I64 f.1) (h2 : I64 f.2) : ref01xCheckFrac f = some ((cfE f, ()), ()) := by
  simp only [I64] at h1 h2
  simp only [ref01xCheckFrac, T_ref01xCheckFrac, cfE]
  by_cases h : f.2 < 1
  · have e : ¬ IsLow f := fun h' => by have := h'.1; omega
    simp (maxSteps := 1000000) (disch := first | omega | assumption) only [↓r_ret, ↓r_fail, ↓r_br, ↓r_bind, ↓r_iter, ↓r_req, decide_eq_true_eq, Bool.not_eq_eq_eq_not, decide_eq_false_iff_not, ite_not, inB_t', app_t', bnd_t', str_t', nz_t, Int.reduceEq, Int.reduceLT, Int.reduceLE, w64', Option.bind_some, Option.bind_none, List.length_cons, List.length_nil, List.length_append, Nat.zero_add, if_pos, if_neg, decide_true, decide_false, if_true, if_false, Bool.not_true, Bool.not_false, Bool.false_eq_true, Bool.true_eq_false, not_true_eq_false, not_false_eq_true, ↓reduceIte, List.nil_append, h, e]
  · have kd := k_Gcd (a := f.1) (b := f.2) (by omega) (by omega) (by omega) (by omega) (by omega)
    refine (br_f (decide_eq_false h)).trans ?_
    refine (r_bs kd).trans ?_
    by_cases hg : G f.1 f.2 = 1
    · have e : IsLow f := ⟨by omega, hg⟩
      rw [if_pos e]
      refine (br_f (nd hg)).trans ?_
      by_cases h3 : f.1 < -1000000000
      · rw [if_neg (by omega)]
        refine (br_t (decide_eq_true h3)).trans (r_ret _)
      refine (br_f (decide_eq_false h3)).trans ?_
      by_cases h4 : 1000000000 < f.1
      · rw [if_neg (by omega)]
        refine (br_t (decide_eq_true h4)).trans (r_ret _)
      refine (br_f (decide_eq_false h4)).trans ?_
      by_cases h5 : 1000000000 < f.2
      · rw [if_neg (by omega)]
        refine (br_t (decide_eq_true h5)).trans (r_ret _)
      refine (br_f (decide_eq_false h5)).trans ?_
      rw [if_pos (by omega)]
      exact r_ret _
    · have e : ¬ IsLow f := fun h' => hg h'.2
      rw [if_neg e]
      exact (br_t (nd' hg)).trans (r_ret _)
theorem k_fracs {l : List (Int × Int)} (hl : l.length ≤ 1099511627776) (h : ∀ i : Nat, i < l.length → I64 (gi l i).1 ∧ I64 (gi l i).2) : law01xfracs l = some ((firstErr (fun i => cfE (gi l i)) l.length, ()), ()) := by
  simp only [law01xfracs, T_law01xfracs, r_iter]
  refine iter_err (fun i => ((i : Int), ())) (fun i => cfE (gi l i)) l.length (by omega) (fun e => ((e, ()), ())) ?_ ?_ ?_
  · intro i hi _ hc
    have hk := k_rCheckFrac (h i hi).1 (h i hi).2
    simp only [T_law01xfracs_l0]
    simp (maxSteps := 1000000) (disch := first | omega | assumption) only [↓r_ret, ↓r_fail, ↓r_br, ↓r_bind, ↓r_iter, ↓r_req, decide_eq_true_eq, Bool.not_eq_eq_eq_not, decide_eq_false_iff_not, ite_not, inB_t', app_t', bnd_t', str_t', nz_t, Int.reduceEq, Int.reduceLT, Int.reduceLE, w64', Option.bind_some, Option.bind_none, List.length_cons, List.length_nil, List.length_append, Nat.zero_add, if_pos, if_neg, decide_true, decide_false, if_true, if_false, Bool.not_true, Bool.not_false, Bool.false_eq_true, Bool.true_eq_false, not_true_eq_false, not_false_eq_true, ↓reduceIte, List.nil_append, hk, hc, eta2]
  · intro i hi _ hc
    have hk := k_rCheckFrac (h i hi).1 (h i hi).2
    simp only [T_law01xfracs_l0]
    simp (maxSteps := 1000000) (disch := first | omega | assumption) only [↓r_ret, ↓r_fail, ↓r_br, ↓r_bind, ↓r_iter, ↓r_req, decide_eq_true_eq, Bool.not_eq_eq_eq_not, decide_eq_false_iff_not, ite_not, inB_t', app_t', bnd_t', str_t', nz_t, Int.reduceEq, Int.reduceLT, Int.reduceLE, w64', Option.bind_some, Option.bind_none, List.length_cons, List.length_nil, List.length_append, Nat.zero_add, if_pos, if_neg, decide_true, decide_false, if_true, if_false, Bool.not_true, Bool.not_false, Bool.false_eq_true, Bool.true_eq_false, not_true_eq_false, not_false_eq_true, ↓reduceIte, List.nil_append, hk, hc, eta2]
    rfl
  · intro _
    simp only [T_law01xfracs_l0]
    simp (maxSteps := 1000000) (disch := first | omega | assumption) only [↓r_ret, ↓r_fail, ↓r_br, ↓r_bind, ↓r_iter, ↓r_req, decide_eq_true_eq, Bool.not_eq_eq_eq_not, decide_eq_false_iff_not, ite_not, inB_t', app_t', bnd_t', str_t', nz_t, Int.reduceEq, Int.reduceLT, Int.reduceLE, w64', Option.bind_some, Option.bind_none, List.length_cons, List.length_nil, List.length_append, Nat.zero_add, if_pos, if_neg, decide_true, decide_false, if_true, if_false, Bool.not_true, Bool.not_false, Bool.false_eq_true, Bool.true_eq_false, not_true_eq_false, not_false_eq_true, ↓reduceIte, List.nil_append, ]

/-- The first error of two fractions. -/
def e2 (a b : Int × Int) : Int := if cfE a = 0 then cfE b else cfE a
theorem first2 (a b : Int × Int) : firstErr (fun i => cfE (gi [a, b] (i : Int))) 2 = e2 a b := by
  show (if (if (0 : Int) ≠ 0 then (0 : Int) else cfE a) ≠ 0 then (if (0 : Int) ≠ 0 then (0 : Int) else cfE a) else cfE b) = _
  unfold e2
  by_cases h : cfE a = 0 <;> simp [h]
theorem i64s {a b : Int × Int} (h1 : I64 a.1) (h2 : I64 a.2) (h3 : I64 b.1) (h4 : I64 b.2) : ∀ i : Nat, i < [a, b].length → I64 (gi [a, b] (i : Int)).1 ∧ I64 (gi [a, b] (i : Int)).2 := by
  intro i hi
  simp only [List.length_cons, List.length_nil] at hi
  match i, hi with
  | 0, _ => exact ⟨h1, h2⟩
  | 1, _ => exact ⟨h3, h4⟩
theorem k_fr2 {a b : Int × Int} (h1 : I64 a.1) (h2 : I64 a.2) (h3 : I64 b.1) (h4 : I64 b.2) : law01xfracs [a, b] = some ((e2 a b, ()), ()) := by
  rw [k_fracs (by simp) (i64s h1 h2 h3 h4)]
  show some ((firstErr _ 2, ()), ()) = _
  rw [first2]
theorem k_ck2 {a b : Int × Int} (h1 : I64 a.1) (h2 : I64 a.2) (h3 : I64 b.1) (h4 : I64 b.2) : number_checkFracs [a, b] = some ((e2 a b, ()), ()) := by
  rw [k_checkFracs (by simp) (i64s h1 h2 h3 h4)]
  show some ((firstErr _ 2, ()), ()) = _
  rw [first2]

/-- A fraction made of two numbers, or the error. -/
def mkF (n d : Int) : (Int × Int) × Int × Unit := (if Small (low n d) then low n d else (0, 0), if Small (low n d) then 0 else 8, ())
section
variable {a b : Int × Int} (h1 : I64 a.1) (h2 : I64 a.2) (h3 : I64 b.1) (h4 : I64 b.2) (h : e2 a b ≠ 0)
include h1 h2 h3 h4 h
theorem k_Add_e : number_Add a b = some (((0, 0), e2 a b, ()), ()) := by
  simp only [number_Add, T_number_Add]
  refine (r_bs (k_ck2 h1 h2 h3 h4)).trans ?_
  exact (br_t (nd' h)).trans (r_ret _)
end
theorem e2_zero {a b : Int × Int} (h : e2 a b = 0) : Small a ∧ Small b := by
  unfold e2 at h
  split at h
  · rename_i h'; exact ⟨cfE_zero.1 h', cfE_zero.1 h⟩
  · contradiction
def cmpI (x y : Int) : Int := if x < y then -1 else if y < x then 1 else 0
theorem k_bCmp {a b : Int × Int} (ha : Small a) (hb : Small b) : base_Cmp a b = some ((cmpI (a.1 * b.2) (b.1 * a.2), ()), ()) := by
  have h := ha.bds hb
  simp only [base_Cmp, T_base_Cmp, cmpI]
  rw [w64' (x := a.1 * b.2) (by omega) (by omega), w64' (x := b.1 * a.2) (by omega) (by omega)]
  by_cases h : a.1 * b.2 < b.1 * a.2
  · rw [if_pos h]; exact (br_t (decide_eq_true h)).trans (r_ret _)
  · rw [if_neg h]
    refine (br_f (decide_eq_false h)).trans ?_
    by_cases h' : b.1 * a.2 < a.1 * b.2
    · rw [if_pos h']; exact (br_t (decide_eq_true h')).trans (r_ret _)
    · rw [if_neg h']; exact (br_f (decide_eq_false h')).trans (r_ret _)
theorem same2 (p q : Int) : (!(decide (p = p) && decide (q = q))) = false := by simp
theorem same2' (p q : Int) : (decide (p = p) && decide (q = q)) = true := by simp

end Go.Ab
