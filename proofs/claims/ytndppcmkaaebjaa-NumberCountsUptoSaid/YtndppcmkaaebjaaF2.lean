/- NumberFracs. -/
import Derived.Test.YtndppcmkaaebjaaR1
import Derived.Test.YtndppcmkaaebjaaF1
import Derived.Test.YtndppcmkaaebjaaQLNumberFracs
namespace Go.Ab
open Go
set_option maxRecDepth 1000000
set_option maxHeartbeats 1000000
set_option linter.unusedVariables false
set_option linter.unusedSimpArgs false
attribute [local congr] bindC iterC

theorem k_rCheckFrac {f : Int × Int} (h1 : I64 f.1) (h2 : I64 f.2) : ref01xCheckFrac f = some ((cfE f, ()), ()) := by
  simp only [I64] at h1 h2
  simp only [ref01xCheckFrac, T_ref01xCheckFrac, cfE]
  by_cases h : f.2 < 1
  · have e : ¬ IsLow f := fun h' => by have := h'.1; omega
    simp (maxSteps := 1000000) (disch := first | omega | assumption) only [↓r_ret, ↓r_fail, ↓r_br, ↓r_bind, ↓r_iter, ↓r_req, decide_eq_true_eq, Bool.not_eq_eq_eq_not, decide_eq_false_iff_not, ite_not, inB_t', app_t', bnd_t', str_t', nz_t, Int.reduceEq, Int.reduceLT, Int.reduceLE, w64', Option.bind_some, Option.bind_none, List.length_cons, List.length_nil, List.length_append, Nat.zero_add, if_pos, if_neg, decide_true, decide_false, if_true, if_false, Bool.not_true, Bool.not_false, Bool.false_eq_true, Bool.true_eq_false, not_true_eq_false, not_false_eq_true, ↓reduceIte, List.nil_append, h, e]
  · have kd := k_Gcd (a := f.1) (b := f.2) (by omega) (by omega) (by omega) (by omega) (by omega)
    refine (br_f (decide_eq_false h)).trans ?_
    refine (r_bs kd).trans ?_
    by_cases hg : G f.1 f.2 = 1
    · have e : IsLow f := ⟨by omega, hg⟩
      rw [if_pos e]
      refine (br_f (nd hg)).trans ?_
      by_cases h3 : f.1 < -1000000000
      · rw [if_neg (by omega)]
        refine (br_t (decide_eq_true h3)).trans (r_ret _)
      refine (br_f (decide_eq_false h3)).trans ?_
      by_cases h4 : 1000000000 < f.1
      · rw [if_neg (by omega)]
        refine (br_t (decide_eq_true h4)).trans (r_ret _)
      refine (br_f (decide_eq_false h4)).trans ?_
      by_cases h5 : 1000000000 < f.2
      · rw [if_neg (by omega)]
        refine (br_t (decide_eq_true h5)).trans (r_ret _)
      refine (br_f (decide_eq_false h5)).trans ?_
      rw [if_pos (by omega)]
      exact r_ret _
    · have e : ¬ IsLow f := fun h' => hg h'.2
      rw [if_neg e]
      exact (br_t (nd' hg)).trans (r_ret _)
theorem k_fracs {l : List (Int × Int)} (hl : l.length ≤ 1099511627776) (h : ∀ i : Nat, i < l.length → I64 (gi l i).1 ∧ I64 (gi l i).2) : law01xfracs l = some ((firstErr (fun i => cfE (gi l i)) l.length, ()), ()) := by
  simp only [law01xfracs, T_law01xfracs, r_iter]
  refine iter_err (fun i => ((i : Int), ())) (fun i => cfE (gi l i)) l.length (by omega) (fun e => ((e, ()), ())) ?_ ?_ ?_
  · intro i hi _ hc
    have hk := k_rCheckFrac (h i hi).1 (h i hi).2
    simp only [T_law01xfracs_l0]
    simp (maxSteps := 1000000) (disch := first | omega | assumption) only [↓r_ret, ↓r_fail, ↓r_br, ↓r_bind, ↓r_iter, ↓r_req, decide_eq_true_eq, Bool.not_eq_eq_eq_not, decide_eq_false_iff_not, ite_not, inB_t', app_t', bnd_t', str_t', nz_t, Int.reduceEq, Int.reduceLT, Int.reduceLE, w64', Option.bind_some, Option.bind_none, List.length_cons, List.length_nil, List.length_append, Nat.zero_add, if_pos, if_neg, decide_true, decide_false, if_true, if_false, Bool.not_true, Bool.not_false, Bool.false_eq_true, Bool.true_eq_false, not_true_eq_false, not_false_eq_true, ↓reduceIte, List.nil_append, hk, hc, eta2]
  · intro i hi _ hc
    have hk := k_rCheckFrac (h i hi).1 (h i hi).2
    simp only [T_law01xfracs_l0]
    simp (maxSteps := 1000000) (disch := first | omega | assumption) only [↓r_ret, ↓r_fail, ↓r_br, ↓r_bind, ↓r_iter, ↓r_req, decide_eq_true_eq, Bool.not_eq_eq_eq_not, decide_eq_false_iff_not, ite_not, inB_t', app_t', bnd_t', str_t', nz_t, Int.reduceEq, Int.reduceLT, Int.reduceLE, w64', Option.bind_some, Option.bind_none, List.length_cons, List.length_nil, List.length_append, Nat.zero_add, if_pos, if_neg, decide_true, decide_false, if_true, if_false, Bool.not_true, Bool.not_false, Bool.false_eq_true, Bool.true_eq_false, not_true_eq_false, not_false_eq_true, ↓reduceIte, List.nil_append, hk, hc, eta2]
    rfl
  · intro _
    simp only [T_law01xfracs_l0]
    simp (maxSteps := 1000000) (disch := first | omega | assumption) only [↓r_ret, ↓r_fail, ↓r_br, ↓r_bind, ↓r_iter, ↓r_req, decide_eq_true_eq, Bool.not_eq_eq_eq_not, decide_eq_false_iff_not, ite_not, inB_t', app_t', bnd_t', str_t', nz_t, Int.reduceEq, Int.reduceLT, Int.reduceLE, w64', Option.bind_some, Option.bind_none, List.length_cons, List.length_nil, List.length_append, Nat.zero_add, if_pos, if_neg, decide_true, decide_false, if_true, if_false, Bool.not_true, Bool.not_false, Bool.false_eq_true, Bool.true_eq_false, not_true_eq_false, not_false_eq_true, ↓reduceIte, List.nil_append, ]

/-- The first error of two fractions. -/
def e2 (a b : Int × Int) : Int := if cfE a = 0 then cfE b else cfE a
theorem first2 (a b : Int × Int) : firstErr (fun i => cfE (gi [a, b] (i : Int))) 2 = e2 a b := by
  show (if (if (0 : Int) ≠ 0 then (0 : Int) else cfE a) ≠ 0 then (if (0 : Int) ≠ 0 then (0 : Int) else cfE a) else cfE b) = _
  unfold e2
  by_cases h : cfE a = 0 <;> simp [h]
theorem i64s {a b : Int × Int} (h1 : I64 a.1) (h2 : I64 a.2) (h3 : I64 b.1) (h4 : I64 b.2) : ∀ i : Nat, i < [a, b].length → I64 (gi [a, b] (i : Int)).1 ∧ I64 (gi [a, b] (i : Int)).2 := by
  intro i hi
  simp only [List.length_cons, List.length_nil] at hi
  match i, hi with
  | 0, _ => exact ⟨h1, h2⟩
  | 1, _ => exact ⟨h3, h4⟩
theorem k_fr2 {a b : Int × Int} (h1 : I64 a.1) (h2 : I64 a.2) (h3 : I64 b.1) (h4 : I64 b.2) : law01xfracs [a, b] = some ((e2 a b, ()), ()) := by
  rw [k_fracs (by simp) (i64s h1 h2 h3 h4)]
  show some ((firstErr _ 2, ()), ()) = _
  rw [first2]
theorem k_ck2 {a b : Int × Int} (h1 : I64 a.1) (h2 : I64 a.2) (h3 : I64 b.1) (h4 : I64 b.2) : number_checkFracs [a, b] = some ((e2 a b, ()), ()) := by
  rw [k_checkFracs (by simp) (i64s h1 h2 h3 h4)]
  show some ((firstErr _ 2, ()), ()) = _
  rw [first2]

/-- A fraction made of two numbers, or the error. -/
def mkF (n d : Int) : (Int × Int) × Int × Unit := (if Small (low n d) then low n d else (0, 0), if Small (low n d) then 0 else 8, ())
theorem k_made {n d : Int} (hd : d ≠ 0) (h1 : -9223372036854775807 ≤ n) (h2 : n ≤ 9223372036854775807) (h3 : -9223372036854775807 ≤ d) (h4 : d ≤ 9223372036854775807) : ref01xmade n d = some (mkF n d, ()) := by
  have kl := k_Lowest hd h1 h2 h3 h4
  obtain ⟨b1, b2⟩ := low_bd (n := n) hd
  have kc := k_rCheckFrac (f := low n d) ⟨by omega, by omega⟩ ⟨by omega, by omega⟩
  simp only [ref01xmade, T_ref01xmade, mkF]
  refine (r_bs kl).trans ?_
  refine (r_bs kc).trans ?_
  by_cases hs : Small (low n d)
  · have h0 := cfE_of hs
    rw [if_pos hs, if_pos hs]
    refine (br_f (by rw [h0]; rfl)).trans (r_ret _)
  · have h0 : ¬ cfE (low n d) = 0 := fun h => hs (cfE_zero.1 h)
    rw [if_neg hs, if_neg hs]
    exact (br_t (nd' h0)).trans (r_ret _)
theorem k_rMul {a b : Int × Int} (ha : Small a) (hb : Small b) : ref01xMul a b = some (mkF (a.1 * b.1) (a.2 * b.2), ()) := by
  have h := ha.bds hb
  have kv := k_made (n := a.1 * b.1) (d := a.2 * b.2) (by omega) (by omega) (by omega) (by omega) (by omega)
  simp only [ref01xMul, T_ref01xMul]
  rw [w64' (x := a.1 * b.1) (by omega) (by omega), w64' (x := a.2 * b.2) (by omega) (by omega)]
  exact (r_bs kv).trans (r_ret _)
theorem k_rAdd {a b : Int × Int} (ha : Small a) (hb : Small b) : ref01xAdd a b = some (mkF (a.1 * b.2 + b.1 * a.2) (a.2 * b.2), ()) := by
  have h := ha.bds hb
  have kv := k_made (n := a.1 * b.2 + b.1 * a.2) (d := a.2 * b.2) (by omega) (by omega) (by omega) (by omega) (by omega)
  simp only [ref01xAdd, T_ref01xAdd]
  rw [w64' (x := a.1 * b.2) (by omega) (by omega), w64' (x := b.1 * a.2) (by omega) (by omega), w64' (x := a.1 * b.2 + b.1 * a.2) (by omega) (by omega), w64' (x := a.2 * b.2) (by omega) (by omega)]
  exact (r_bs kv).trans (r_ret _)
theorem k_rSub {a b : Int × Int} (ha : Small a) (hb : Small b) : ref01xSub a b = some (mkF (a.1 * b.2 - b.1 * a.2) (a.2 * b.2), ()) := by
  have h := ha.bds hb
  have kv := k_made (n := a.1 * b.2 - b.1 * a.2) (d := a.2 * b.2) (by omega) (by omega) (by omega) (by omega) (by omega)
  simp only [ref01xSub, T_ref01xSub]
  rw [w64' (x := a.1 * b.2) (by omega) (by omega), w64' (x := b.1 * a.2) (by omega) (by omega), w64' (x := a.1 * b.2 - b.1 * a.2) (by omega) (by omega), w64' (x := a.2 * b.2) (by omega) (by omega)]
  exact (r_bs kv).trans (r_ret _)
theorem k_rQuo {a b : Int × Int} (ha : Small a) (hb : Small b) (hz : b.1 ≠ 0) : ref01xQuo a b = some (mkF (a.1 * b.2) (a.2 * b.1), ()) := by
  have h := ha.bds hb
  have hd : a.2 * b.1 ≠ 0 := Int.mul_ne_zero (by have := ha.1.1; omega) hz
  have kv := k_made (n := a.1 * b.2) (d := a.2 * b.1) hd (by omega) (by omega) (by omega) (by omega)
  simp only [ref01xQuo, T_ref01xQuo]
  refine (br_f (decide_eq_false hz)).trans ?_
  rw [w64' (x := a.1 * b.2) (by omega) (by omega), w64' (x := a.2 * b.1) (by omega) (by omega)]
  exact (r_bs kv).trans (r_ret _)
theorem k_rQuo0 {a b : Int × Int} (hz : b.1 = 0) : ref01xQuo a b = some (((0, 0), 11, ()), ()) := by
  simp only [ref01xQuo, T_ref01xQuo]
  exact (br_t (decide_eq_true hz)).trans (r_ret _)

section
variable {a b : Int × Int} (h1 : I64 a.1) (h2 : I64 a.2) (h3 : I64 b.1) (h4 : I64 b.2) (h : e2 a b ≠ 0)
include h1 h2 h3 h4 h
theorem k_Mul_e : number_Mul a b = some (((0, 0), e2 a b, ()), ()) := by
  simp only [number_Mul, T_number_Mul]
  refine (r_bs (k_ck2 h1 h2 h3 h4)).trans ?_
  exact (br_t (nd' h)).trans (r_ret _)
theorem k_Add_e : number_Add a b = some (((0, 0), e2 a b, ()), ()) := by
  simp only [number_Add, T_number_Add]
  refine (r_bs (k_ck2 h1 h2 h3 h4)).trans ?_
  exact (br_t (nd' h)).trans (r_ret _)
theorem k_Sub_e : number_Sub a b = some (((0, 0), e2 a b, ()), ()) := by
  simp only [number_Sub, T_number_Sub]
  refine (r_bs (k_ck2 h1 h2 h3 h4)).trans ?_
  exact (br_t (nd' h)).trans (r_ret _)
theorem k_Quo_e : number_Quo a b = some (((0, 0), e2 a b, ()), ()) := by
  simp only [number_Quo, T_number_Quo]
  refine (r_bs (k_ck2 h1 h2 h3 h4)).trans ?_
  exact (br_t (nd' h)).trans (r_ret _)
theorem k_Cmp_e : number_Cmp a b = some ((0, e2 a b, ()), ()) := by
  simp only [number_Cmp, T_number_Cmp]
  refine (r_bs (k_ck2 h1 h2 h3 h4)).trans ?_
  exact (br_t (nd' h)).trans (r_ret _)
end
theorem e2_zero {a b : Int × Int} (h : e2 a b = 0) : Small a ∧ Small b := by
  unfold e2 at h
  split at h
  · rename_i h'; exact ⟨cfE_zero.1 h', cfE_zero.1 h⟩
  · contradiction
theorem k_isNaN (x : Int) : cmp_isNaN_int x = some ((false, ()), ()) := by
  show (T_cmp_isNaN_int x).run = _
  unfold T_cmp_isNaN_int
  rw [r_ret]
  congr 3
  exact nd rfl
def cmpI (x y : Int) : Int := if x < y then -1 else if y < x then 1 else 0
theorem k_Compare (x y : Int) : cmp_Compare_int x y = some ((cmpI x y, ()), ()) := by
  simp only [cmp_Compare_int, T_cmp_Compare_int, cmpI]
  refine (r_bs (k_isNaN x)).trans ((r_bs (k_isNaN y)).trans ((br_f rfl).trans ((br_f rfl).trans ?_)))
  by_cases h : x < y
  · rw [if_pos h]; exact (br_t (decide_eq_true h)).trans (r_ret _)
  · rw [if_neg h]
    refine (br_f (decide_eq_false h)).trans ?_
    by_cases h' : y < x
    · rw [if_pos h']; exact (br_t (decide_eq_true h')).trans (r_ret _)
    · rw [if_neg h']; exact (br_f (decide_eq_false h')).trans (r_ret _)
theorem k_Cmp {a b : Int × Int} (ha : Small a) (hb : Small b) : number_Cmp a b = some ((cmpI (a.1 * b.2) (b.1 * a.2), 0, ()), ()) := by
  have h := ha.bds hb
  simp only [number_Cmp, T_number_Cmp]
  rw [w64' (x := a.1 * b.2) (by omega) (by omega), w64' (x := b.1 * a.2) (by omega) (by omega)]
  refine (r_bs (k_check2 ha hb)).trans ?_
  refine (br_f rfl).trans ?_
  refine (r_bs (k_Compare _ _)).trans ?_
  exact r_ret _
theorem k_bCmp {a b : Int × Int} (ha : Small a) (hb : Small b) : base_Cmp a b = some ((cmpI (a.1 * b.2) (b.1 * a.2), ()), ()) := by
  have h := ha.bds hb
  simp only [base_Cmp, T_base_Cmp, cmpI]
  rw [w64' (x := a.1 * b.2) (by omega) (by omega), w64' (x := b.1 * a.2) (by omega) (by omega)]
  by_cases h : a.1 * b.2 < b.1 * a.2
  · rw [if_pos h]; exact (br_t (decide_eq_true h)).trans (r_ret _)
  · rw [if_neg h]
    refine (br_f (decide_eq_false h)).trans ?_
    by_cases h' : b.1 * a.2 < a.1 * b.2
    · rw [if_pos h']; exact (br_t (decide_eq_true h')).trans (r_ret _)
    · rw [if_neg h']; exact (br_f (decide_eq_false h')).trans (r_ret _)
theorem same2 (p q : Int) : (!(decide (p = p) && decide (q = q))) = false := by simp
theorem same2' (p q : Int) : (decide (p = p) && decide (q = q)) = true := by simp

theorem k_NumberFracs {a : (Int × Int)} {b : (Int × Int)} (b0 : bulkT (.pair (.int .i64) (.int .i64)) a ≤ 1048576) (w0 : wfT (.pair (.int .i64) (.int .i64)) a) (b1 : bulkT (.pair (.int .i64) (.int .i64)) b ≤ 1048576) (w1 : wfT (.pair (.int .i64) (.int .i64)) b) : law01xNumberFracs a b = some ((true, ()), ()) := by
  have h1 : I64 a.1 := w0.1
  have h2 : I64 a.2 := w0.2
  have h3 : I64 b.1 := w1.1
  have h4 : I64 b.2 := w1.2
  show (T_law01xNumberFracs a b).run = _
  unfold T_law01xNumberFracs
  rw [r_bind, awake_ok, Option.bind_some]
  refine (br_f rfl).trans ?_
  by_cases h : e2 a b = 0
  · obtain ⟨ha, hb⟩ := e2_zero h
    have hbd := ha.bds hb
    refine (r_bs (k_Add ha hb)).trans ?_
    refine (r_bs (k_Sub ha hb)).trans ?_
    refine (r_bs (k_Mul ha hb)).trans ?_
    by_cases hz : b.1 = 0
    · refine (r_bs (k_Quo0 ha hb hz)).trans ?_
      refine (r_bs (k_Cmp ha hb)).trans ?_
      refine (r_bs (k_CheckFrac h1 h2)).trans ?_
      refine (r_bs (k_rCheckFrac h1 h2)).trans ?_
      refine (br_f (nd rfl)).trans ?_
      refine (r_bs (k_fr2 h1 h2 h3 h4)).trans ?_
      refine (br_f (nd h)).trans ?_
      refine (r_bs (k_rAdd ha hb)).trans ?_
      refine (r_bs (k_rSub ha hb)).trans ?_
      refine (r_bs (k_rMul ha hb)).trans ?_
      refine (r_bs (k_rQuo0 hz)).trans ?_
      refine (br_f (same2 _ _)).trans ?_
      refine (br_f (nd rfl)).trans ?_
      refine (br_f (same2 _ _)).trans ?_
      refine (br_f (nd rfl)).trans ?_
      refine (br_f (same2 _ _)).trans ?_
      refine (br_f (nd rfl)).trans ?_
      refine (br_f (same2 _ _)).trans ?_
      refine (br_f (nd rfl)).trans ?_
      refine (br_f (nd rfl)).trans ?_
      refine (r_bs (k_bCmp ha hb)).trans ?_
      refine (br_f (nd rfl)).trans ?_
      have e1 : b.1 * a.2 + a.1 * b.2 = a.1 * b.2 + b.1 * a.2 := Int.add_comm _ _
      have e2 : b.2 * a.2 = a.2 * b.2 := Int.mul_comm _ _
      have e3 : b.1 * a.1 = a.1 * b.1 := Int.mul_comm _ _
      have kA := k_Add hb ha
      have kM := k_Mul hb ha
      rw [e1, e2] at kA
      rw [e3, e2] at kM
      refine (r_bs kA).trans ?_
      refine (r_bs kM).trans ?_
      refine (br_f (same2 _ _)).trans ?_
      refine (br_f (nd rfl)).trans ?_
      refine (br_f (same2 _ _)).trans ?_
      refine (br_f (nd rfl)).trans ?_
      exact (br_t rfl).trans (r_ret _)
    · refine (r_bs (k_Quo ha hb hz)).trans ?_
      refine (r_bs (k_Cmp ha hb)).trans ?_
      refine (r_bs (k_CheckFrac h1 h2)).trans ?_
      refine (r_bs (k_rCheckFrac h1 h2)).trans ?_
      refine (br_f (nd rfl)).trans ?_
      refine (r_bs (k_fr2 h1 h2 h3 h4)).trans ?_
      refine (br_f (nd h)).trans ?_
      refine (r_bs (k_rAdd ha hb)).trans ?_
      refine (r_bs (k_rSub ha hb)).trans ?_
      refine (r_bs (k_rMul ha hb)).trans ?_
      refine (r_bs (k_rQuo ha hb hz)).trans ?_
      refine (br_f (same2 _ _)).trans ?_
      refine (br_f (nd rfl)).trans ?_
      refine (br_f (same2 _ _)).trans ?_
      refine (br_f (nd rfl)).trans ?_
      refine (br_f (same2 _ _)).trans ?_
      refine (br_f (nd rfl)).trans ?_
      refine (br_f (same2 _ _)).trans ?_
      refine (br_f (nd rfl)).trans ?_
      refine (br_f (nd rfl)).trans ?_
      refine (r_bs (k_bCmp ha hb)).trans ?_
      refine (br_f (nd rfl)).trans ?_
      have e1 : b.1 * a.2 + a.1 * b.2 = a.1 * b.2 + b.1 * a.2 := Int.add_comm _ _
      have e2 : b.2 * a.2 = a.2 * b.2 := Int.mul_comm _ _
      have e3 : b.1 * a.1 = a.1 * b.1 := Int.mul_comm _ _
      have kA := k_Add hb ha
      have kM := k_Mul hb ha
      rw [e1, e2] at kA
      rw [e3, e2] at kM
      refine (r_bs kA).trans ?_
      refine (r_bs kM).trans ?_
      refine (br_f (same2 _ _)).trans ?_
      refine (br_f (nd rfl)).trans ?_
      refine (br_f (same2 _ _)).trans ?_
      refine (br_f (nd rfl)).trans ?_
      have hd : a.2 * b.1 ≠ 0 := Int.mul_ne_zero (by have := ha.1.1; omega) hz
      by_cases hs : Small (low (a.1 * b.2) (a.2 * b.1))
      · have hx := low_cross (n := a.1 * b.2) hd
        have hlow : low ((low (a.1 * b.2) (a.2 * b.1)).1 * b.1) ((low (a.1 * b.2) (a.2 * b.1)).2 * b.2) = a := by
          generalize low (a.1 * b.2) (a.2 * b.1) = q at hs hx
          have hq := hs.1.1
          have hb2 := hb.1.1
          have hp : 0 < q.2 * b.2 := Int.mul_pos hq hb2
          have hc := low_cross (n := q.1 * b.1) (d := q.2 * b.2) (by omega)
          refine (low_is (by omega)).eq ha.1 ?_
          generalize low (q.1 * b.1) (q.2 * b.2) = l at hc
          -- q.1 b.1 l.2 = l.1 q.2 b.2 ; a.1 b.2 q.2 = q.1 a.2 b.1
          have hne : q.2 * b.2 ≠ 0 := by omega
          refine Int.eq_of_mul_eq_mul_left hne ?_
          grind
        simp only [if_pos hs]
        refine (br_f rfl).trans ?_
        refine (r_bs (k_Mul hs hb)).trans ?_
        simp only [hlow, if_pos ha]
        exact (br_t rfl).trans ((r_ret _).trans (by simp))
      · simp only [if_neg hs]
        exact (br_t rfl).trans (r_ret _)
  · refine (r_bs (k_Add_e h1 h2 h3 h4 h)).trans ?_
    refine (r_bs (k_Sub_e h1 h2 h3 h4 h)).trans ?_
    refine (r_bs (k_Mul_e h1 h2 h3 h4 h)).trans ?_
    refine (r_bs (k_Quo_e h1 h2 h3 h4 h)).trans ?_
    refine (r_bs (k_Cmp_e h1 h2 h3 h4 h)).trans ?_
    refine (r_bs (k_CheckFrac h1 h2)).trans ?_
    refine (r_bs (k_rCheckFrac h1 h2)).trans ?_
    refine (br_f (nd rfl)).trans ?_
    refine (r_bs (k_fr2 h1 h2 h3 h4)).trans ?_
    refine (br_t (nd' h)).trans ?_
    refine (br_t (decide_eq_true rfl)).trans ?_
    refine (br_t (decide_eq_true rfl)).trans ?_
    refine (br_t (decide_eq_true rfl)).trans ?_
    refine (br_t (decide_eq_true rfl)).trans ?_
    refine (br_t (decide_eq_true rfl)).trans ?_
    refine (br_t rfl).trans ?_
    refine (br_t rfl).trans ?_
    refine (br_t rfl).trans ?_
    refine (br_t rfl).trans ?_
    exact (r_ret _)
end Go.Ab
