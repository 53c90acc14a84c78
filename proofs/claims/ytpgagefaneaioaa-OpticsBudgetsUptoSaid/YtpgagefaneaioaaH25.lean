/- The even split of a total; OpticsBudgets answers true. -/
import Derived.Test.YtpgagefaneaioaaH24
import Derived.Test.YtpgagefaneaioaaQLOpticsBudgets
namespace Go.Ab
open Go
set_option maxRecDepth 1000000
set_option maxHeartbeats 1000000
set_option linter.unusedVariables false
set_option linter.unusedSimpArgs false
attribute [local congr] bindC iterC

def okx (x : Int) : Bool := decide (0 ≤ x ∧ x ≤ 10000)
def badI (e : List Int) : Int := idxTo (fun i => !okx (gi e (i : Int))) e.length
theorem k_c1 (x : Int) : optics_SplitBudget_c1 x = some ((!okx x, ()), ()) := by
  simp only [optics_SplitBudget_c1, T_optics_SplitBudget_c1, okx]
  simp (maxSteps := 1000000) (disch := first | omega | assumption) only [↓r_ret, ↓r_fail, ↓r_br, ↓r_bind, ↓r_iter, ↓r_req, decide_eq_true_eq, Bool.not_eq_eq_eq_not, decide_eq_false_iff_not, ite_not, inB_t', app_t', bnd_t', str_t', nz_t, Int.reduceEq, Int.reduceLT, Int.reduceLE, w64', Option.bind_some, Option.bind_none, List.length_cons, List.length_nil, List.length_append, Nat.zero_add, if_pos, if_neg, decide_true, decide_false, if_true, if_false, Bool.not_true, Bool.not_false, Bool.false_eq_true, Bool.true_eq_false, not_true_eq_false, not_false_eq_true, ↓reduceIte, List.nil_append, k_within]
theorem k_Index {e : List Int} (he : e.length ≤ 1099511627776) : slices_IndexFunc_int_SplitBudgetc1 e = some ((badI e, ()), ()) := by
  simp only [slices_IndexFunc_int_SplitBudgetc1, T_slices_IndexFunc_int_SplitBudgetc1, r_iter]
  refine iter_idx (fun i => !okx (gi e (i : Int))) e.length (by omega) (fun x => ((x, ()), ())) ?_ ?_ ?_
  · intro i hi hc
    have b1 : inB (i : Int) e.length = true := inB_t' (by omega) (by omega)
    simp only [T_slices_IndexFunc_int_SplitBudgetc1xl0]
    exact (br_t (decide_eq_true (by omega))).trans ((q_of b1).trans ((r_bs (k_c1 _)).trans ((br_t hc).trans (r_ret _))))
  · intro i hi hc
    have b1 : inB (i : Int) e.length = true := inB_t' (by omega) (by omega)
    simp only [T_slices_IndexFunc_int_SplitBudgetc1xl0]
    refine (br_t (decide_eq_true (by omega))).trans ((q_of b1).trans ((r_bs (k_c1 _)).trans ((br_f hc).trans ((r_ret _).trans ?_))))
    rw [w64' (by omega) (by omega)]
  · simp only [T_slices_IndexFunc_int_SplitBudgetc1xl0]
    exact (br_f (decide_eq_false (by omega))).trans (r_ret _)
theorem k_Contains {e : List Int} (he : e.length ≤ 1099511627776) : slices_ContainsFunc_int_SplitBudgetc1 e = some ((decide (0 ≤ badI e), ()), ()) := by
  simp only [slices_ContainsFunc_int_SplitBudgetc1, T_slices_ContainsFunc_int_SplitBudgetc1]
  simp (maxSteps := 1000000) (disch := first | omega | assumption) only [↓r_ret, ↓r_fail, ↓r_br, ↓r_bind, ↓r_iter, ↓r_req, decide_eq_true_eq, Bool.not_eq_eq_eq_not, decide_eq_false_iff_not, ite_not, inB_t', app_t', bnd_t', str_t', nz_t, Int.reduceEq, Int.reduceLT, Int.reduceLE, w64', Option.bind_some, Option.bind_none, List.length_cons, List.length_nil, List.length_append, Nat.zero_add, if_pos, if_neg, decide_true, decide_false, if_true, if_false, Bool.not_true, Bool.not_false, Bool.false_eq_true, Bool.true_eq_false, not_true_eq_false, not_false_eq_true, ↓reduceIte, List.nil_append, k_Index he]
/-- How many of the first effects count. -/
def cnt (e : List Int) : Nat → Nat
  | 0 => 0
  | n + 1 => if 0 < gi e (n : Int) then cnt e n + 1 else cnt e n
theorem cnt_le (e : List Int) : ∀ n, cnt e n ≤ n
  | 0 => Nat.le_refl _
  | n + 1 => by
    have := cnt_le e n
    unfold cnt; split <;> omega
theorem cnt_mono (e : List Int) {n : Nat} : ∀ m, n ≤ m → cnt e n ≤ cnt e m
  | 0, h => by rw [show n = 0 by omega]; exact Nat.le_refl _
  | m + 1, h => by
    by_cases q : n = m + 1
    · rw [q]; exact Nat.le_refl _
    · have := cnt_mono e (n := n) m (by omega)
      rw [cnt.eq_2]; split <;> omega
theorem cnt_pos {e : List Int} {i n : Nat} (hi : i < n) (h : 0 < gi e (i : Int)) : 0 < cnt e n := by
  have h1 : 0 < cnt e (i + 1) := by rw [cnt.eq_2, if_pos h]; omega
  have := cnt_mono e (n := i + 1) n (by omega)
  omega
/-- The amount of an effect. -/
def amt (T : Int) (c : Nat) (x : Int) : Int := if 0 < x then min 10000 (rt (T * T / c) / x) else 10000
def spL (T : Int) (e : List Int) : Nat → List Int
  | 0 => []
  | n + 1 => spL T e n ++ [amt T (cnt e e.length) (gi e (n : Int))]
theorem spL_len (T : Int) (e : List Int) : ∀ n, (spL T e n).length = n
  | 0 => rfl
  | n + 1 => by rw [spL, List.length_append, spL_len T e n]; rfl
theorem gi_app1 {l : List Int} {x : Int} {i : Nat} (h : i < l.length) : gi (l ++ [x]) (i : Int) = gi l (i : Int) := by
  simp [gi, List.getD, List.getElem?_append_left h]
theorem gi_app2 {l : List Int} {x : Int} : gi (l ++ [x]) (l.length : Int) = x := by
  simp [gi, List.getD, List.getElem?_append_right]
theorem spL_gi (T : Int) (e : List Int) : ∀ n i, i < n → gi (spL T e n) (i : Int) = amt T (cnt e e.length) (gi e (i : Int))
  | 0, i, h => by omega
  | n + 1, i, h => by
    have hl := spL_len T e n
    by_cases q : i = n
    · subst q
      rw [spL]
      conv => lhs; arg 2; rw [← hl]
      rw [gi_app2]
    · rw [spL, gi_app1 (by omega), spL_gi T e n i (by omega)]
structure TcOk (T : Int) (c : Nat) : Prop where
  t0 : 0 ≤ T
  t1 : T ≤ 100000000
  c1 : c ≤ 30
theorem sq_T {T : Int} (h0 : 0 ≤ T) (h1 : T ≤ 100000000) : 0 ≤ T * T ∧ T * T ≤ 10000000000000000 := by
  have := mul_bd (a := T) (b := T) (m := 100000000) (n := 100000000) (by omega) (by omega) (by omega) (by omega)
  have := Int.mul_nonneg h0 h0
  omega
theorem rt_T {T : Int} {c : Nat} (h : TcOk T c) : 0 ≤ T * T / c ∧ T * T / c ≤ 10000000000000000 ∧ 0 ≤ rt (T * T / c) ∧ rt (T * T / c) ≤ 100000000 := by
  obtain ⟨s1, s2⟩ := sq_T h.t0 h.t1
  have d0 : 0 ≤ T * T / c := Int.ediv_nonneg s1 (by omega)
  have d1 : T * T / c ≤ T * T := Int.ediv_le_self _ s1
  have r := rt_spec d0
  have r2 := rt_bd (m := 100000000) d0 (by decide) (by omega)
  omega
theorem amt_bd {T : Int} {c : Nat} (h : TcOk T c) (x : Int) : 0 ≤ amt T c x ∧ amt T c x ≤ 10000 := by
  obtain ⟨_, _, r1, r2⟩ := rt_T h
  unfold amt
  split
  · rename_i hx
    have := Int.ediv_nonneg r1 (show 0 ≤ x by omega)
    omega
  · omega
/-- The greatest amount with which the share is kept. -/
theorem amt_iff {T : Int} {c : Nat} {x m : Int} (h : TcOk T c) (hx : 0 ≤ x) (hc : 0 < x → 0 < c) (m0 : 0 ≤ m) (m1 : m ≤ 10000) : m ≤ amt T c x ↔ c * (x * m) * (x * m) ≤ T * T := by
  obtain ⟨d0, d1, r1, r2⟩ := rt_T h
  obtain ⟨s1, s2⟩ := sq_T h.t0 h.t1
  unfold amt
  split
  · rename_i hp
    have hc := hc hp
    have e1 : m ≤ rt (T * T / c) / x ↔ m * x ≤ rt (T * T / c) := Int.le_ediv_iff_mul_le hp
    have e2 := rt_iff (m := m * x) d0 (Int.mul_nonneg m0 hx)
    have e3 : m * x * (m * x) ≤ T * T / c ↔ m * x * (m * x) * c ≤ T * T := Int.le_ediv_iff_mul_le (by omega)
    have e4 : (c : Int) * (x * m) * (x * m) = m * x * (m * x) * c := by grind
    rw [e4]
    omega
  · rename_i hp
    have : x = 0 := by omega
    subst this
    have : (c : Int) * (0 * m) * (0 * m) = 0 := by grind
    rw [this]
    omega
/-- With these amounts a budget is kept. -/
theorem lf_ge {T : Int} {e : List Int} (h : TcOk T (cnt e e.length)) (hc : 0 < cnt e e.length) (he : ∀ i : Nat, i < e.length → 0 ≤ gi e (i : Int) ∧ gi e (i : Int) ≤ 10000) : ∀ n, n ≤ e.length → T * T - cnt e n * (T * T / cnt e e.length) ≤ lf T e (spL T e e.length) n
  | 0, _ => by show T * T - (0 : Nat) * _ ≤ T * T; simp
  | n + 1, hn => by
    have ih := lf_ge h hc he n (by omega)
    have hg := spL_gi T e e.length n (by omega)
    obtain ⟨d0, d1, r1, r2⟩ := rt_T h
    have rs := rt_spec d0
    obtain ⟨x0, x1⟩ := he n (by omega)
    have ab := amt_bd h (gi e (n : Int))
    show _ ≤ lf T e (spL T e e.length) n - gi e (n : Int) * gi (spL T e e.length) (n : Int) * (gi e (n : Int) * gi (spL T e e.length) (n : Int))
    rw [hg, cnt.eq_2]
    generalize hX : T * T / (cnt e e.length : Int) = X at *
    by_cases q : 0 < gi e (n : Int)
    · rw [if_pos q]
      have a1 : amt T (cnt e e.length) (gi e (n : Int)) ≤ rt X / gi e (n : Int) := by unfold amt; rw [if_pos q, hX]; omega
      have a2 := (Int.le_ediv_iff_mul_le q).1 a1
      have a3 := sq_le (a := amt T (cnt e e.length) (gi e (n : Int)) * gi e (n : Int)) (Int.mul_nonneg ab.1 x0) a2
      generalize amt T (cnt e e.length) (gi e (n : Int)) = y at *
      have e1 : ((cnt e n + 1 : Nat) : Int) * X = cnt e n * X + X := by
        rw [show ((cnt e n + 1 : Nat) : Int) = (cnt e n : Int) + 1 by omega]; grind
      rw [e1]
      have e2 : gi e (n : Int) * y * (gi e (n : Int) * y) = y * gi e (n : Int) * (y * gi e (n : Int)) := by grind
      omega
    · rw [if_neg q]
      have : gi e (n : Int) = 0 := by omega
      rw [this]
      have : (0 : Int) * amt T (cnt e e.length) 0 * (0 * amt T (cnt e e.length) 0) = 0 := by grind
      omega
theorem lf_zero {T : Int} {e a : List Int} : ∀ n, (∀ i : Nat, i < n → gi e (i : Int) = 0) → lf T e a n = T * T
  | 0, _ => rfl
  | n + 1, h => by
    show lf T e a n - _ = _
    rw [lf_zero n (fun i hi => h i (by omega)), h n (by omega)]
    grind
theorem cnt_zero {e : List Int} : ∀ n, cnt e n = 0 → ∀ i : Nat, i < n → gi e (i : Int) ≤ 0
  | 0, _, i, h => by omega
  | n + 1, h, i, hi => by
    rw [cnt.eq_2] at h
    split at h
    · omega
    · by_cases q : i = n
      · subst q; omega
      · exact cnt_zero n h i (by omega)
/-- The error of a split, and the split. -/
def siE (T : Int) (e : List Int) : Int := if ¬ (0 ≤ T ∧ T ≤ 100000000) then 2 else if 30 < e.length then 8 else if 0 ≤ badI e then 2 else 0
def siV (T : Int) (e : List Int) : List Int := if siE T e = 0 then spL T e e.length else []
theorem badI_ok {e : List Int} (h : ¬ 0 ≤ badI e) : ∀ i : Nat, i < e.length → 0 ≤ gi e (i : Int) ∧ gi e (i : Int) ≤ 10000 := by
  intro i hi
  rcases idxTo_cases (fun i => !okx (gi e (i : Int))) e.length with ⟨_, h2⟩ | ⟨k, _, h2, _⟩
  · have := h2 i hi
    simpa [okx] using this
  · exfalso
    have : badI e = k := h2
    omega
theorem k_split2 {T : Int} {e : List Int} (hT : 0 ≤ T ∧ T ≤ 100000000) (hl : e.length ≤ 30) (he : ∀ i : Nat, i < e.length → 0 ≤ gi e (i : Int) ∧ gi e (i : Int) ≤ 10000) :
    iterF (fun y => (T_optics_SplitBudget_l2 T e y.1 y.2.1).run) FUEL (0, 0, ()) = some ((spL T e e.length, 0, ()), ()) := by
  have hc30 := cnt_le e e.length
  have ho : TcOk T (cnt e e.length) := ⟨hT.1, hT.2, by omega⟩
  obtain ⟨s1, s2⟩ := sq_T hT.1 hT.2
  obtain ⟨d0, d1, r1, r2⟩ := rt_T ho
  have inner : iterF (fun y => (T_optics_SplitBudget_l3 T e (cnt e e.length) y.1 y.2.1).run) FUEL ([], 0, ()) = some (.inr ((spL T e e.length, 0, ()), ())) := by
    refine iter_eq (fun i x => x = (spL T e i, (i : Int), ())) _ e.length (by omega) ?_ rfl
    rintro i x hi rfl
    have hn := spL_len T e i
    simp only [T_optics_SplitBudget_l3]
    by_cases hlt : i < e.length
    · left
      obtain ⟨x0, x1⟩ := he i hlt
      have b1 : inB (i : Int) e.length = true := inB_t' (by omega) (by omega)
      by_cases q : 0 < gi e (i : Int)
      · have hc := cnt_pos hlt q
        have e1 : IntKind.i64.wrap (T * T) = T * T := w64' (by omega) (by omega)
        have e2 : (T * T).tdiv (cnt e e.length : Int) = T * T / (cnt e e.length : Int) := Int.tdiv_eq_ediv_of_nonneg s1
        have kr := k_root d0 (by omega)
        have e4 : (rt (T * T / (cnt e e.length : Int))).tdiv (gi e (i : Int)) = rt (T * T / (cnt e e.length : Int)) / gi e (i : Int) := Int.tdiv_eq_ediv_of_nonneg r1
        have e5 := Int.ediv_le_self (gi e (i : Int)) r1
        have e6 := Int.ediv_nonneg r1 x0
        have z1 : (cnt e e.length : Int) ≠ 0 := by omega
        have z2 : gi e (i : Int) ≠ 0 := by omega
        have am : amt T (cnt e e.length) (gi e (i : Int)) = min 10000 (rt (T * T / (cnt e e.length : Int)) / gi e (i : Int)) := by unfold amt; rw [if_pos q]
        have hS : spL T e (i + 1) = spL T e i ++ [min 10000 (rt (T * T / (cnt e e.length : Int)) / gi e (i : Int))] := by rw [spL, am]
        rw [hS]
        generalize (cnt e e.length : Int) = c at *
        generalize hX : T * T / c = X at *
        generalize hY : rt X / gi e (i : Int) = Y at *
        refine ⟨_, by simp (maxSteps := 1000000) (disch := first | omega | assumption) only [↓r_ret, ↓r_fail, ↓r_br, ↓r_bind, ↓r_iter, ↓r_req, decide_eq_true_eq, Bool.not_eq_eq_eq_not, decide_eq_false_iff_not, ite_not, inB_t', app_t', bnd_t', str_t', nz_t, Int.reduceEq, Int.reduceLT, Int.reduceLE, w64', Option.bind_some, Option.bind_none, List.length_cons, List.length_nil, List.length_append, Nat.zero_add, if_pos, if_neg, decide_true, decide_false, if_true, if_false, Bool.not_true, Bool.not_false, Bool.false_eq_true, Bool.true_eq_false, not_true_eq_false, not_false_eq_true, ↓reduceIte, List.nil_append, b1, q, e1, e2, kr, e4, hn] <;> rfl, hlt, ?_⟩
        rfl
      · have am : amt T (cnt e e.length) (gi e (i : Int)) = 10000 := by unfold amt; rw [if_neg q]
        have hS : spL T e (i + 1) = spL T e i ++ [10000] := by rw [spL, am]
        rw [hS]
        refine ⟨_, by simp (maxSteps := 1000000) (disch := first | omega | assumption) only [↓r_ret, ↓r_fail, ↓r_br, ↓r_bind, ↓r_iter, ↓r_req, decide_eq_true_eq, Bool.not_eq_eq_eq_not, decide_eq_false_iff_not, ite_not, inB_t', app_t', bnd_t', str_t', nz_t, Int.reduceEq, Int.reduceLT, Int.reduceLE, w64', Option.bind_some, Option.bind_none, List.length_cons, List.length_nil, List.length_append, Nat.zero_add, if_pos, if_neg, decide_true, decide_false, if_true, if_false, Bool.not_true, Bool.not_false, Bool.false_eq_true, Bool.true_eq_false, not_true_eq_false, not_false_eq_true, ↓reduceIte, List.nil_append, b1, q, hn] <;> rfl, hlt, ?_⟩
        rfl
    · right
      have : i = e.length := by omega
      subst this
      exact (br_f (decide_eq_false (by omega))).trans (r_ret _)
  refine iter_eq (fun i x => x = ((cnt e i : Int), (i : Int), ())) _ e.length (by omega) ?_ rfl
  rintro i x hi rfl
  simp only [T_optics_SplitBudget_l2]
  have hci := cnt_le e i
  by_cases hlt : i < e.length
  · left
    have b1 : inB (i : Int) e.length = true := inB_t' (by omega) (by omega)
    by_cases q : 0 < gi e (i : Int)
    · refine ⟨_, (br_t (decide_eq_true (by omega))).trans ((q_of b1).trans ((br_t (decide_eq_true q)).trans (r_ret _))), hlt, ?_⟩
      rw [w64' (by omega) (by omega), w64' (by omega) (by omega), cnt.eq_2, if_pos q]
      rfl
    · refine ⟨_, (br_t (decide_eq_true (by omega))).trans ((q_of b1).trans ((br_f (decide_eq_false q)).trans (r_ret _))), hlt, ?_⟩
      rw [w64' (by omega) (by omega), cnt.eq_2, if_neg q]
      rfl
  · right
    have : i = e.length := by omega
    subst this
    refine (br_f (decide_eq_false (by omega))).trans ?_
    refine (q_of rfl).trans ?_
    rw [r_iter]
    exact inner
theorem k_SplitBudget {T : Int} {e : List Int} (hl : e.length ≤ 1099511627776) : optics_SplitBudget T e = some ((siV T e, siE T e, ()), ()) := by
  simp only [optics_SplitBudget, T_optics_SplitBudget]
  have kw := k_within T 0 100000000
  refine (r_bs kw).trans ?_
  by_cases c0 : 0 ≤ T ∧ T ≤ 100000000
  · refine (br_f (by simp [c0])).trans ?_
    have n0 : ¬ ¬ (0 ≤ T ∧ T ≤ 100000000) := fun h => h c0
    by_cases c1 : 30 < e.length
    · have hE : siE T e = 8 := by unfold siE; rw [if_neg n0, if_pos c1]
      have hV : siV T e = [] := by unfold siV; rw [hE]; rfl
      rw [hE, hV]
      exact (br_t (decide_eq_true (by omega))).trans (r_ret _)
    · refine (br_f (decide_eq_false (by omega))).trans ?_
      refine (r_bs (k_Contains hl)).trans ?_
      by_cases c2 : 0 ≤ badI e
      · have hE : siE T e = 2 := by unfold siE; rw [if_neg n0, if_neg c1, if_pos c2]
        have hV : siV T e = [] := by unfold siV; rw [hE]; rfl
        rw [hE, hV]
        exact (br_t (decide_eq_true c2)).trans (r_ret _)
      · have hE : siE T e = 0 := by unfold siE; rw [if_neg n0, if_neg c1, if_neg c2]
        have hV : siV T e = spL T e e.length := by unfold siV; rw [hE]; rfl
        rw [hE, hV]
        refine (br_f (decide_eq_false c2)).trans ?_
        rw [r_iter]
        exact k_split2 c0 (by omega) (badI_ok c2)
  · have hE : siE T e = 2 := by unfold siE; rw [if_pos c0]
    have hV : siV T e = [] := by unfold siV; rw [hE]; rfl
    rw [hE, hV]
    exact (br_t (by simp only [c0, decide_false, Bool.not_false])).trans (r_ret _)
theorem badE {e : List Int} : firstErr (fun i => if okx (gi e (i : Int)) = true then 0 else 2) e.length = if 0 ≤ badI e then 2 else 0 := by
  rcases idxTo_cases (fun i => !okx (gi e (i : Int))) e.length with ⟨h1, h2⟩ | ⟨k, h0, h2, h3, h4⟩
  · have : badI e = -1 := h1
    rw [firstErr_0 (fun j hj => by have := h2 j hj; simp at this; simp [this]), if_neg (by omega)]
  · have : badI e = k := h2
    have hb : 0 ≤ badI e := by omega
    rw [firstErr_at (i := k) (fun j hj => by have := h4 j hj; simp at this; simp [this]) (by simp at h3; simp [h3]) h0, if_pos hb]
    simp at h3; simp [h3]
theorem k_rSplitBudget {T : Int} {e : List Int} (hl : e.length ≤ 1099511627776) : ref02xSplitBudget T e = some ((siV T e, siE T e, ()), ()) := by
  simp only [ref02xSplitBudget, T_ref02xSplitBudget]
  refine (r_bs (k_CheckTotal T e.length)).trans ?_
  unfold ctE
  by_cases c0 : 0 ≤ T ∧ T ≤ 100000000
  · have n0 : ¬ ¬ (0 ≤ T ∧ T ≤ 100000000) := fun h => h c0
    rw [if_neg n0]
    by_cases c1 : 30 < e.length
    · have hE : siE T e = 8 := by unfold siE; rw [if_neg n0, if_pos c1]
      have hV : siV T e = [] := by unfold siV; rw [hE]; rfl
      rw [hE, hV, if_pos (by omega)]
      exact (br_t rfl).trans (r_ret _)
    · rw [if_neg (by omega)]
      refine (br_f rfl).trans ?_
      rw [r_iter]
      have hE : siE T e = firstErr (fun i => if okx (gi e (i : Int)) = true then 0 else 2) e.length := by unfold siE; rw [if_neg n0, if_neg c1, badE]
      have hV : siV T e = if firstErr (fun i => if okx (gi e (i : Int)) = true then 0 else 2) e.length = 0 then spL T e e.length else [] := by unfold siV; rw [hE]
      rw [hE, hV]
      refine iter_err (st := fun i => ((cnt e i : Int), (i : Int), ())) (f := fun i => if okx (gi e (i : Int)) = true then 0 else 2) e.length (by omega) (fun x => ((if x = 0 then spL T e e.length else [], x, ()), ())) ?_ ?_ ?_
      · intro i hi hp hc
        have b1 : inB (i : Int) e.length = true := inB_t' (by omega) (by omega)
        have ho : okx (gi e (i : Int)) = false := by
          cases h : okx (gi e (i : Int)) with
          | false => rfl
          | true => simp [h] at hc
        have kw := k_Within (gi e (i : Int)) 0 10000
        rw [show decide (0 ≤ gi e (i : Int) ∧ gi e (i : Int) ≤ 10000) = false from ho] at kw
        simp only [T_ref02xSplitBudget_l1, ho]
        refine (br_t (decide_eq_true (by omega))).trans ?_
        refine (q_of b1).trans ?_
        refine (r_bs kw).trans ?_
        exact (br_t rfl).trans (r_ret _)
      · intro i hi hp hc
        have b1 : inB (i : Int) e.length = true := inB_t' (by omega) (by omega)
        have ho : okx (gi e (i : Int)) = true := by
          cases h : okx (gi e (i : Int)) with
          | true => rfl
          | false => simp [h] at hc
        have kw := k_Within (gi e (i : Int)) 0 10000
        rw [show decide (0 ≤ gi e (i : Int) ∧ gi e (i : Int) ≤ 10000) = true from ho] at kw
        have hci := cnt_le e i
        simp only [T_ref02xSplitBudget_l1]
        refine (br_t (decide_eq_true (by omega))).trans ((q_of b1).trans ((r_bs kw).trans ?_))
        refine (br_f rfl).trans ?_
        refine (q_of b1).trans ?_
        by_cases q : 0 < gi e (i : Int)
        · refine (br_t (decide_eq_true q)).trans ((r_ret _).trans ?_)
          rw [w64' (by omega) (by omega), w64' (by omega) (by omega), cnt.eq_2, if_pos q]
          rfl
        · refine (br_f (decide_eq_false q)).trans ((r_ret _).trans ?_)
          rw [w64' (by omega) (by omega), cnt.eq_2, if_neg q]
          rfl
      · intro hp
        have he : ∀ i : Nat, i < e.length → 0 ≤ gi e (i : Int) ∧ gi e (i : Int) ≤ 10000 := fun i hi => by
          have := hp i hi
          by_cases h : okx (gi e (i : Int)) = true
          · simpa [okx] using h
          · simp [h] at this
        have hc30 := cnt_le e e.length
        have ho : TcOk T (cnt e e.length) := ⟨c0.1, c0.2, by omega⟩
        obtain ⟨s1, s2⟩ := sq_T c0.1 c0.2
        simp only [T_ref02xSplitBudget_l1]
        refine (br_f (decide_eq_false (by omega))).trans ?_
        refine (q_of rfl).trans ?_
        rw [r_iter, if_pos trivial]
        refine iter_eq (fun i x => x = (spL T e i, (i : Int), ())) _ e.length (by omega) ?_ rfl
        rintro i x hi rfl
        have hn := spL_len T e i
        simp only [T_ref02xSplitBudget_l3]
        by_cases hlt : i < e.length
        · left
          refine ⟨(spL T e (i + 1), ((i + 1 : Nat) : Int), ()), ?_, hlt, rfl⟩
          refine (br_t (decide_eq_true (by omega))).trans ?_
          rw [r_iter]
          obtain ⟨x0, x1⟩ := he i hlt
          have ab := amt_bd ho (gi e (i : Int))
          refine iter_eq (fun k y => ∃ lo hi : Int, y = (lo, hi, ()) ∧ 0 ≤ lo ∧ lo ≤ amt T (cnt e e.length) (gi e (i : Int)) ∧ amt T (cnt e e.length) (gi e (i : Int)) ≤ hi ∧ hi ≤ 10000 ∧ hi - lo + k ≤ 10000) _ 10000 (by omega) ?_ ⟨0, 10000, rfl, by omega, by omega, by omega, by omega, by omega⟩
          rintro k y hk ⟨lo, hh, rfl, a1, a2, a3, a4, a5⟩
          simp only [T_ref02xSplitBudget_l4]
          by_cases d : lo < hh
          · left
            have f1 : IntKind.i64.wrap (lo + hh) = lo + hh := w64' (by omega) (by omega)
            have f2 : IntKind.i64.wrap (lo + hh + 1) = lo + hh + 1 := w64' (by omega) (by omega)
            have f3 : (lo + hh + 1).tdiv 2 = (lo + hh + 1) / 2 := Int.tdiv_eq_ediv_of_nonneg (by omega)
            have f4 : IntKind.i64.wrap ((lo + hh + 1) / 2) = (lo + hh + 1) / 2 := w64' (by omega) (by omega)
            simp only [f1, f2, f3, f4]
            generalize hm' : (lo + hh + 1) / 2 = m at *
            have b1 : inB (i : Int) e.length = true := inB_t' (by omega) (by omega)
            have ri := amt_iff (m := m) ho x0 (fun h => cnt_pos hlt h) (by omega) (by omega)
            have m1 := mul_bd (a := gi e (i : Int)) (b := m) (m := 10000) (n := 10000) (by omega) (by omega) (by omega) (by omega)
            have m2 := mul_bd (a := (cnt e e.length : Int)) (b := gi e (i : Int) * m) (m := 30) (n := 100000000) (by omega) (by omega) (by omega) (by omega)
            have m3 := mul_bd (a := (cnt e e.length : Int) * (gi e (i : Int) * m)) (b := gi e (i : Int) * m) (m := 3000000000) (n := 100000000) (by omega) (by omega) (by omega) (by omega)
            have g1 : IntKind.i64.wrap (gi e (i : Int) * m) = gi e (i : Int) * m := w64' (by omega) (by omega)
            have g2 : IntKind.i64.wrap ((cnt e e.length : Int) * (gi e (i : Int) * m)) = (cnt e e.length : Int) * (gi e (i : Int) * m) := w64' (by omega) (by omega)
            have g3 : IntKind.i64.wrap ((cnt e e.length : Int) * (gi e (i : Int) * m) * (gi e (i : Int) * m)) = (cnt e e.length : Int) * (gi e (i : Int) * m) * (gi e (i : Int) * m) := w64' (by omega) (by omega)
            have g4 : IntKind.i64.wrap (T * T) = T * T := w64' (by omega) (by omega)
            have g5 : IntKind.i64.wrap (m - 1) = m - 1 := w64' (by omega) (by omega)
            simp only [g1, g2, g3, g4, g5]
            by_cases q : (cnt e e.length : Int) * (gi e (i : Int) * m) * (gi e (i : Int) * m) ≤ T * T
            · exact ⟨_, (br_t (decide_eq_true d)).trans ((q_of (show nz 2 = true from rfl)).trans ((q_of b1).trans ((br_t (decide_eq_true q)).trans (r_ret _)))), by omega, m, hh, rfl, by omega, ri.2 q, by omega, by omega, by omega⟩
            · have : ¬ m ≤ amt T (cnt e e.length) (gi e (i : Int)) := fun h => q (ri.1 h)
              exact ⟨_, (br_t (decide_eq_true d)).trans ((q_of (show nz 2 = true from rfl)).trans ((q_of b1).trans ((br_f (decide_eq_false q)).trans (r_ret _)))), by omega, lo, m - 1, rfl, by omega, by omega, by omega, by omega, by omega⟩
          · right
            have e0 : lo = amt T (cnt e e.length) (gi e (i : Int)) := by omega
            have b2 : okApp ((spL T e i).length + [lo].length) 8 = true := app_t' (by simp [hn]; omega) (by simp [hn]; omega)
            refine (br_f (decide_eq_false d)).trans ?_
            refine (q_of (by simp)).trans ?_
            refine (q_of b2).trans ?_
            refine (q_of (by simp)).trans ?_
            refine (r_ret _).trans ?_
            rw [w64' (by omega) (by omega), e0]
            rfl
        · right
          have : i = e.length := by omega
          subst this
          exact (br_f (decide_eq_false (by omega))).trans (r_ret _)
  · have hE : siE T e = 2 := by unfold siE; rw [if_pos c0]
    have hV : siV T e = [] := by unfold siV; rw [hE]; rfl
    rw [hE, hV, if_pos c0]
    exact (br_t rfl).trans (r_ret _)
theorem split_ok {T : Int} {e : List Int} (h : siE T e = 0) : bgE T e (siV T e) = 0 := by
  have hV : siV T e = spL T e e.length := by unfold siV; rw [if_pos h]
  rw [hV]
  unfold siE at h
  split at h; · cases h
  split at h; · cases h
  split at h; · cases h
  rename_i c0 c1 c2
  have c0' := Decidable.of_not_not c0
  have he := badI_ok c2
  have hc30 := cnt_le e e.length
  have ho : TcOk T (cnt e e.length) := ⟨c0'.1, c0'.2, by omega⟩
  have hx : buX e (spL T e e.length) = 0 := firstErr_0 fun j hj => by
    have hg := spL_gi T e e.length j hj
    have ab := amt_bd ho (gi e (j : Int))
    have := he j hj
    show buF e (spL T e e.length) j = 0
    unfold buF
    rw [hg, if_pos ⟨this, ab⟩]
  have hl : 0 ≤ lf T e (spL T e e.length) e.length := by
    obtain ⟨s1, s2⟩ := sq_T c0'.1 c0'.2
    by_cases q : cnt e e.length = 0
    · rw [lf_zero e.length (fun i hi => by
        have h1 := cnt_zero e.length q i hi
        have h2 := he i hi
        omega)]
      exact s1
    · have h1 := lf_ge ho (by omega) he e.length (Nat.le_refl _)
      have h2 := Int.ediv_mul_le (T * T) (show (cnt e e.length : Int) ≠ 0 by omega)
      have h3 : T * T / (cnt e e.length : Int) * (cnt e e.length : Int) = (cnt e e.length : Int) * (T * T / (cnt e e.length : Int)) := Int.mul_comm _ _
      omega
  unfold bgE
  rw [if_neg c0, if_neg c1, if_neg (by rw [spL_len]; simp)]
  unfold buG fnE
  rw [hx, if_neg (by decide), if_neg (by omega)]
theorem k_CopyInts {l : List Int} (h : l.length ≤ 1048576) : base_CopyInts l = some ((l, ()), ()) := by
  simp only [base_CopyInts, T_base_CopyInts]
  simp (maxSteps := 1000000) (disch := first | omega | assumption) only [↓r_ret, ↓r_fail, ↓r_br, ↓r_bind, ↓r_iter, ↓r_req, decide_eq_true_eq, Bool.not_eq_eq_eq_not, decide_eq_false_iff_not, ite_not, inB_t', app_t', bnd_t', str_t', nz_t, Int.reduceEq, Int.reduceLT, Int.reduceLE, w64', Option.bind_some, Option.bind_none, List.length_cons, List.length_nil, List.length_append, Nat.zero_add, if_pos, if_neg, decide_true, decide_false, if_true, if_false, Bool.not_true, Bool.not_false, Bool.false_eq_true, Bool.true_eq_false, not_true_eq_false, not_false_eq_true, ↓reduceIte, List.nil_append, ]
theorem k_IntsSelf {a : List Int} (ha : a.length ≤ 1099511627776) : base_Ints a a = some ((true, ()), ()) := by
  simp only [base_Ints, T_base_Ints]
  refine (br_f (by simp)).trans ?_
  rw [r_iter]
  refine iter_eq (fun i x => x = ((i : Int), ())) _ a.length (by omega) ?_ rfl
  rintro i x hi rfl
  simp only [T_base_Ints_l0]
  by_cases hlt : i < a.length
  · left
    have b1 : inB (i : Int) a.length = true := inB_t' (by omega) (by omega)
    refine ⟨_, (br_t (decide_eq_true (by omega))).trans ((q_of b1).trans ((q_of b1).trans ((br_f (by simp)).trans (r_ret _)))), hlt, ?_⟩
    rw [w64' (by omega) (by omega)]
    rfl
  · right
    exact (br_f (decide_eq_false (by omega))).trans (r_ret _)
theorem k_OpticsBudgets {b : (Int × (List (Int) × List (Int)))} (b0 : bulkT (.pair (.int .i64) (.pair (.list (.int .i64)) (.list (.int .i64)))) b ≤ 1048576) (w0 : wfT (.pair (.int .i64) (.pair (.list (.int .i64)) (.list (.int .i64)))) b) : law02xOpticsBudgets b = some ((true, ()), ()) := by
  obtain ⟨T, e, a⟩ := b
  simp only [law02xOpticsBudgets, T_law02xOpticsBudgets]
  rw [r_bind, awake_ok, Option.bind_some]
  refine (br_f rfl).trans ?_
  by_cases c1 : 33 < e.length
  · exact (br_t (decide_eq_true (by omega))).trans (r_ret _)
  · refine (br_f (decide_eq_false (by omega))).trans ?_
    by_cases c2 : 33 < a.length
    · exact (br_t (decide_eq_true (by omega))).trans (r_ret _)
    · refine (br_f (decide_eq_false (by omega))).trans ?_
      have k1 := k_CopyInts (l := e) (by omega)
      have k2 := k_CopyInts (l := a) (by omega)
      have k3 := k_CheckBudget (T := T) (e := e) (a := a)
      have k4 := k_rCheckBudget (T := T) (e := e) (a := a)
      have k5 := k_SplitBudget (T := T) (e := e) (by omega)
      have k6 := k_rSplitBudget (T := T) (e := e) (by omega)
      have k7 := k_CheckBudget (T := T) (e := e) (a := siV T e)
      have hl : (siV T e).length ≤ 33 := by
        unfold siV; split
        · rw [spL_len]; omega
        · exact Nat.zero_le _
      have k8 := k_IntsSelf (a := siV T e) (by omega)
      refine (r_bs k1).trans ?_
      refine (r_bs k2).trans ?_
      refine (r_bs k3).trans ?_
      refine (r_bs k4).trans ?_
      refine (br_f (by simp)).trans ?_
      refine (br_f (by simp)).trans ?_
      refine (r_bs k1).trans ?_
      refine (r_bs k5).trans ?_
      refine (r_bs k6).trans ?_
      refine (br_f (by simp)).trans ?_
      refine (r_bs k8).trans ?_
      refine (br_f rfl).trans ?_
      by_cases c3 : siE T e = 0
      · refine (br_f (by simp [c3])).trans ?_
        refine (r_bs k1).trans ?_
        refine (r_bs k7).trans ?_
        refine (r_ret _).trans ?_
        simp [split_ok c3]
      · exact (br_t (by simp [c3])).trans (r_ret _)
end Go.Ab
