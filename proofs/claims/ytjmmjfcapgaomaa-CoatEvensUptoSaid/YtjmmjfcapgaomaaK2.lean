/- CoatEvens answers true. -/
import Derived.Test.YtjmmjfcapgaomaaK1
namespace Go.Ab
open Go
set_option maxRecDepth 1000000
set_option maxHeartbeats 1000000
set_option linter.unusedVariables false
set_option linter.unusedSimpArgs false

theorem maskV_len {r w : List Int} (h : maskE r w = 0) : (maskV r w).length = r.length := by rw [maskV, if_pos h, maskL_length]
theorem maskV_40 (r w : List Int) : (maskV r w).length ≤ 40 := by
  by_cases h : maskE r w = 0
  · rw [maskV_len h]; exact (maskE_inv h).1.2.1
  · rw [maskV, if_neg h]; simp

theorem evens_loop {r w : List Int} (hE : maskE r w = 0) : iterF (fun y : (List Int × Int × Int × Unit) => (T_law08xCoatEvens_l6 r w ((maskV r w, maskE r w, ()), ()) y.1 y.2.1 y.2.2.1).run) FUEL ([], 0, 0, ()) = some ((true, ()), ()) := by
  obtain ⟨hI1, hI2⟩ := maskE_inv hE
  have hml := maskV_len hE
  refine iter_eq (fun i x => x = (twice w i, mostTo (maskV r w) i, (i : Int), ()) ∧ ∀ j, j < i → gi w (j : Nat) ≤ 500000) _ r.length (by omega) ?_ ⟨rfl, fun j hj => by omega⟩
  rintro i x hi ⟨rfl, hp⟩
  have htl := twice_length w i
  simp only [T_law08xCoatEvens_l6]
  by_cases hlt : i < r.length
  · have hok := hI2 i hlt
    obtain ⟨o1, o2⟩ := hok
    by_cases h5 : (500000 : Int) < gi w i
    · right
      simp (maxSteps := 1000000) (disch := first | omega | assumption) only [r_ret, r_br, decide_eq_true_eq, Bool.not_eq_eq_eq_not, decide_eq_false_iff_not, ite_not, q_true, r_bind, r_iter, q_inB, q_nz, q_app, q_eq, q_bnd, q_str, w64', Option.bind_some, Option.bind_none, List.length_cons, List.length_nil, List.length_append, Nat.zero_add, if_pos, if_neg, decide_true, decide_false, if_true, if_false, Bool.not_true, Bool.not_false, Bool.false_eq_true, Bool.true_eq_false, not_true_eq_false, not_false_eq_true, reduceIte, List.nil_append, hml, h5]
    · left
      refine ⟨_, by simp (maxSteps := 1000000) (disch := first | omega | assumption) only [r_ret, r_br, decide_eq_true_eq, Bool.not_eq_eq_eq_not, decide_eq_false_iff_not, ite_not, q_true, r_bind, r_iter, q_inB, q_nz, q_app, q_eq, q_bnd, q_str, w64', Option.bind_some, Option.bind_none, List.length_cons, List.length_nil, List.length_append, Nat.zero_add, if_pos, if_neg, decide_true, decide_false, if_true, if_false, Bool.not_true, Bool.not_false, Bool.false_eq_true, Bool.true_eq_false, not_true_eq_false, not_false_eq_true, reduceIte, List.nil_append, hml, h5, htl] <;> rfl, hlt, ?_, ?_⟩
      · rw [twice_succ]; rfl
      · intro j hj
        by_cases e : j = i
        · subst e; omega
        · exact hp j (by omega)
  · right
    have : i = r.length := by omega
    subst this
    have htm := twice_mask (r := r) (w := w) hE hp
    have hm := most_mask hE
    have hv := maskV_40 r (twice w r.length)
    simp (maxSteps := 1000000) (disch := first | omega | assumption) only [r_ret, r_br, decide_eq_true_eq, Bool.not_eq_eq_eq_not, decide_eq_false_iff_not, ite_not, q_true, r_bind, r_iter, q_inB, q_nz, q_app, q_eq, q_bnd, q_str, w64', Option.bind_some, Option.bind_none, List.length_cons, List.length_nil, List.length_append, Nat.zero_add, if_pos, if_neg, decide_true, decide_false, if_true, if_false, Bool.not_true, Bool.not_false, Bool.false_eq_true, Bool.true_eq_false, not_true_eq_false, not_false_eq_true, reduceIte, List.nil_append, hml, htl, k_CopyInts, k_MaskFor, k_Ints, htm.1, htm.2, hm]

theorem k_CoatEvens {r w : List Int} (hr : r.length ≤ 1048576) (hw : w.length ≤ 1048576) : law08xCoatEvens r w = some ((true, ()), ()) := by
  have hv := maskV_40 r w
  have fin : (if maskE r w = 0 then iterF (fun y : (List Int × Int × Int × Unit) => (T_law08xCoatEvens_l6 r w ((maskV r w, maskE r w, ()), ()) y.1 y.2.1 y.2.2.1).run) FUEL ([], 0, 0, ()) else some ((true, ()), ())) = some ((true, ()), ()) := by
    by_cases hE : maskE r w = 0
    · rw [if_pos hE]; exact evens_loop hE
    · rw [if_neg hE]
  simp only [law08xCoatEvens, T_law08xCoatEvens]
  simp (maxSteps := 1000000) (disch := first | omega | assumption) only [r_ret, r_br, decide_eq_true_eq, Bool.not_eq_eq_eq_not, decide_eq_false_iff_not, ite_not, q_true, r_bind, r_iter, q_inB, q_nz, q_app, q_eq, q_bnd, q_str, w64', Option.bind_some, Option.bind_none, List.length_cons, List.length_nil, List.length_append, Nat.zero_add, if_pos, if_neg, decide_true, decide_false, if_true, if_false, Bool.not_true, Bool.not_false, Bool.false_eq_true, Bool.true_eq_false, not_true_eq_false, not_false_eq_true, reduceIte, List.nil_append, awake_ok, k_CopyInts, k_MaskFor, k_rMaskFor, k_Ints, fin, ite_self]
end Go.Ab
