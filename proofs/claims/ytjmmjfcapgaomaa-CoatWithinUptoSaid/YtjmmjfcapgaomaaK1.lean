/- MaskFor of the program and of the reference; CoatEvens. -/
import Derived.Test.YtjmmjfcapgaomaaK0
import Derived.Test.YtjmmjfcapgaomaaM1
namespace Go.Ab
open Go
set_option maxRecDepth 1000000
set_option maxHeartbeats 1000000
set_option linter.unusedVariables false
set_option linter.unusedSimpArgs false

theorem k_MaskFor_l4 {r w : List Int} (hE : maskE r w = 0) : iterF (fun y : (List Int × Int × Unit) => (T_coat_MaskFor_l4 r w (best r w r.length : Nat) y.1 y.2.1).run) FUEL ([], 0, ()) = some (.inr ((maskL r w r.length, 0, ()), ())) := by
  obtain ⟨hI1, hp⟩ := maskE_inv hE
  refine iter_eq (fun i x => x = (maskL r w i, (i : Int), ())) _ r.length (by omega) ?_ rfl
  rintro i x hi rfl
  have hl := maskL_length r w i
  have hbd := best_lt (r := r) (w := w) (by omega)
  have hpr := mask_mul (r := r) (w := w) (i := i) hp
  simp only [T_coat_MaskFor_l4]
  by_cases hlt : i < r.length
  · left
    obtain ⟨p1, p2, p3, p4⟩ := hpr hlt
    refine ⟨_, by simp (maxSteps := 1000000) (disch := first | omega | assumption) only [r_ret, r_br, decide_eq_true_eq, Bool.not_eq_eq_eq_not, decide_eq_false_iff_not, ite_not, q_true, r_bind, r_iter, q_inB, q_nz, q_app, q_eq, q_bnd, q_str, w64', Option.bind_some, Option.bind_none, List.length_cons, List.length_nil, List.length_append, Nat.zero_add, if_pos, if_neg, decide_true, decide_false, if_true, if_false, Bool.not_true, Bool.not_false, Bool.false_eq_true, Bool.true_eq_false, not_true_eq_false, not_false_eq_true, reduceIte, List.nil_append, hl] <;> rfl, hlt, ?_⟩
    rw [maskL_succ]; rfl
  · right
    have : i = r.length := by omega
    subst this
    simp (maxSteps := 1000000) (disch := first | omega | assumption) only [r_ret, r_br, decide_eq_true_eq, Bool.not_eq_eq_eq_not, decide_eq_false_iff_not, ite_not, q_true, r_bind, r_iter, q_inB, q_nz, q_app, q_eq, q_bnd, q_str, w64', Option.bind_some, Option.bind_none, List.length_cons, List.length_nil, List.length_append, Nat.zero_add, if_pos, if_neg, decide_true, decide_false, if_true, if_false, Bool.not_true, Bool.not_false, Bool.false_eq_true, Bool.true_eq_false, not_true_eq_false, not_false_eq_true, reduceIte, List.nil_append]
theorem k_rMaskFor_l4 {r w : List Int} (hE : maskE r w = 0) : iterF (fun y : (List Int × Int × Unit) => (T_ref08xMaskFor_l4 r w (best r w r.length : Nat) y.1 y.2.1).run) FUEL ([], 0, ()) = some (.inr ((maskL r w r.length, 0, ()), ())) := by
  obtain ⟨hI1, hp⟩ := maskE_inv hE
  refine iter_eq (fun i x => x = (maskL r w i, (i : Int), ())) _ r.length (by omega) ?_ rfl
  rintro i x hi rfl
  have hl := maskL_length r w i
  have hbd := best_lt (r := r) (w := w) (by omega)
  have hpr := mask_mul (r := r) (w := w) (i := i) hp
  simp only [T_ref08xMaskFor_l4]
  by_cases hlt : i < r.length
  · left
    obtain ⟨p1, p2, p3, p4⟩ := hpr hlt
    refine ⟨_, by simp (maxSteps := 1000000) (disch := first | omega | assumption) only [r_ret, r_br, decide_eq_true_eq, Bool.not_eq_eq_eq_not, decide_eq_false_iff_not, ite_not, q_true, r_bind, r_iter, q_inB, q_nz, q_app, q_eq, q_bnd, q_str, w64', Option.bind_some, Option.bind_none, List.length_cons, List.length_nil, List.length_append, Nat.zero_add, if_pos, if_neg, decide_true, decide_false, if_true, if_false, Bool.not_true, Bool.not_false, Bool.false_eq_true, Bool.true_eq_false, not_true_eq_false, not_false_eq_true, reduceIte, List.nil_append, hl] <;> rfl, hlt, ?_⟩
    rw [maskL_succ]; rfl
  · right
    have : i = r.length := by omega
    subst this
    simp (maxSteps := 1000000) (disch := first | omega | assumption) only [r_ret, r_br, decide_eq_true_eq, Bool.not_eq_eq_eq_not, decide_eq_false_iff_not, ite_not, q_true, r_bind, r_iter, q_inB, q_nz, q_app, q_eq, q_bnd, q_str, w64', Option.bind_some, Option.bind_none, List.length_cons, List.length_nil, List.length_append, Nat.zero_add, if_pos, if_neg, decide_true, decide_false, if_true, if_false, Bool.not_true, Bool.not_false, Bool.false_eq_true, Bool.true_eq_false, not_true_eq_false, not_false_eq_true, reduceIte, List.nil_append]

theorem k_MaskFor {r w : List Int} (hr : r.length ≤ 1048576) (hw : w.length ≤ 1048576) : coat_MaskFor r w = some ((maskV r w, maskE r w, ()), ()) := by
  simp only [coat_MaskFor, T_coat_MaskFor]
  by_cases h1 : 1 ≤ (r.length : Int) ∧ (r.length : Int) ≤ 40
  · by_cases h2 : (w.length : Int) = r.length
    · simp (maxSteps := 1000000) (disch := first | omega | assumption) only [r_ret, r_br, decide_eq_true_eq, Bool.not_eq_eq_eq_not, decide_eq_false_iff_not, ite_not, q_true, r_bind, r_iter, q_inB, q_nz, q_app, q_eq, q_bnd, q_str, w64', Option.bind_some, Option.bind_none, List.length_cons, List.length_nil, List.length_append, Nat.zero_add, if_pos, if_neg, decide_true, decide_false, if_true, if_false, Bool.not_true, Bool.not_false, Bool.false_eq_true, Bool.true_eq_false, not_true_eq_false, not_false_eq_true, reduceIte, List.nil_append, k_within, h1, h2, and_self]
      refine iter_eq (fun i x => x = ((best r w i : Int), (i : Int), ()) ∧ ∀ j, j < i → maskOk r w j) _ r.length (by omega) ?_ ⟨rfl, fun j hj => by omega⟩
      rintro i x hi ⟨rfl, hp⟩
      have hb := best_le r w i
      have hpr := best_mul (r := r) (w := w) (i := i) hp
      simp only [T_coat_MaskFor_l1]
      by_cases hlt : i < r.length
      · by_cases hok : maskOk r w i
        · left
          obtain ⟨p1, p2⟩ := hpr hok
          obtain ⟨o1, o2⟩ := hok
          have hn : ∀ j, j < i + 1 → maskOk r w j := fun j hj => by
            by_cases e : j = i
            · subst e; exact ⟨o1, o2⟩
            · exact hp j (by omega)
          by_cases hc : gi w (best r w i : Nat) * gi r i < gi w i * gi r (best r w i : Nat)
          · refine ⟨_, by simp (maxSteps := 1000000) (disch := first | omega | assumption) only [r_ret, r_br, decide_eq_true_eq, Bool.not_eq_eq_eq_not, decide_eq_false_iff_not, ite_not, q_true, r_bind, r_iter, q_inB, q_nz, q_app, q_eq, q_bnd, q_str, w64', Option.bind_some, Option.bind_none, List.length_cons, List.length_nil, List.length_append, Nat.zero_add, if_pos, if_neg, decide_true, decide_false, if_true, if_false, Bool.not_true, Bool.not_false, Bool.false_eq_true, Bool.true_eq_false, not_true_eq_false, not_false_eq_true, reduceIte, List.nil_append, k_within, o1, o2, and_self, hc] <;> rfl, hlt, ?_, hn⟩
            rw [best, if_pos hc]; rfl
          · refine ⟨_, by simp (maxSteps := 1000000) (disch := first | omega | assumption) only [r_ret, r_br, decide_eq_true_eq, Bool.not_eq_eq_eq_not, decide_eq_false_iff_not, ite_not, q_true, r_bind, r_iter, q_inB, q_nz, q_app, q_eq, q_bnd, q_str, w64', Option.bind_some, Option.bind_none, List.length_cons, List.length_nil, List.length_append, Nat.zero_add, if_pos, if_neg, decide_true, decide_false, if_true, if_false, Bool.not_true, Bool.not_false, Bool.false_eq_true, Bool.true_eq_false, not_true_eq_false, not_false_eq_true, reduceIte, List.nil_append, k_within, o1, o2, and_self, hc] <;> rfl, hlt, ?_, hn⟩
            rw [best, if_neg hc]; rfl
        · right
          have hE := maskE_range h1 h2 hlt hok
          have hV : maskV r w = [] := by rw [maskV, if_neg (by rw [hE]; decide)]
          rw [hE, hV]
          by_cases h3 : 1 ≤ gi r i ∧ gi r i ≤ 1000000
          · have h4 : ¬ (1 ≤ gi w i ∧ gi w i ≤ 1000000) := fun h => hok ⟨h3, h⟩
            simp (maxSteps := 1000000) (disch := first | omega | assumption) only [r_ret, r_br, decide_eq_true_eq, Bool.not_eq_eq_eq_not, decide_eq_false_iff_not, ite_not, q_true, r_bind, r_iter, q_inB, q_nz, q_app, q_eq, q_bnd, q_str, w64', Option.bind_some, Option.bind_none, List.length_cons, List.length_nil, List.length_append, Nat.zero_add, if_pos, if_neg, decide_true, decide_false, if_true, if_false, Bool.not_true, Bool.not_false, Bool.false_eq_true, Bool.true_eq_false, not_true_eq_false, not_false_eq_true, reduceIte, List.nil_append, k_within, h3, h4, and_self]
          · simp (maxSteps := 1000000) (disch := first | omega | assumption) only [r_ret, r_br, decide_eq_true_eq, Bool.not_eq_eq_eq_not, decide_eq_false_iff_not, ite_not, q_true, r_bind, r_iter, q_inB, q_nz, q_app, q_eq, q_bnd, q_str, w64', Option.bind_some, Option.bind_none, List.length_cons, List.length_nil, List.length_append, Nat.zero_add, if_pos, if_neg, decide_true, decide_false, if_true, if_false, Bool.not_true, Bool.not_false, Bool.false_eq_true, Bool.true_eq_false, not_true_eq_false, not_false_eq_true, reduceIte, List.nil_append, k_within, h3]
      · right
        have : i = r.length := by omega
        subst this
        have hE := maskE_ok h1 h2 hp
        have hV : maskV r w = maskL r w r.length := by rw [maskV, if_pos hE]
        simp (maxSteps := 1000000) (disch := first | omega | assumption) only [r_ret, r_br, decide_eq_true_eq, Bool.not_eq_eq_eq_not, decide_eq_false_iff_not, ite_not, q_true, r_bind, r_iter, q_inB, q_nz, q_app, q_eq, q_bnd, q_str, w64', Option.bind_some, Option.bind_none, List.length_cons, List.length_nil, List.length_append, Nat.zero_add, if_pos, if_neg, decide_true, decide_false, if_true, if_false, Bool.not_true, Bool.not_false, Bool.false_eq_true, Bool.true_eq_false, not_true_eq_false, not_false_eq_true, reduceIte, List.nil_append, k_MaskFor_l4 hE, hE, hV]
    · have hE : maskE r w = 10 := maskE_shape (by omega)
      have hV : maskV r w = [] := by rw [maskV, if_neg (by rw [hE]; decide)]
      simp (maxSteps := 1000000) (disch := first | omega | assumption) only [r_ret, r_br, decide_eq_true_eq, Bool.not_eq_eq_eq_not, decide_eq_false_iff_not, ite_not, q_true, r_bind, r_iter, q_inB, q_nz, q_app, q_eq, q_bnd, q_str, w64', Option.bind_some, Option.bind_none, List.length_cons, List.length_nil, List.length_append, Nat.zero_add, if_pos, if_neg, decide_true, decide_false, if_true, if_false, Bool.not_true, Bool.not_false, Bool.false_eq_true, Bool.true_eq_false, not_true_eq_false, not_false_eq_true, reduceIte, List.nil_append, k_within, h1, h2, and_self, hE, hV]
  · have hE : maskE r w = 10 := maskE_shape (by omega)
    have hV : maskV r w = [] := by rw [maskV, if_neg (by rw [hE]; decide)]
    simp (maxSteps := 1000000) (disch := first | omega | assumption) only [r_ret, r_br, decide_eq_true_eq, Bool.not_eq_eq_eq_not, decide_eq_false_iff_not, ite_not, q_true, r_bind, r_iter, q_inB, q_nz, q_app, q_eq, q_bnd, q_str, w64', Option.bind_some, Option.bind_none, List.length_cons, List.length_nil, List.length_append, Nat.zero_add, if_pos, if_neg, decide_true, decide_false, if_true, if_false, Bool.not_true, Bool.not_false, Bool.false_eq_true, Bool.true_eq_false, not_true_eq_false, not_false_eq_true, reduceIte, List.nil_append, k_within, h1, hE, hV]

theorem k_rMaskFor {r w : List Int} (hr : r.length ≤ 1048576) (hw : w.length ≤ 1048576) : ref08xMaskFor r w = some ((maskV r w, maskE r w, ()), ()) := by
  simp only [ref08xMaskFor, T_ref08xMaskFor]
  by_cases h1 : 1 ≤ (r.length : Int) ∧ (r.length : Int) ≤ 40
  · by_cases h2 : (w.length : Int) = r.length
    · simp (maxSteps := 1000000) (disch := first | omega | assumption) only [r_ret, r_br, decide_eq_true_eq, Bool.not_eq_eq_eq_not, decide_eq_false_iff_not, ite_not, q_true, r_bind, r_iter, q_inB, q_nz, q_app, q_eq, q_bnd, q_str, w64', Option.bind_some, Option.bind_none, List.length_cons, List.length_nil, List.length_append, Nat.zero_add, if_pos, if_neg, decide_true, decide_false, if_true, if_false, Bool.not_true, Bool.not_false, Bool.false_eq_true, Bool.true_eq_false, not_true_eq_false, not_false_eq_true, reduceIte, List.nil_append, k_Within, h1, h2, and_self]
      refine iter_eq (fun i x => x = ((best r w i : Int), (i : Int), ()) ∧ ∀ j, j < i → maskOk r w j) _ r.length (by omega) ?_ ⟨rfl, fun j hj => by omega⟩
      rintro i x hi ⟨rfl, hp⟩
      have hb := best_le r w i
      have hpr := best_mul (r := r) (w := w) (i := i) hp
      simp only [T_ref08xMaskFor_l1]
      by_cases hlt : i < r.length
      · by_cases hok : maskOk r w i
        · left
          obtain ⟨p1, p2⟩ := hpr hok
          obtain ⟨o1, o2⟩ := hok
          have hn : ∀ j, j < i + 1 → maskOk r w j := fun j hj => by
            by_cases e : j = i
            · subst e; exact ⟨o1, o2⟩
            · exact hp j (by omega)
          by_cases hc : gi w (best r w i : Nat) * gi r i < gi w i * gi r (best r w i : Nat)
          · refine ⟨_, by simp (maxSteps := 1000000) (disch := first | omega | assumption) only [r_ret, r_br, decide_eq_true_eq, Bool.not_eq_eq_eq_not, decide_eq_false_iff_not, ite_not, q_true, r_bind, r_iter, q_inB, q_nz, q_app, q_eq, q_bnd, q_str, w64', Option.bind_some, Option.bind_none, List.length_cons, List.length_nil, List.length_append, Nat.zero_add, if_pos, if_neg, decide_true, decide_false, if_true, if_false, Bool.not_true, Bool.not_false, Bool.false_eq_true, Bool.true_eq_false, not_true_eq_false, not_false_eq_true, reduceIte, List.nil_append, k_Within, o1, o2, and_self, hc] <;> rfl, hlt, ?_, hn⟩
            rw [best, if_pos hc]; rfl
          · refine ⟨_, by simp (maxSteps := 1000000) (disch := first | omega | assumption) only [r_ret, r_br, decide_eq_true_eq, Bool.not_eq_eq_eq_not, decide_eq_false_iff_not, ite_not, q_true, r_bind, r_iter, q_inB, q_nz, q_app, q_eq, q_bnd, q_str, w64', Option.bind_some, Option.bind_none, List.length_cons, List.length_nil, List.length_append, Nat.zero_add, if_pos, if_neg, decide_true, decide_false, if_true, if_false, Bool.not_true, Bool.not_false, Bool.false_eq_true, Bool.true_eq_false, not_true_eq_false, not_false_eq_true, reduceIte, List.nil_append, k_Within, o1, o2, and_self, hc] <;> rfl, hlt, ?_, hn⟩
            rw [best, if_neg hc]; rfl
        · right
          have hE := maskE_range h1 h2 hlt hok
          have hV : maskV r w = [] := by rw [maskV, if_neg (by rw [hE]; decide)]
          rw [hE, hV]
          by_cases h3 : 1 ≤ gi r i ∧ gi r i ≤ 1000000
          · have h4 : ¬ (1 ≤ gi w i ∧ gi w i ≤ 1000000) := fun h => hok ⟨h3, h⟩
            simp (maxSteps := 1000000) (disch := first | omega | assumption) only [r_ret, r_br, decide_eq_true_eq, Bool.not_eq_eq_eq_not, decide_eq_false_iff_not, ite_not, q_true, r_bind, r_iter, q_inB, q_nz, q_app, q_eq, q_bnd, q_str, w64', Option.bind_some, Option.bind_none, List.length_cons, List.length_nil, List.length_append, Nat.zero_add, if_pos, if_neg, decide_true, decide_false, if_true, if_false, Bool.not_true, Bool.not_false, Bool.false_eq_true, Bool.true_eq_false, not_true_eq_false, not_false_eq_true, reduceIte, List.nil_append, k_Within, h3, h4, and_self]
          · simp (maxSteps := 1000000) (disch := first | omega | assumption) only [r_ret, r_br, decide_eq_true_eq, Bool.not_eq_eq_eq_not, decide_eq_false_iff_not, ite_not, q_true, r_bind, r_iter, q_inB, q_nz, q_app, q_eq, q_bnd, q_str, w64', Option.bind_some, Option.bind_none, List.length_cons, List.length_nil, List.length_append, Nat.zero_add, if_pos, if_neg, decide_true, decide_false, if_true, if_false, Bool.not_true, Bool.not_false, Bool.false_eq_true, Bool.true_eq_false, not_true_eq_false, not_false_eq_true, reduceIte, List.nil_append, k_Within, h3]
      · right
        have : i = r.length := by omega
        subst this
        have hE := maskE_ok h1 h2 hp
        have hV : maskV r w = maskL r w r.length := by rw [maskV, if_pos hE]
        simp (maxSteps := 1000000) (disch := first | omega | assumption) only [r_ret, r_br, decide_eq_true_eq, Bool.not_eq_eq_eq_not, decide_eq_false_iff_not, ite_not, q_true, r_bind, r_iter, q_inB, q_nz, q_app, q_eq, q_bnd, q_str, w64', Option.bind_some, Option.bind_none, List.length_cons, List.length_nil, List.length_append, Nat.zero_add, if_pos, if_neg, decide_true, decide_false, if_true, if_false, Bool.not_true, Bool.not_false, Bool.false_eq_true, Bool.true_eq_false, not_true_eq_false, not_false_eq_true, reduceIte, List.nil_append, k_rMaskFor_l4 hE, hE, hV]
    · have hE : maskE r w = 10 := maskE_shape (by omega)
      have hV : maskV r w = [] := by rw [maskV, if_neg (by rw [hE]; decide)]
      simp (maxSteps := 1000000) (disch := first | omega | assumption) only [r_ret, r_br, decide_eq_true_eq, Bool.not_eq_eq_eq_not, decide_eq_false_iff_not, ite_not, q_true, r_bind, r_iter, q_inB, q_nz, q_app, q_eq, q_bnd, q_str, w64', Option.bind_some, Option.bind_none, List.length_cons, List.length_nil, List.length_append, Nat.zero_add, if_pos, if_neg, decide_true, decide_false, if_true, if_false, Bool.not_true, Bool.not_false, Bool.false_eq_true, Bool.true_eq_false, not_true_eq_false, not_false_eq_true, reduceIte, List.nil_append, k_Within, h1, h2, and_self, hE, hV]
  · have hE : maskE r w = 10 := maskE_shape (by omega)
    have hV : maskV r w = [] := by rw [maskV, if_neg (by rw [hE]; decide)]
    simp (maxSteps := 1000000) (disch := first | omega | assumption) only [r_ret, r_br, decide_eq_true_eq, Bool.not_eq_eq_eq_not, decide_eq_false_iff_not, ite_not, q_true, r_bind, r_iter, q_inB, q_nz, q_app, q_eq, q_bnd, q_str, w64', Option.bind_some, Option.bind_none, List.length_cons, List.length_nil, List.length_append, Nat.zero_add, if_pos, if_neg, decide_true, decide_false, if_true, if_false, Bool.not_true, Bool.not_false, Bool.false_eq_true, Bool.true_eq_false, not_true_eq_false, not_false_eq_true, reduceIte, List.nil_append, k_Within, h1, hE, hV]
end Go.Ab
