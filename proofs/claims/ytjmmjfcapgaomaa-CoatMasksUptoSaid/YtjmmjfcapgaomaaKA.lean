/- What small functions of chapter 8 come to; the examples. MaskFor of the program and of the reference; CoatEvens. Names; materials; layers. Materials by their names. Materials and layers of the program. Sums of layers: Total, CheckRecipe, Thickness of the program and of the reference. CoatLayers answers true. Division, ranges. CoatCounts answers true. Lemmas for the quick walk. -/
import Derived.Test.YtjmmjfcapgaomaaP5
import Derived.Test.YtjmmjfcapgaomaaL0
import Derived.Test.YtjmmjfcapgaomaaM1
import Derived.Test.YtjmmjfcapgaomaaR1
import Derived.Test.YtjmmjfcapgaomaaL1
section
namespace Go.Ab
open Go
set_option maxRecDepth 1000000
set_option linter.unusedVariables false
set_option linter.unusedSimpArgs false

theorem awake_ok : law08xawake = some ((true, ()), ()) := by kernel_rfl

theorem k_within (n lo hi : Int) : coat_within n lo hi = some ((decide (lo ≤ n ∧ n ≤ hi), ()), ()) := by
  simp only [coat_within, T_coat_within, r_br, r_ret]
  by_cases h : lo ≤ n <;> simp [h]
theorem k_Within (n lo hi : Int) : base_Within n lo hi = some ((decide (lo ≤ n ∧ n ≤ hi), ()), ()) := by
  simp only [base_Within, T_base_Within, r_br, r_ret]
  by_cases h : lo ≤ n <;> simp [h]
theorem k_CopyInts {l : List Int} (h : l.length ≤ 1099511627776) : base_CopyInts l = some ((l, ()), ()) := by
  simp only [base_CopyInts, T_base_CopyInts, r_req, r_ret, okApp_t (n := l.length) (b := 8) (by omega), if_true]

/-- Two lists are equal as far as i. -/
theorem list_eq {a b : List Int} (h : a.length = b.length) (h2 : ∀ j : Nat, j < a.length → gi a j = gi b j) : a = b := by
  refine List.ext_getElem h fun i h1 h3 => ?_
  have := h2 i h1
  simpa [gi, List.getD, List.getElem?_eq_getElem h1, List.getElem?_eq_getElem h3] using this
theorem k_Ints {a b : List Int} (ha : a.length ≤ 1099511627776) : base_Ints a b = some ((decide (a = b), ()), ()) := by
  simp only [base_Ints, T_base_Ints, r_br, r_ret, r_iter]
  by_cases hl : (a.length : Int) = b.length
  · simp only [hl, decide_true, Bool.not_true, Bool.false_eq_true, if_false]
    have hl' : a.length = b.length := by omega
    refine iter_eq (fun i x => x = ((i : Int), ()) ∧ ∀ j : Nat, j < i → gi a j = gi b j) _ a.length (by omega) ?_ ⟨rfl, fun j hj => by omega⟩
    rintro i x hi ⟨rfl, hp⟩
    simp only [T_base_Ints_l0, r_br, r_req, r_ret]
    by_cases hlt : i < a.length
    · rw [if_pos (by simp; omega), if_pos (inB_t (by omega)), if_pos (inB_t (by omega))]
      by_cases he : gi a i = gi b i
      · left
        refine ⟨_, if_neg (by simp [he]), hlt, ?_, ?_⟩
        · rw [w64 (by omega)]; rfl
        · intro j hj
          by_cases e : j = i
          · subst e; exact he
          · exact hp j (by omega)
      · right
        rw [if_pos (by simp [he])]
        have : a ≠ b := fun e => he (by rw [e])
        simp [this]
    · right
      rw [if_neg (by simp; omega)]
      have : a = b := list_eq hl' fun j hj => hp j (by omega)
      simp [this]
  · have : a ≠ b := fun e => hl (by rw [e])
    simp [hl, this]
end Go.Ab
end

section
namespace Go.Ab
open Go
set_option maxRecDepth 1000000
set_option maxHeartbeats 1000000
set_option linter.unusedVariables false
set_option linter.unusedSimpArgs false

theorem k_MaskFor_l4 {r w : List Int} (hE : maskE r w = 0) : iterF (fun y : (List Int × Int × Unit) => (T_coat_MaskFor_l4 r w (best r w r.length : Nat) y.1 y.2.1).run) FUEL ([], 0, ()) = some (.inr ((maskL r w r.length, 0, ()), ())) := by
  obtain ⟨hI1, hp⟩ := maskE_inv hE
  refine iter_eq (fun i x => x = (maskL r w i, (i : Int), ())) _ r.length (by omega) ?_ rfl
  rintro i x hi rfl
  have hl := maskL_length r w i
  have hbd := best_lt (r := r) (w := w) (by omega)
  have hpr := mask_mul (r := r) (w := w) (i := i) hp
  simp only [T_coat_MaskFor_l4]
  by_cases hlt : i < r.length
  · left
    obtain ⟨p1, p2, p3, p4⟩ := hpr hlt
    refine ⟨_, by simp (maxSteps := 1000000) (disch := first | omega | assumption) only [r_ret, r_br, decide_eq_true_eq, Bool.not_eq_eq_eq_not, decide_eq_false_iff_not, ite_not, q_true, r_bind, r_iter, q_inB, q_nz, q_app, q_eq, q_bnd, q_str, w64', Option.bind_some, Option.bind_none, List.length_cons, List.length_nil, List.length_append, Nat.zero_add, if_pos, if_neg, decide_true, decide_false, if_true, if_false, Bool.not_true, Bool.not_false, Bool.false_eq_true, Bool.true_eq_false, not_true_eq_false, not_false_eq_true, reduceIte, List.nil_append, hl] <;> rfl, hlt, ?_⟩
    rw [maskL_succ]; rfl
  · right
    have : i = r.length := by omega
    subst this
    simp (maxSteps := 1000000) (disch := first | omega | assumption) only [r_ret, r_br, decide_eq_true_eq, Bool.not_eq_eq_eq_not, decide_eq_false_iff_not, ite_not, q_true, r_bind, r_iter, q_inB, q_nz, q_app, q_eq, q_bnd, q_str, w64', Option.bind_some, Option.bind_none, List.length_cons, List.length_nil, List.length_append, Nat.zero_add, if_pos, if_neg, decide_true, decide_false, if_true, if_false, Bool.not_true, Bool.not_false, Bool.false_eq_true, Bool.true_eq_false, not_true_eq_false, not_false_eq_true, reduceIte, List.nil_append]
theorem k_rMaskFor_l4 {r w : List Int} (hE : maskE r w = 0) : iterF (fun y : (List Int × Int × Unit) => (T_ref08xMaskFor_l4 r w (best r w r.length : Nat) y.1 y.2.1).run) FUEL ([], 0, ()) = some (.inr ((maskL r w r.length, 0, ()), ())) := by
  obtain ⟨hI1, hp⟩ := maskE_inv hE
  refine iter_eq (fun i x => x = (maskL r w i, (i : Int), ())) _ r.length (by omega) ?_ rfl
  rintro i x hi rfl
  have hl := maskL_length r w i
  have hbd := best_lt (r := r) (w := w) (by omega)
  have hpr := mask_mul (r := r) (w := w) (i := i) hp
  simp only [T_ref08xMaskFor_l4]
  by_cases hlt : i < r.length
  · left
    obtain ⟨p1, p2, p3, p4⟩ := hpr hlt
    refine ⟨_, by simp (maxSteps := 1000000) (disch := first | omega | assumption) only [r_ret, r_br, decide_eq_true_eq, Bool.not_eq_eq_eq_not, decide_eq_false_iff_not, ite_not, q_true, r_bind, r_iter, q_inB, q_nz, q_app, q_eq, q_bnd, q_str, w64', Option.bind_some, Option.bind_none, List.length_cons, List.length_nil, List.length_append, Nat.zero_add, if_pos, if_neg, decide_true, decide_false, if_true, if_false, Bool.not_true, Bool.not_false, Bool.false_eq_true, Bool.true_eq_false, not_true_eq_false, not_false_eq_true, reduceIte, List.nil_append, hl] <;> rfl, hlt, ?_⟩
    rw [maskL_succ]; rfl
  · right
    have : i = r.length := by omega
    subst this
    simp (maxSteps := 1000000) (disch := first | omega | assumption) only [r_ret, r_br, decide_eq_true_eq, Bool.not_eq_eq_eq_not, decide_eq_false_iff_not, ite_not, q_true, r_bind, r_iter, q_inB, q_nz, q_app, q_eq, q_bnd, q_str, w64', Option.bind_some, Option.bind_none, List.length_cons, List.length_nil, List.length_append, Nat.zero_add, if_pos, if_neg, decide_true, decide_false, if_true, if_false, Bool.not_true, Bool.not_false, Bool.false_eq_true, Bool.true_eq_false, not_true_eq_false, not_false_eq_true, reduceIte, List.nil_append]

theorem k_MaskFor {r w : List Int} (hr : r.length ≤ 1048576) (hw : w.length ≤ 1048576) : coat_MaskFor r w = some ((maskV r w, maskE r w, ()), ()) := by
  simp only [coat_MaskFor, T_coat_MaskFor]
  by_cases h1 : 1 ≤ (r.length : Int) ∧ (r.length : Int) ≤ 40
  · by_cases h2 : (w.length : Int) = r.length
    · simp (maxSteps := 1000000) (disch := first | omega | assumption) only [r_ret, r_br, decide_eq_true_eq, Bool.not_eq_eq_eq_not, decide_eq_false_iff_not, ite_not, q_true, r_bind, r_iter, q_inB, q_nz, q_app, q_eq, q_bnd, q_str, w64', Option.bind_some, Option.bind_none, List.length_cons, List.length_nil, List.length_append, Nat.zero_add, if_pos, if_neg, decide_true, decide_false, if_true, if_false, Bool.not_true, Bool.not_false, Bool.false_eq_true, Bool.true_eq_false, not_true_eq_false, not_false_eq_true, reduceIte, List.nil_append, k_within, h1, h2, and_self]
      refine iter_eq (fun i x => x = ((best r w i : Int), (i : Int), ()) ∧ ∀ j, j < i → maskOk r w j) _ r.length (by omega) ?_ ⟨rfl, fun j hj => by omega⟩
      rintro i x hi ⟨rfl, hp⟩
      have hb := best_le r w i
      have hpr := best_mul (r := r) (w := w) (i := i) hp
      simp only [T_coat_MaskFor_l1]
      by_cases hlt : i < r.length
      · by_cases hok : maskOk r w i
        · left
          obtain ⟨p1, p2⟩ := hpr hok
          obtain ⟨o1, o2⟩ := hok
          have hn : ∀ j, j < i + 1 → maskOk r w j := fun j hj => by
            by_cases e : j = i
            · subst e; exact ⟨o1, o2⟩
            · exact hp j (by omega)
          by_cases hc : gi w (best r w i : Nat) * gi r i < gi w i * gi r (best r w i : Nat)
          · refine ⟨_, by simp (maxSteps := 1000000) (disch := first | omega | assumption) only [r_ret, r_br, decide_eq_true_eq, Bool.not_eq_eq_eq_not, decide_eq_false_iff_not, ite_not, q_true, r_bind, r_iter, q_inB, q_nz, q_app, q_eq, q_bnd, q_str, w64', Option.bind_some, Option.bind_none, List.length_cons, List.length_nil, List.length_append, Nat.zero_add, if_pos, if_neg, decide_true, decide_false, if_true, if_false, Bool.not_true, Bool.not_false, Bool.false_eq_true, Bool.true_eq_false, not_true_eq_false, not_false_eq_true, reduceIte, List.nil_append, k_within, o1, o2, and_self, hc] <;> rfl, hlt, ?_, hn⟩
            rw [best, if_pos hc]; rfl
          · refine ⟨_, by simp (maxSteps := 1000000) (disch := first | omega | assumption) only [r_ret, r_br, decide_eq_true_eq, Bool.not_eq_eq_eq_not, decide_eq_false_iff_not, ite_not, q_true, r_bind, r_iter, q_inB, q_nz, q_app, q_eq, q_bnd, q_str, w64', Option.bind_some, Option.bind_none, List.length_cons, List.length_nil, List.length_append, Nat.zero_add, if_pos, if_neg, decide_true, decide_false, if_true, if_false, Bool.not_true, Bool.not_false, Bool.false_eq_true, Bool.true_eq_false, not_true_eq_false, not_false_eq_true, reduceIte, List.nil_append, k_within, o1, o2, and_self, hc] <;> rfl, hlt, ?_, hn⟩
            rw [best, if_neg hc]; rfl
        · right
          have hE := maskE_range h1 h2 hlt hok
          have hV : maskV r w = [] := by rw [maskV, if_neg (by rw [hE]; decide)]
          rw [hE, hV]
          by_cases h3 : 1 ≤ gi r i ∧ gi r i ≤ 1000000
          · have h4 : ¬ (1 ≤ gi w i ∧ gi w i ≤ 1000000) := fun h => hok ⟨h3, h⟩
            simp (maxSteps := 1000000) (disch := first | omega | assumption) only [r_ret, r_br, decide_eq_true_eq, Bool.not_eq_eq_eq_not, decide_eq_false_iff_not, ite_not, q_true, r_bind, r_iter, q_inB, q_nz, q_app, q_eq, q_bnd, q_str, w64', Option.bind_some, Option.bind_none, List.length_cons, List.length_nil, List.length_append, Nat.zero_add, if_pos, if_neg, decide_true, decide_false, if_true, if_false, Bool.not_true, Bool.not_false, Bool.false_eq_true, Bool.true_eq_false, not_true_eq_false, not_false_eq_true, reduceIte, List.nil_append, k_within, h3, h4, and_self]
          · simp (maxSteps := 1000000) (disch := first | omega | assumption) only [r_ret, r_br, decide_eq_true_eq, Bool.not_eq_eq_eq_not, decide_eq_false_iff_not, ite_not, q_true, r_bind, r_iter, q_inB, q_nz, q_app, q_eq, q_bnd, q_str, w64', Option.bind_some, Option.bind_none, List.length_cons, List.length_nil, List.length_append, Nat.zero_add, if_pos, if_neg, decide_true, decide_false, if_true, if_false, Bool.not_true, Bool.not_false, Bool.false_eq_true, Bool.true_eq_false, not_true_eq_false, not_false_eq_true, reduceIte, List.nil_append, k_within, h3]
      · right
        have : i = r.length := by omega
        subst this
        have hE := maskE_ok h1 h2 hp
        have hV : maskV r w = maskL r w r.length := by rw [maskV, if_pos hE]
        simp (maxSteps := 1000000) (disch := first | omega | assumption) only [r_ret, r_br, decide_eq_true_eq, Bool.not_eq_eq_eq_not, decide_eq_false_iff_not, ite_not, q_true, r_bind, r_iter, q_inB, q_nz, q_app, q_eq, q_bnd, q_str, w64', Option.bind_some, Option.bind_none, List.length_cons, List.length_nil, List.length_append, Nat.zero_add, if_pos, if_neg, decide_true, decide_false, if_true, if_false, Bool.not_true, Bool.not_false, Bool.false_eq_true, Bool.true_eq_false, not_true_eq_false, not_false_eq_true, reduceIte, List.nil_append, k_MaskFor_l4 hE, hE, hV]
    · have hE : maskE r w = 10 := maskE_shape (by omega)
      have hV : maskV r w = [] := by rw [maskV, if_neg (by rw [hE]; decide)]
      simp (maxSteps := 1000000) (disch := first | omega | assumption) only [r_ret, r_br, decide_eq_true_eq, Bool.not_eq_eq_eq_not, decide_eq_false_iff_not, ite_not, q_true, r_bind, r_iter, q_inB, q_nz, q_app, q_eq, q_bnd, q_str, w64', Option.bind_some, Option.bind_none, List.length_cons, List.length_nil, List.length_append, Nat.zero_add, if_pos, if_neg, decide_true, decide_false, if_true, if_false, Bool.not_true, Bool.not_false, Bool.false_eq_true, Bool.true_eq_false, not_true_eq_false, not_false_eq_true, reduceIte, List.nil_append, k_within, h1, h2, and_self, hE, hV]
  · have hE : maskE r w = 10 := maskE_shape (by omega)
    have hV : maskV r w = [] := by rw [maskV, if_neg (by rw [hE]; decide)]
    simp (maxSteps := 1000000) (disch := first | omega | assumption) only [r_ret, r_br, decide_eq_true_eq, Bool.not_eq_eq_eq_not, decide_eq_false_iff_not, ite_not, q_true, r_bind, r_iter, q_inB, q_nz, q_app, q_eq, q_bnd, q_str, w64', Option.bind_some, Option.bind_none, List.length_cons, List.length_nil, List.length_append, Nat.zero_add, if_pos, if_neg, decide_true, decide_false, if_true, if_false, Bool.not_true, Bool.not_false, Bool.false_eq_true, Bool.true_eq_false, not_true_eq_false, not_false_eq_true, reduceIte, List.nil_append, k_within, h1, hE, hV]

theorem k_rMaskFor {r w : List Int} (hr : r.length ≤ 1048576) (hw : w.length ≤ 1048576) : ref08xMaskFor r w = some ((maskV r w, maskE r w, ()), ()) := by
  simp only [ref08xMaskFor, T_ref08xMaskFor]
  by_cases h1 : 1 ≤ (r.length : Int) ∧ (r.length : Int) ≤ 40
  · by_cases h2 : (w.length : Int) = r.length
    · simp (maxSteps := 1000000) (disch := first | omega | assumption) only [r_ret, r_br, decide_eq_true_eq, Bool.not_eq_eq_eq_not, decide_eq_false_iff_not, ite_not, q_true, r_bind, r_iter, q_inB, q_nz, q_app, q_eq, q_bnd, q_str, w64', Option.bind_some, Option.bind_none, List.length_cons, List.length_nil, List.length_append, Nat.zero_add, if_pos, if_neg, decide_true, decide_false, if_true, if_false, Bool.not_true, Bool.not_false, Bool.false_eq_true, Bool.true_eq_false, not_true_eq_false, not_false_eq_true, reduceIte, List.nil_append, k_Within, h1, h2, and_self]
      refine iter_eq (fun i x => x = ((best r w i : Int), (i : Int), ()) ∧ ∀ j, j < i → maskOk r w j) _ r.length (by omega) ?_ ⟨rfl, fun j hj => by omega⟩
      rintro i x hi ⟨rfl, hp⟩
      have hb := best_le r w i
      have hpr := best_mul (r := r) (w := w) (i := i) hp
      simp only [T_ref08xMaskFor_l1]
      by_cases hlt : i < r.length
      · by_cases hok : maskOk r w i
        · left
          obtain ⟨p1, p2⟩ := hpr hok
          obtain ⟨o1, o2⟩ := hok
          have hn : ∀ j, j < i + 1 → maskOk r w j := fun j hj => by
            by_cases e : j = i
            · subst e; exact ⟨o1, o2⟩
            · exact hp j (by omega)
          by_cases hc : gi w (best r w i : Nat) * gi r i < gi w i * gi r (best r w i : Nat)
          · refine ⟨_, by simp (maxSteps := 1000000) (disch := first | omega | assumption) only [r_ret, r_br, decide_eq_true_eq, Bool.not_eq_eq_eq_not, decide_eq_false_iff_not, ite_not, q_true, r_bind, r_iter, q_inB, q_nz, q_app, q_eq, q_bnd, q_str, w64', Option.bind_some, Option.bind_none, List.length_cons, List.length_nil, List.length_append, Nat.zero_add, if_pos, if_neg, decide_true, decide_false, if_true, if_false, Bool.not_true, Bool.not_false, Bool.false_eq_true, Bool.true_eq_false, not_true_eq_false, not_false_eq_true, reduceIte, List.nil_append, k_Within, o1, o2, and_self, hc] <;> rfl, hlt, ?_, hn⟩
            rw [best, if_pos hc]; rfl
          · refine ⟨_, by simp (maxSteps := 1000000) (disch := first | omega | assumption) only [r_ret, r_br, decide_eq_true_eq, Bool.not_eq_eq_eq_not, decide_eq_false_iff_not, ite_not, q_true, r_bind, r_iter, q_inB, q_nz, q_app, q_eq, q_bnd, q_str, w64', Option.bind_some, Option.bind_none, List.length_cons, List.length_nil, List.length_append, Nat.zero_add, if_pos, if_neg, decide_true, decide_false, if_true, if_false, Bool.not_true, Bool.not_false, Bool.false_eq_true, Bool.true_eq_false, not_true_eq_false, not_false_eq_true, reduceIte, List.nil_append, k_Within, o1, o2, and_self, hc] <;> rfl, hlt, ?_, hn⟩
            rw [best, if_neg hc]; rfl
        · right
          have hE := maskE_range h1 h2 hlt hok
          have hV : maskV r w = [] := by rw [maskV, if_neg (by rw [hE]; decide)]
          rw [hE, hV]
          by_cases h3 : 1 ≤ gi r i ∧ gi r i ≤ 1000000
          · have h4 : ¬ (1 ≤ gi w i ∧ gi w i ≤ 1000000) := fun h => hok ⟨h3, h⟩
            simp (maxSteps := 1000000) (disch := first | omega | assumption) only [r_ret, r_br, decide_eq_true_eq, Bool.not_eq_eq_eq_not, decide_eq_false_iff_not, ite_not, q_true, r_bind, r_iter, q_inB, q_nz, q_app, q_eq, q_bnd, q_str, w64', Option.bind_some, Option.bind_none, List.length_cons, List.length_nil, List.length_append, Nat.zero_add, if_pos, if_neg, decide_true, decide_false, if_true, if_false, Bool.not_true, Bool.not_false, Bool.false_eq_true, Bool.true_eq_false, not_true_eq_false, not_false_eq_true, reduceIte, List.nil_append, k_Within, h3, h4, and_self]
          · simp (maxSteps := 1000000) (disch := first | omega | assumption) only [r_ret, r_br, decide_eq_true_eq, Bool.not_eq_eq_eq_not, decide_eq_false_iff_not, ite_not, q_true, r_bind, r_iter, q_inB, q_nz, q_app, q_eq, q_bnd, q_str, w64', Option.bind_some, Option.bind_none, List.length_cons, List.length_nil, List.length_append, Nat.zero_add, if_pos, if_neg, decide_true, decide_false, if_true, if_false, Bool.not_true, Bool.not_false, Bool.false_eq_true, Bool.true_eq_false, not_true_eq_false, not_false_eq_true, reduceIte, List.nil_append, k_Within, h3]
      · right
        have : i = r.length := by omega
        subst this
        have hE := maskE_ok h1 h2 hp
        have hV : maskV r w = maskL r w r.length := by rw [maskV, if_pos hE]
        simp (maxSteps := 1000000) (disch := first | omega | assumption) only [r_ret, r_br, decide_eq_true_eq, Bool.not_eq_eq_eq_not, decide_eq_false_iff_not, ite_not, q_true, r_bind, r_iter, q_inB, q_nz, q_app, q_eq, q_bnd, q_str, w64', Option.bind_some, Option.bind_none, List.length_cons, List.length_nil, List.length_append, Nat.zero_add, if_pos, if_neg, decide_true, decide_false, if_true, if_false, Bool.not_true, Bool.not_false, Bool.false_eq_true, Bool.true_eq_false, not_true_eq_false, not_false_eq_true, reduceIte, List.nil_append, k_rMaskFor_l4 hE, hE, hV]
    · have hE : maskE r w = 10 := maskE_shape (by omega)
      have hV : maskV r w = [] := by rw [maskV, if_neg (by rw [hE]; decide)]
      simp (maxSteps := 1000000) (disch := first | omega | assumption) only [r_ret, r_br, decide_eq_true_eq, Bool.not_eq_eq_eq_not, decide_eq_false_iff_not, ite_not, q_true, r_bind, r_iter, q_inB, q_nz, q_app, q_eq, q_bnd, q_str, w64', Option.bind_some, Option.bind_none, List.length_cons, List.length_nil, List.length_append, Nat.zero_add, if_pos, if_neg, decide_true, decide_false, if_true, if_false, Bool.not_true, Bool.not_false, Bool.false_eq_true, Bool.true_eq_false, not_true_eq_false, not_false_eq_true, reduceIte, List.nil_append, k_Within, h1, h2, and_self, hE, hV]
  · have hE : maskE r w = 10 := maskE_shape (by omega)
    have hV : maskV r w = [] := by rw [maskV, if_neg (by rw [hE]; decide)]
    simp (maxSteps := 1000000) (disch := first | omega | assumption) only [r_ret, r_br, decide_eq_true_eq, Bool.not_eq_eq_eq_not, decide_eq_false_iff_not, ite_not, q_true, r_bind, r_iter, q_inB, q_nz, q_app, q_eq, q_bnd, q_str, w64', Option.bind_some, Option.bind_none, List.length_cons, List.length_nil, List.length_append, Nat.zero_add, if_pos, if_neg, decide_true, decide_false, if_true, if_false, Bool.not_true, Bool.not_false, Bool.false_eq_true, Bool.true_eq_false, not_true_eq_false, not_false_eq_true, reduceIte, List.nil_append, k_Within, h1, hE, hV]
end Go.Ab
end

section
namespace Go.Ab
open Go
set_option maxRecDepth 1000000
set_option maxHeartbeats 1000000
set_option linter.unusedVariables false
set_option linter.unusedSimpArgs false

abbrev isLet (c : Int) : Prop := (97 ≤ c ∧ c ≤ 122) ∨ (65 ≤ c ∧ c ≤ 90)
abbrev isDig (c : Int) : Prop := 48 ≤ c ∧ c ≤ 57
abbrev nmAt (s : List UInt8) (j : Nat) : Prop := isLet ((gi s (j : Int)).toNat : Int) ∨ (j ≠ 0 ∧ (((gi s (j : Int)).toNat : Int) = 45 ∨ isDig ((gi s (j : Int)).toNat : Int)))
def isNm (s : List UInt8) : Prop := s ≠ [] ∧ s.length ≤ 12 ∧ ∀ j, j < s.length → nmAt s j
instance (s : List UInt8) : Decidable (isNm s) := by unfold isNm; infer_instance

theorem isName_body {s : List UInt8} {i : Nat} (hl : s.length ≤ 1099511627776) (hi : i < s.length) : (T_coat_isName_l0 s i).run = if nmAt s i then some (.inl ((i : Int) + 1, ())) else some (.inr ((false, ()), ())) := by
  simp only [T_coat_isName_l0]
  simp (maxSteps := 1000000) (disch := first | omega | assumption) only [r_ret, r_br, decide_eq_true_eq, Bool.not_eq_eq_eq_not, decide_eq_false_iff_not, ite_not, q_true, r_bind, r_iter, q_inB, q_nz, q_app, q_eq, q_bnd, q_str, w64', Option.bind_some, Option.bind_none, List.length_cons, List.length_nil, List.length_append, Nat.zero_add, if_pos, if_neg, decide_true, decide_false, if_true, if_false, Bool.not_true, Bool.not_false, Bool.false_eq_true, Bool.true_eq_false, not_true_eq_false, not_false_eq_true, reduceIte, List.nil_append, ]
  repeat' split
  all_goals first | rfl | (exfalso; omega)

theorem k_isName {s : List UInt8} (hl : s.length ≤ 1099511627776) : coat_isName s = some ((decide (isNm s), ()), ()) := by
  simp only [coat_isName, T_coat_isName]
  rw [r_iter]
  refine iter_eq (fun i x => x = ((i : Int), ()) ∧ ∀ j, j < i → nmAt s j) _ s.length (by omega) ?_ ⟨rfl, fun j hj => by omega⟩
  rintro i x hi ⟨rfl, hp⟩
  by_cases hlt : i < s.length
  · show (∃ x', (T_coat_isName_l0 s i).run = _ ∧ _) ∨ (T_coat_isName_l0 s i).run = _
    rw [isName_body hl hlt]
    by_cases h : nmAt s i
    · left
      refine ⟨_, if_pos h, hlt, rfl, fun j hj => ?_⟩
      by_cases e : j = i
      · subst e; exact h
      · exact hp j (by omega)
    · right
      rw [if_neg h]
      have : ¬ isNm s := fun hn => h (hn.2.2 i hlt)
      simp [this]
  · right
    have : i = s.length := by omega
    subst this
    simp only [T_coat_isName_l0]
    simp (maxSteps := 1000000) (disch := first | omega | assumption) only [r_ret, r_br, decide_eq_true_eq, Bool.not_eq_eq_eq_not, decide_eq_false_iff_not, ite_not, q_true, r_bind, r_iter, q_inB, q_nz, q_app, q_eq, q_bnd, q_str, w64', Option.bind_some, Option.bind_none, List.length_cons, List.length_nil, List.length_append, Nat.zero_add, if_pos, if_neg, decide_true, decide_false, if_true, if_false, Bool.not_true, Bool.not_false, Bool.false_eq_true, Bool.true_eq_false, not_true_eq_false, not_false_eq_true, reduceIte, List.nil_append, ]
    by_cases h0 : s = []
    · subst h0; simp [isNm]
    · simp only [h0, not_false_eq_true, if_true, if_false]
      have : isNm s ↔ (s.length : Int) ≤ 12 := ⟨fun h => by have := h.2.1; omega, fun h => ⟨h0, by omega, fun j hj => hp j (by omega)⟩⟩
      simp [this]

theorem k_isLetter (c : Int) : base_isLetter c = some ((decide (isLet c), ()), ()) := by
  simp only [base_isLetter, T_base_isLetter]
  simp (maxSteps := 1000000) (disch := first | omega | assumption) only [r_ret, r_br, decide_eq_true_eq, Bool.not_eq_eq_eq_not, decide_eq_false_iff_not, ite_not, q_true, r_bind, r_iter, q_inB, q_nz, q_app, q_eq, q_bnd, q_str, w64', Option.bind_some, Option.bind_none, List.length_cons, List.length_nil, List.length_append, Nat.zero_add, if_pos, if_neg, decide_true, decide_false, if_true, if_false, Bool.not_true, Bool.not_false, Bool.false_eq_true, Bool.true_eq_false, not_true_eq_false, not_false_eq_true, reduceIte, List.nil_append, ]
  repeat' split
  all_goals first | (congr 3; rw [decide_eq_decide]; omega) | (simp; omega)
theorem k_isDigit (c : Int) : base_isDigit c = some ((decide (isDig c), ()), ()) := by
  simp only [base_isDigit, T_base_isDigit]
  simp (maxSteps := 1000000) (disch := first | omega | assumption) only [r_ret, r_br, decide_eq_true_eq, Bool.not_eq_eq_eq_not, decide_eq_false_iff_not, ite_not, q_true, r_bind, r_iter, q_inB, q_nz, q_app, q_eq, q_bnd, q_str, w64', Option.bind_some, Option.bind_none, List.length_cons, List.length_nil, List.length_append, Nat.zero_add, if_pos, if_neg, decide_true, decide_false, if_true, if_false, Bool.not_true, Bool.not_false, Bool.false_eq_true, Bool.true_eq_false, not_true_eq_false, not_false_eq_true, reduceIte, List.nil_append, ]
  repeat' split
  all_goals first | (congr 3; rw [decide_eq_decide]; omega) | (simp; omega)
end Go.Ab
end

section
namespace Go.Ab
open Go
set_option maxRecDepth 1000000
set_option maxHeartbeats 1000000
set_option linter.unusedVariables false
set_option linter.unusedSimpArgs false

theorem k_IsName {s : List UInt8} (hl : s.length ≤ 1099511627776) : base_IsName s = some ((decide (isNm s), ()), ()) := by
  simp only [base_IsName, T_base_IsName]
  by_cases h0 : s.length = 0
  · have : ¬ isNm s := fun h => h.1 (List.eq_nil_of_length_eq_zero h0)
    simp (maxSteps := 1000000) (disch := first | omega | assumption) only [r_ret, r_br, decide_eq_true_eq, Bool.not_eq_eq_eq_not, decide_eq_false_iff_not, ite_not, q_true, r_bind, r_iter, q_inB, q_nz, q_app, q_eq, q_bnd, q_str, w64', Option.bind_some, Option.bind_none, List.length_cons, List.length_nil, List.length_append, Nat.zero_add, if_pos, if_neg, decide_true, decide_false, if_true, if_false, Bool.not_true, Bool.not_false, Bool.false_eq_true, Bool.true_eq_false, not_true_eq_false, not_false_eq_true, reduceIte, List.nil_append, h0, this]
  have hne : s ≠ [] := fun e => h0 (by rw [e]; rfl)
  by_cases h1 : (12 : Int) < s.length
  · have : ¬ isNm s := fun h => by have := h.2.1; omega
    simp (maxSteps := 1000000) (disch := first | omega | assumption) only [r_ret, r_br, decide_eq_true_eq, Bool.not_eq_eq_eq_not, decide_eq_false_iff_not, ite_not, q_true, r_bind, r_iter, q_inB, q_nz, q_app, q_eq, q_bnd, q_str, w64', Option.bind_some, Option.bind_none, List.length_cons, List.length_nil, List.length_append, Nat.zero_add, if_pos, if_neg, decide_true, decide_false, if_true, if_false, Bool.not_true, Bool.not_false, Bool.false_eq_true, Bool.true_eq_false, not_true_eq_false, not_false_eq_true, reduceIte, List.nil_append, h1, this]
  by_cases h2 : isLet ((gi s (0 : Int)).toNat : Int)
  · simp (maxSteps := 1000000) (disch := first | omega | assumption) only [r_ret, r_br, decide_eq_true_eq, Bool.not_eq_eq_eq_not, decide_eq_false_iff_not, ite_not, q_true, r_bind, r_iter, q_inB, q_nz, q_app, q_eq, q_bnd, q_str, w64', Option.bind_some, Option.bind_none, List.length_cons, List.length_nil, List.length_append, Nat.zero_add, if_pos, if_neg, decide_true, decide_false, if_true, if_false, Bool.not_true, Bool.not_false, Bool.false_eq_true, Bool.true_eq_false, not_true_eq_false, not_false_eq_true, reduceIte, List.nil_append, k_isLetter, h1, h2]
    refine iter_eq (fun i x => x = ((i : Int), ()) ∧ ∀ j, j < i → nmAt s j) _ s.length (by omega) ?_ ⟨rfl, fun j hj => by omega⟩
    rintro i x hi ⟨rfl, hp⟩
    simp only [T_base_IsName_l1]
    by_cases hlt : i < s.length
    · by_cases h : nmAt s i
      · left
        refine ⟨((i : Int) + 1, ()), ?_, hlt, rfl, fun j hj => ?_⟩
        · by_cases a : isLet ((gi s (i : Int)).toNat : Int)
          · simp (maxSteps := 1000000) (disch := first | omega | assumption) only [r_ret, r_br, decide_eq_true_eq, Bool.not_eq_eq_eq_not, decide_eq_false_iff_not, ite_not, q_true, r_bind, r_iter, q_inB, q_nz, q_app, q_eq, q_bnd, q_str, w64', Option.bind_some, Option.bind_none, List.length_cons, List.length_nil, List.length_append, Nat.zero_add, if_pos, if_neg, decide_true, decide_false, if_true, if_false, Bool.not_true, Bool.not_false, Bool.false_eq_true, Bool.true_eq_false, not_true_eq_false, not_false_eq_true, reduceIte, List.nil_append, k_isLetter, k_isDigit, a]
          · by_cases c : isDig ((gi s (i : Int)).toNat : Int)
            · simp (maxSteps := 1000000) (disch := first | omega | assumption) only [r_ret, r_br, decide_eq_true_eq, Bool.not_eq_eq_eq_not, decide_eq_false_iff_not, ite_not, q_true, r_bind, r_iter, q_inB, q_nz, q_app, q_eq, q_bnd, q_str, w64', Option.bind_some, Option.bind_none, List.length_cons, List.length_nil, List.length_append, Nat.zero_add, if_pos, if_neg, decide_true, decide_false, if_true, if_false, Bool.not_true, Bool.not_false, Bool.false_eq_true, Bool.true_eq_false, not_true_eq_false, not_false_eq_true, reduceIte, List.nil_append, k_isLetter, k_isDigit, a, c]
            · have e : ((gi s (i : Int)).toNat : Int) = 45 := by omega
              simp (maxSteps := 1000000) (disch := first | omega | assumption) only [r_ret, r_br, decide_eq_true_eq, Bool.not_eq_eq_eq_not, decide_eq_false_iff_not, ite_not, q_true, r_bind, r_iter, q_inB, q_nz, q_app, q_eq, q_bnd, q_str, w64', Option.bind_some, Option.bind_none, List.length_cons, List.length_nil, List.length_append, Nat.zero_add, if_pos, if_neg, decide_true, decide_false, if_true, if_false, Bool.not_true, Bool.not_false, Bool.false_eq_true, Bool.true_eq_false, not_true_eq_false, not_false_eq_true, reduceIte, List.nil_append, k_isLetter, k_isDigit, a, c, e]
        · by_cases e : j = i
          · subst e; exact h
          · exact hp j (by omega)
      · right
        have hn : ¬ isNm s := fun hn => h (hn.2.2 i hlt)
        have h' : ¬ isLet ((gi s (i : Int)).toNat : Int) ∧ (i ≠ 0 → ¬ ((gi s (i : Int)).toNat : Int) = 45 ∧ ¬ isDig ((gi s (i : Int)).toNat : Int)) := by
          constructor
          · exact fun a => h (.inl a)
          · intro hi0
            exact ⟨fun a => h (.inr ⟨hi0, .inl a⟩), fun a => h (.inr ⟨hi0, .inr a⟩)⟩
        have hi0 : i ≠ 0 := fun e => by subst e; exact h'.1 h2
        obtain ⟨a, b⟩ := h'
        obtain ⟨c, d⟩ := b hi0
        simp (maxSteps := 1000000) (disch := first | omega | assumption) only [r_ret, r_br, decide_eq_true_eq, Bool.not_eq_eq_eq_not, decide_eq_false_iff_not, ite_not, q_true, r_bind, r_iter, q_inB, q_nz, q_app, q_eq, q_bnd, q_str, w64', Option.bind_some, Option.bind_none, List.length_cons, List.length_nil, List.length_append, Nat.zero_add, if_pos, if_neg, decide_true, decide_false, if_true, if_false, Bool.not_true, Bool.not_false, Bool.false_eq_true, Bool.true_eq_false, not_true_eq_false, not_false_eq_true, reduceIte, List.nil_append, k_isLetter, k_isDigit, a, c, d, hn]
    · right
      have : i = s.length := by omega
      subst this
      have hn : isNm s := ⟨hne, by omega, fun j hj => hp j hj⟩
      simp (maxSteps := 1000000) (disch := first | omega | assumption) only [r_ret, r_br, decide_eq_true_eq, Bool.not_eq_eq_eq_not, decide_eq_false_iff_not, ite_not, q_true, r_bind, r_iter, q_inB, q_nz, q_app, q_eq, q_bnd, q_str, w64', Option.bind_some, Option.bind_none, List.length_cons, List.length_nil, List.length_append, Nat.zero_add, if_pos, if_neg, decide_true, decide_false, if_true, if_false, Bool.not_true, Bool.not_false, Bool.false_eq_true, Bool.true_eq_false, not_true_eq_false, not_false_eq_true, reduceIte, List.nil_append, hn]
  · have : ¬ isNm s := fun h => by
      have := h.2.2 0 (by omega)
      simp only [nmAt, ne_eq, not_true_eq_false, false_and, or_false] at this
      exact h2 this
    simp (maxSteps := 1000000) (disch := first | omega | assumption) only [r_ret, r_br, decide_eq_true_eq, Bool.not_eq_eq_eq_not, decide_eq_false_iff_not, ite_not, q_true, r_bind, r_iter, q_inB, q_nz, q_app, q_eq, q_bnd, q_str, w64', Option.bind_some, Option.bind_none, List.length_cons, List.length_nil, List.length_append, Nat.zero_add, if_pos, if_neg, decide_true, decide_false, if_true, if_false, Bool.not_true, Bool.not_false, Bool.false_eq_true, Bool.true_eq_false, not_true_eq_false, not_false_eq_true, reduceIte, List.nil_append, k_isLetter, h1, h2, this]

abbrev Mat := List UInt8 × Int × Int
def isMat (l : List Mat) (nm : List UInt8) : Nat → Bool := fun j => decide ((gi l (j : Int)).1 = nm)
def matIx (l : List Mat) (nm : List UInt8) : Int := idxTo (isMat l nm) l.length

theorem k_FindMaterial {l : List Mat} (hl : l.length ≤ 1099511627776) (nm : List UInt8) : ref08xFindMaterial l nm = some ((matIx l nm, ()), ()) := by
  simp only [ref08xFindMaterial, T_ref08xFindMaterial]
  rw [r_iter]
  refine iter_idx (isMat l nm) l.length hl (fun i => ((i, ()), ())) ?_ ?_ ?_
  · intro i hi hp
    have hp : (gi l (i : Int)).1 = nm := of_decide_eq_true hp
    simp only [T_ref08xFindMaterial_l0]
    simp (maxSteps := 1000000) (disch := first | omega | assumption) only [r_ret, r_br, decide_eq_true_eq, Bool.not_eq_eq_eq_not, decide_eq_false_iff_not, ite_not, q_true, r_bind, r_iter, q_inB, q_nz, q_app, q_eq, q_bnd, q_str, w64', Option.bind_some, Option.bind_none, List.length_cons, List.length_nil, List.length_append, Nat.zero_add, if_pos, if_neg, decide_true, decide_false, if_true, if_false, Bool.not_true, Bool.not_false, Bool.false_eq_true, Bool.true_eq_false, not_true_eq_false, not_false_eq_true, reduceIte, List.nil_append, hp]
  · intro i hi hp
    have hp : ¬ (gi l (i : Int)).1 = nm := of_decide_eq_false hp
    simp only [T_ref08xFindMaterial_l0]
    simp (maxSteps := 1000000) (disch := first | omega | assumption) only [r_ret, r_br, decide_eq_true_eq, Bool.not_eq_eq_eq_not, decide_eq_false_iff_not, ite_not, q_true, r_bind, r_iter, q_inB, q_nz, q_app, q_eq, q_bnd, q_str, w64', Option.bind_some, Option.bind_none, List.length_cons, List.length_nil, List.length_append, Nat.zero_add, if_pos, if_neg, decide_true, decide_false, if_true, if_false, Bool.not_true, Bool.not_false, Bool.false_eq_true, Bool.true_eq_false, not_true_eq_false, not_false_eq_true, reduceIte, List.nil_append, hp]
  · simp only [T_ref08xFindMaterial_l0]
    simp (maxSteps := 1000000) (disch := first | omega | assumption) only [r_ret, r_br, decide_eq_true_eq, Bool.not_eq_eq_eq_not, decide_eq_false_iff_not, ite_not, q_true, r_bind, r_iter, q_inB, q_nz, q_app, q_eq, q_bnd, q_str, w64', Option.bind_some, Option.bind_none, List.length_cons, List.length_nil, List.length_append, Nat.zero_add, if_pos, if_neg, decide_true, decide_false, if_true, if_false, Bool.not_true, Bool.not_false, Bool.false_eq_true, Bool.true_eq_false, not_true_eq_false, not_false_eq_true, reduceIte, List.nil_append, ]

theorem k_IndexFuncMat {l : List Mat} (hl : l.length ≤ 1099511627776) (nm : List UInt8) : slices_IndexFunc_api_Material_findc1 l nm = some ((matIx l nm, ()), (nm, ())) := by
  simp only [slices_IndexFunc_api_Material_findc1, T_slices_IndexFunc_api_Material_findc1]
  rw [r_iter]
  have hc : ∀ a b c, coat_find_c1 (a, b, c) nm = some ((decide (a = nm), ()), (nm, ())) := fun a b c => by
    simp only [coat_find_c1, T_coat_find_c1]; simp (maxSteps := 1000000) (disch := first | omega | assumption) only [r_ret, r_br, decide_eq_true_eq, Bool.not_eq_eq_eq_not, decide_eq_false_iff_not, ite_not, q_true, r_bind, r_iter, q_inB, q_nz, q_app, q_eq, q_bnd, q_str, w64', Option.bind_some, Option.bind_none, List.length_cons, List.length_nil, List.length_append, Nat.zero_add, if_pos, if_neg, decide_true, decide_false, if_true, if_false, Bool.not_true, Bool.not_false, Bool.false_eq_true, Bool.true_eq_false, not_true_eq_false, not_false_eq_true, reduceIte, List.nil_append, ]
  refine iter_eq (fun i x => x = ((i : Int), nm, ()) ∧ ∀ j, j < i → isMat l nm j = false) _ l.length (by omega) ?_ ⟨rfl, fun j hj => by omega⟩
  rintro i x hi ⟨rfl, hp⟩
  simp only [T_slices_IndexFunc_api_Material_findc1xl0]
  by_cases hlt : i < l.length
  · by_cases h : (gi l (i : Int)).1 = nm
    · right
      have : matIx l nm = i := idxTo_at hp (decide_eq_true h) hlt
      simp (maxSteps := 1000000) (disch := first | omega | assumption) only [r_ret, r_br, decide_eq_true_eq, Bool.not_eq_eq_eq_not, decide_eq_false_iff_not, ite_not, q_true, r_bind, r_iter, q_inB, q_nz, q_app, q_eq, q_bnd, q_str, w64', Option.bind_some, Option.bind_none, List.length_cons, List.length_nil, List.length_append, Nat.zero_add, if_pos, if_neg, decide_true, decide_false, if_true, if_false, Bool.not_true, Bool.not_false, Bool.false_eq_true, Bool.true_eq_false, not_true_eq_false, not_false_eq_true, reduceIte, List.nil_append, hc, h, this, eq_self]
    · left
      refine ⟨((i : Int) + 1, nm, ()), by simp (maxSteps := 1000000) (disch := first | omega | assumption) only [r_ret, r_br, decide_eq_true_eq, Bool.not_eq_eq_eq_not, decide_eq_false_iff_not, ite_not, q_true, r_bind, r_iter, q_inB, q_nz, q_app, q_eq, q_bnd, q_str, w64', Option.bind_some, Option.bind_none, List.length_cons, List.length_nil, List.length_append, Nat.zero_add, if_pos, if_neg, decide_true, decide_false, if_true, if_false, Bool.not_true, Bool.not_false, Bool.false_eq_true, Bool.true_eq_false, not_true_eq_false, not_false_eq_true, reduceIte, List.nil_append, hc, h], hlt, rfl, fun j hj => ?_⟩
      by_cases e : j = i
      · subst e; exact decide_eq_false h
      · exact hp j (by omega)
  · right
    have : i = l.length := by omega
    subst this
    have : matIx l nm = -1 := idxTo_none hp
    simp (maxSteps := 1000000) (disch := first | omega | assumption) only [r_ret, r_br, decide_eq_true_eq, Bool.not_eq_eq_eq_not, decide_eq_false_iff_not, ite_not, q_true, r_bind, r_iter, q_inB, q_nz, q_app, q_eq, q_bnd, q_str, w64', Option.bind_some, Option.bind_none, List.length_cons, List.length_nil, List.length_append, Nat.zero_add, if_pos, if_neg, decide_true, decide_false, if_true, if_false, Bool.not_true, Bool.not_false, Bool.false_eq_true, Bool.true_eq_false, not_true_eq_false, not_false_eq_true, reduceIte, List.nil_append, this]

theorem matIx_bd (l : List Mat) (nm : List UInt8) : -1 ≤ matIx l nm ∧ matIx l nm < l.length := idxTo_bd _ _

theorem k_find {l : List Mat} (hl : l.length ≤ 1099511627776) (nm : List UInt8) :
    coat_find l nm = some (if matIx l nm < 0 then ((([], 0, 0), 6, ()), ()) else ((gi l (matIx l nm), 0, ()), ())) := by
  simp only [coat_find, T_coat_find]
  have hb := matIx_bd l nm
  by_cases h : matIx l nm < 0
  · simp (maxSteps := 1000000) (disch := first | omega | assumption) only [r_ret, r_br, decide_eq_true_eq, Bool.not_eq_eq_eq_not, decide_eq_false_iff_not, ite_not, q_true, r_bind, r_iter, q_inB, q_nz, q_app, q_eq, q_bnd, q_str, w64', Option.bind_some, Option.bind_none, List.length_cons, List.length_nil, List.length_append, Nat.zero_add, if_pos, if_neg, decide_true, decide_false, if_true, if_false, Bool.not_true, Bool.not_false, Bool.false_eq_true, Bool.true_eq_false, not_true_eq_false, not_false_eq_true, reduceIte, List.nil_append, k_IndexFuncMat, h]
  · simp (maxSteps := 1000000) (disch := first | omega | assumption) only [r_ret, r_br, decide_eq_true_eq, Bool.not_eq_eq_eq_not, decide_eq_false_iff_not, ite_not, q_true, r_bind, r_iter, q_inB, q_nz, q_app, q_eq, q_bnd, q_str, w64', Option.bind_some, Option.bind_none, List.length_cons, List.length_nil, List.length_append, Nat.zero_add, if_pos, if_neg, decide_true, decide_false, if_true, if_false, Bool.not_true, Bool.not_false, Bool.false_eq_true, Bool.true_eq_false, not_true_eq_false, not_false_eq_true, reduceIte, List.nil_append, k_IndexFuncMat, h]

/-- What is wrong with the material of a number. -/
def matBad (l : List Mat) (i : Nat) : Int :=
  if ¬ isNm (gi l (i : Int)).1 then 4 else if 0 ≤ idxTo (isMat l (gi l (i : Int)).1) i then 5 else if ¬ (1 ≤ (gi l (i : Int)).2.1 ∧ (gi l (i : Int)).2.1 ≤ (gi l (i : Int)).2.2) then 2 else if 1000000 < (gi l (i : Int)).2.2 then 2 else 0
def matsE (l : List Mat) : Int := if (40 : Int) < l.length then 8 else firstErr (matBad l) l.length
/-- Names are short enough for any machine. -/
abbrev NmOk (l : List Mat) : Prop := ∀ i : Nat, i < l.length → (gi l (i : Int)).1.length ≤ 1048576

theorem gi_part {α : Type} [Inhabited α] {l : List α} {i j : Nat} (h : j < i) : gi (part l 0 i) (j : Int) = gi l (j : Int) := by
  simp [gi, part, List.getD, List.getElem?_take, h]
theorem part_len {α : Type} {l : List α} {i : Nat} (h : i ≤ l.length) : (part l 0 (i : Int)).length = i := by
  simp [part]; omega

theorem k_rCheckMaterials {l : List Mat} (hl : l.length ≤ 1048576) (hn : NmOk l) : ref08xCheckMaterials l = some ((matsE l, ()), ()) := by
  simp only [ref08xCheckMaterials, T_ref08xCheckMaterials, matsE]
  by_cases h40 : (40 : Int) < l.length
  · simp (maxSteps := 1000000) (disch := first | omega | assumption) only [r_ret, r_br, decide_eq_true_eq, Bool.not_eq_eq_eq_not, decide_eq_false_iff_not, ite_not, q_true, r_bind, r_iter, q_inB, q_nz, q_app, q_eq, q_bnd, q_str, w64', Option.bind_some, Option.bind_none, List.length_cons, List.length_nil, List.length_append, Nat.zero_add, if_pos, if_neg, decide_true, decide_false, if_true, if_false, Bool.not_true, Bool.not_false, Bool.false_eq_true, Bool.true_eq_false, not_true_eq_false, not_false_eq_true, reduceIte, List.nil_append, h40]
  simp (maxSteps := 1000000) (disch := first | omega | assumption) only [r_ret, r_br, decide_eq_true_eq, Bool.not_eq_eq_eq_not, decide_eq_false_iff_not, ite_not, q_true, r_bind, r_iter, q_inB, q_nz, q_app, q_eq, q_bnd, q_str, w64', Option.bind_some, Option.bind_none, List.length_cons, List.length_nil, List.length_append, Nat.zero_add, if_pos, if_neg, decide_true, decide_false, if_true, if_false, Bool.not_true, Bool.not_false, Bool.false_eq_true, Bool.true_eq_false, not_true_eq_false, not_false_eq_true, reduceIte, List.nil_append, h40]
  refine iter_err (fun i => ((i : Int), ())) (matBad l) l.length (by omega) (fun e => ((e, ()), ())) ?_ ?_ ?_
  all_goals simp only [T_ref08xCheckMaterials_l0]
  · intro i hi hp hb
    have hni := hn i hi
    have hfm := k_FindMaterial (l := part l 0 (i : Int)) (by rw [part_len (by omega)]; omega) (gi l (i : Int)).1
    have e : matIx (part l 0 (i : Int)) (gi l (i : Int)).1 = idxTo (isMat l (gi l (i : Int)).1) i := by
      rw [matIx, part_len (by omega)]
      exact idxTo_congr fun j hj => by simp only [isMat, gi_part hj]
    rw [e] at hfm
    unfold matBad at hb ⊢
    by_cases c1 : isNm (gi l (i : Int)).1
    · by_cases c2 : 0 ≤ idxTo (isMat l (gi l (i : Int)).1) i
      · simp (maxSteps := 1000000) (disch := first | omega | assumption) only [r_ret, r_br, decide_eq_true_eq, Bool.not_eq_eq_eq_not, decide_eq_false_iff_not, ite_not, q_true, r_bind, r_iter, q_inB, q_nz, q_app, q_eq, q_bnd, q_str, w64', Option.bind_some, Option.bind_none, List.length_cons, List.length_nil, List.length_append, Nat.zero_add, if_pos, if_neg, decide_true, decide_false, if_true, if_false, Bool.not_true, Bool.not_false, Bool.false_eq_true, Bool.true_eq_false, not_true_eq_false, not_false_eq_true, reduceIte, List.nil_append, k_IsName, c1, hfm, c2]
      · by_cases c3 : 1 ≤ (gi l (i : Int)).2.1 ∧ (gi l (i : Int)).2.1 ≤ (gi l (i : Int)).2.2
        · by_cases c4 : 1000000 < (gi l (i : Int)).2.2
          · simp (maxSteps := 1000000) (disch := first | omega | assumption) only [r_ret, r_br, decide_eq_true_eq, Bool.not_eq_eq_eq_not, decide_eq_false_iff_not, ite_not, q_true, r_bind, r_iter, q_inB, q_nz, q_app, q_eq, q_bnd, q_str, w64', Option.bind_some, Option.bind_none, List.length_cons, List.length_nil, List.length_append, Nat.zero_add, if_pos, if_neg, decide_true, decide_false, if_true, if_false, Bool.not_true, Bool.not_false, Bool.false_eq_true, Bool.true_eq_false, not_true_eq_false, not_false_eq_true, reduceIte, List.nil_append, k_IsName, c1, hfm, c2, k_Within, c3, c4, and_self]
          · exact absurd (by simp [c1, c2, c3, c4]) hb
        · simp (maxSteps := 1000000) (disch := first | omega | assumption) only [r_ret, r_br, decide_eq_true_eq, Bool.not_eq_eq_eq_not, decide_eq_false_iff_not, ite_not, q_true, r_bind, r_iter, q_inB, q_nz, q_app, q_eq, q_bnd, q_str, w64', Option.bind_some, Option.bind_none, List.length_cons, List.length_nil, List.length_append, Nat.zero_add, if_pos, if_neg, decide_true, decide_false, if_true, if_false, Bool.not_true, Bool.not_false, Bool.false_eq_true, Bool.true_eq_false, not_true_eq_false, not_false_eq_true, reduceIte, List.nil_append, k_IsName, c1, hfm, c2, k_Within, c3]
    · simp (maxSteps := 1000000) (disch := first | omega | assumption) only [r_ret, r_br, decide_eq_true_eq, Bool.not_eq_eq_eq_not, decide_eq_false_iff_not, ite_not, q_true, r_bind, r_iter, q_inB, q_nz, q_app, q_eq, q_bnd, q_str, w64', Option.bind_some, Option.bind_none, List.length_cons, List.length_nil, List.length_append, Nat.zero_add, if_pos, if_neg, decide_true, decide_false, if_true, if_false, Bool.not_true, Bool.not_false, Bool.false_eq_true, Bool.true_eq_false, not_true_eq_false, not_false_eq_true, reduceIte, List.nil_append, k_IsName, c1]
  · intro i hi hp hb
    have hni := hn i hi
    have hfm := k_FindMaterial (l := part l 0 (i : Int)) (by rw [part_len (by omega)]; omega) (gi l (i : Int)).1
    have e : matIx (part l 0 (i : Int)) (gi l (i : Int)).1 = idxTo (isMat l (gi l (i : Int)).1) i := by
      rw [matIx, part_len (by omega)]
      exact idxTo_congr fun j hj => by simp only [isMat, gi_part hj]
    rw [e] at hfm
    unfold matBad at hb
    by_cases c1 : isNm (gi l (i : Int)).1
    · by_cases c2 : 0 ≤ idxTo (isMat l (gi l (i : Int)).1) i
      · simp [c1, c2] at hb
      · by_cases c3 : 1 ≤ (gi l (i : Int)).2.1 ∧ (gi l (i : Int)).2.1 ≤ (gi l (i : Int)).2.2
        · by_cases c4 : 1000000 < (gi l (i : Int)).2.2
          · simp [c1, c2, c3, c4] at hb
          · simp (maxSteps := 1000000) (disch := first | omega | assumption) only [r_ret, r_br, decide_eq_true_eq, Bool.not_eq_eq_eq_not, decide_eq_false_iff_not, ite_not, q_true, r_bind, r_iter, q_inB, q_nz, q_app, q_eq, q_bnd, q_str, w64', Option.bind_some, Option.bind_none, List.length_cons, List.length_nil, List.length_append, Nat.zero_add, if_pos, if_neg, decide_true, decide_false, if_true, if_false, Bool.not_true, Bool.not_false, Bool.false_eq_true, Bool.true_eq_false, not_true_eq_false, not_false_eq_true, reduceIte, List.nil_append, k_IsName, c1, hfm, c2, k_Within, c3, c4, and_self]
            rfl
        · exact absurd hb (by simp only [c1, c2, c3, not_true_eq_false, if_false, not_false_eq_true, if_true]; decide)
    · simp [c1] at hb
  · intro _
    simp (maxSteps := 1000000) (disch := first | omega | assumption) only [r_ret, r_br, decide_eq_true_eq, Bool.not_eq_eq_eq_not, decide_eq_false_iff_not, ite_not, q_true, r_bind, r_iter, q_inB, q_nz, q_app, q_eq, q_bnd, q_str, w64', Option.bind_some, Option.bind_none, List.length_cons, List.length_nil, List.length_append, Nat.zero_add, if_pos, if_neg, decide_true, decide_false, if_true, if_false, Bool.not_true, Bool.not_false, Bool.false_eq_true, Bool.true_eq_false, not_true_eq_false, not_false_eq_true, reduceIte, List.nil_append, ]
end Go.Ab
end

section
namespace Go.Ab
open Go
set_option maxRecDepth 1000000
set_option maxHeartbeats 1000000
set_option linter.unusedVariables false
set_option linter.unusedSimpArgs false

def namesTo (l : List Mat) : Nat → List (List UInt8 × Bool)
  | 0 => []
  | i + 1 => ((gi l (i : Int)).1, true) :: namesTo l i
theorem names_get (l : List Mat) (nm : List UInt8) : ∀ i : Nat, ((namesTo l i).lookup nm).getD false = decide (0 ≤ idxTo (isMat l nm) i)
  | 0 => rfl
  | i + 1 => by
    rw [namesTo, List.lookup_cons, idxTo]
    have ih := names_get l nm i
    by_cases h : (gi l (i : Int)).1 = nm
    · have hb : (nm == (gi l (i : Int)).1) = true := by simp [h]
      have hm : isMat l nm i = true := decide_eq_true h
      simp only [hb, Option.getD_some]
      symm
      rw [decide_eq_true_eq]
      rcases idxTo_cases (isMat l nm) i with ⟨h1, _⟩ | ⟨k, _, h2, _⟩
      · simp [h1, hm]
      · simp [h2]
    · have hb : (nm == (gi l (i : Int)).1) = false := by simp; exact fun e => h e.symm
      have hm : isMat l nm i = false := decide_eq_false h
      simp only [hb, ih, hm]
      rcases idxTo_cases (isMat l nm) i with ⟨h1, _⟩ | ⟨k, _, h2, _⟩
      · simp [h1]
      · simp [h2]
theorem mget_names (l : List Mat) (nm : List UInt8) (i : Nat) : mget (nthX xt (4 : Nat)).code (namesTo l i) nm false = decide (0 ≤ idxTo (isMat l nm) i) := names_get l nm i

theorem k_CheckMaterials {l : List Mat} (hl : l.length ≤ 1048576) (hn : NmOk l) : coat_CheckMaterials l = some ((matsE l, ()), ()) := by
  simp only [coat_CheckMaterials, T_coat_CheckMaterials, matsE]
  by_cases h40 : (40 : Int) < l.length
  · simp (maxSteps := 1000000) (disch := first | omega | assumption) only [r_ret, r_br, decide_eq_true_eq, Bool.not_eq_eq_eq_not, decide_eq_false_iff_not, ite_not, q_true, r_bind, r_iter, q_inB, q_nz, q_app, q_eq, q_bnd, q_str, w64', Option.bind_some, Option.bind_none, List.length_cons, List.length_nil, List.length_append, Nat.zero_add, if_pos, if_neg, decide_true, decide_false, if_true, if_false, Bool.not_true, Bool.not_false, Bool.false_eq_true, Bool.true_eq_false, not_true_eq_false, not_false_eq_true, reduceIte, List.nil_append, h40]
  simp (maxSteps := 1000000) (disch := first | omega | assumption) only [r_ret, r_br, decide_eq_true_eq, Bool.not_eq_eq_eq_not, decide_eq_false_iff_not, ite_not, q_true, r_bind, r_iter, q_inB, q_nz, q_app, q_eq, q_bnd, q_str, w64', Option.bind_some, Option.bind_none, List.length_cons, List.length_nil, List.length_append, Nat.zero_add, if_pos, if_neg, decide_true, decide_false, if_true, if_false, Bool.not_true, Bool.not_false, Bool.false_eq_true, Bool.true_eq_false, not_true_eq_false, not_false_eq_true, reduceIte, List.nil_append, h40]
  refine iter_err (fun i => ((i : Int), namesTo l i, ())) (matBad l) l.length (by omega) (fun e => ((e, ()), ())) ?_ ?_ ?_
  all_goals simp only [T_coat_CheckMaterials_l0]
  · intro i hi hp hb
    have hni := hn i hi
    unfold matBad at hb ⊢
    by_cases c1 : isNm (gi l (i : Int)).1
    · by_cases c2 : 0 ≤ idxTo (isMat l (gi l (i : Int)).1) i
      · simp (maxSteps := 1000000) (disch := first | omega | assumption) only [r_ret, r_br, decide_eq_true_eq, Bool.not_eq_eq_eq_not, decide_eq_false_iff_not, ite_not, q_true, r_bind, r_iter, q_inB, q_nz, q_app, q_eq, q_bnd, q_str, w64', Option.bind_some, Option.bind_none, List.length_cons, List.length_nil, List.length_append, Nat.zero_add, if_pos, if_neg, decide_true, decide_false, if_true, if_false, Bool.not_true, Bool.not_false, Bool.false_eq_true, Bool.true_eq_false, not_true_eq_false, not_false_eq_true, reduceIte, List.nil_append, k_isName, c1, mget_names, c2]
      · by_cases c3 : 1 ≤ (gi l (i : Int)).2.1 ∧ (gi l (i : Int)).2.1 ≤ (gi l (i : Int)).2.2
        · by_cases c4 : 1000000 < (gi l (i : Int)).2.2
          · simp (maxSteps := 1000000) (disch := first | omega | assumption) only [r_ret, r_br, decide_eq_true_eq, Bool.not_eq_eq_eq_not, decide_eq_false_iff_not, ite_not, q_true, r_bind, r_iter, q_inB, q_nz, q_app, q_eq, q_bnd, q_str, w64', Option.bind_some, Option.bind_none, List.length_cons, List.length_nil, List.length_append, Nat.zero_add, if_pos, if_neg, decide_true, decide_false, if_true, if_false, Bool.not_true, Bool.not_false, Bool.false_eq_true, Bool.true_eq_false, not_true_eq_false, not_false_eq_true, reduceIte, List.nil_append, k_isName, c1, mget_names, c2, k_within, c3, c4, and_self]
          · exact absurd (by simp [c1, c2, c3, c4]) hb
        · simp (maxSteps := 1000000) (disch := first | omega | assumption) only [r_ret, r_br, decide_eq_true_eq, Bool.not_eq_eq_eq_not, decide_eq_false_iff_not, ite_not, q_true, r_bind, r_iter, q_inB, q_nz, q_app, q_eq, q_bnd, q_str, w64', Option.bind_some, Option.bind_none, List.length_cons, List.length_nil, List.length_append, Nat.zero_add, if_pos, if_neg, decide_true, decide_false, if_true, if_false, Bool.not_true, Bool.not_false, Bool.false_eq_true, Bool.true_eq_false, not_true_eq_false, not_false_eq_true, reduceIte, List.nil_append, k_isName, c1, mget_names, c2, k_within, c3]
    · simp (maxSteps := 1000000) (disch := first | omega | assumption) only [r_ret, r_br, decide_eq_true_eq, Bool.not_eq_eq_eq_not, decide_eq_false_iff_not, ite_not, q_true, r_bind, r_iter, q_inB, q_nz, q_app, q_eq, q_bnd, q_str, w64', Option.bind_some, Option.bind_none, List.length_cons, List.length_nil, List.length_append, Nat.zero_add, if_pos, if_neg, decide_true, decide_false, if_true, if_false, Bool.not_true, Bool.not_false, Bool.false_eq_true, Bool.true_eq_false, not_true_eq_false, not_false_eq_true, reduceIte, List.nil_append, k_isName, c1]
  · intro i hi hp hb
    have hni := hn i hi
    unfold matBad at hb
    by_cases c1 : isNm (gi l (i : Int)).1
    · by_cases c2 : 0 ≤ idxTo (isMat l (gi l (i : Int)).1) i
      · simp [c1, c2] at hb
      · by_cases c3 : 1 ≤ (gi l (i : Int)).2.1 ∧ (gi l (i : Int)).2.1 ≤ (gi l (i : Int)).2.2
        · by_cases c4 : 1000000 < (gi l (i : Int)).2.2
          · simp [c1, c2, c3, c4] at hb
          · simp (maxSteps := 1000000) (disch := first | omega | assumption) only [r_ret, r_br, decide_eq_true_eq, Bool.not_eq_eq_eq_not, decide_eq_false_iff_not, ite_not, q_true, r_bind, r_iter, q_inB, q_nz, q_app, q_eq, q_bnd, q_str, w64', Option.bind_some, Option.bind_none, List.length_cons, List.length_nil, List.length_append, Nat.zero_add, if_pos, if_neg, decide_true, decide_false, if_true, if_false, Bool.not_true, Bool.not_false, Bool.false_eq_true, Bool.true_eq_false, not_true_eq_false, not_false_eq_true, reduceIte, List.nil_append, k_isName, c1, mget_names, c2, k_within, c3, c4, and_self]
            rfl
        · exact absurd hb (by simp only [c1, c2, c3, not_true_eq_false, if_false, not_false_eq_true, if_true]; decide)
    · simp [c1] at hb
  · intro _
    simp (maxSteps := 1000000) (disch := first | omega | assumption) only [r_ret, r_br, decide_eq_true_eq, Bool.not_eq_eq_eq_not, decide_eq_false_iff_not, ite_not, q_true, r_bind, r_iter, q_inB, q_nz, q_app, q_eq, q_bnd, q_str, w64', Option.bind_some, Option.bind_none, List.length_cons, List.length_nil, List.length_append, Nat.zero_add, if_pos, if_neg, decide_true, decide_false, if_true, if_false, Bool.not_true, Bool.not_false, Bool.false_eq_true, Bool.true_eq_false, not_true_eq_false, not_false_eq_true, reduceIte, List.nil_append, ]

/-- Right materials: each is in its range. -/
theorem mats_ok {l : List Mat} (h : matsE l = 0) : l.length ≤ 40 ∧ ∀ i : Nat, i < l.length → 1 ≤ (gi l (i : Int)).2.1 ∧ (gi l (i : Int)).2.1 ≤ (gi l (i : Int)).2.2 ∧ (gi l (i : Int)).2.2 ≤ 1000000 := by
  unfold matsE at h
  split at h
  · cases h
  · refine ⟨by omega, fun i hi => ?_⟩
    have := firstErr_eq0 h i hi
    unfold matBad at this
    split at this
    · cases this
    split at this
    · cases this
    split at this
    · cases this
    split at this
    · cases this
    · omega

/-! ### Layers -/

abbrev Lay := List UInt8 × Int
def layE (l : List Mat) (x : Lay) : Int := if matIx l x.1 < 0 then 6 else if 1 ≤ x.2 ∧ x.2 ≤ 100000 then 0 else 2
def layT (l : List Mat) (x : Lay) : Int × Int := (x.2 * (gi l (matIx l x.1)).2.1, (x.2 + 1) * (gi l (matIx l x.1)).2.2)

theorem lay_bd {l : List Mat} (h : matsE l = 0) {x : Lay} (hx : layE l x = 0) : (0 ≤ matIx l x.1 ∧ matIx l x.1 < l.length) ∧ (1 ≤ x.2 ∧ x.2 ≤ 100000) ∧ (0 ≤ (layT l x).1 ∧ (layT l x).1 ≤ 100000000000) ∧ (0 ≤ (layT l x).2 ∧ (layT l x).2 ≤ 100001000000) := by
  have hb := matIx_bd l x.1
  unfold layE at hx
  split at hx
  · cases hx
  split at hx
  · rename_i h1 h2
    have hi : 0 ≤ matIx l x.1 ∧ matIx l x.1 < l.length := by omega
    have hm := (mats_ok h).2 (matIx l x.1).toNat (by omega)
    rw [show (((matIx l x.1).toNat : Nat) : Int) = matIx l x.1 by omega] at hm
    refine ⟨hi, h2, ?_, ?_⟩
    · have := mul_bd (x := x.2) (y := (gi l (matIx l x.1)).2.1) (m := 100000) (n := 1000000) h2.1 h2.2 hm.1 (by omega)
      simp only [layT]; omega
    · have := mul_bd (x := x.2 + 1) (y := (gi l (matIx l x.1)).2.2) (m := 100001) (n := 1000000) (by omega) (by omega) (by omega) hm.2.2
      simp only [layT]; omega
  · cases hx

theorem k_thickness {l : List Mat} (hl : l.length ≤ 1048576) (h : matsE l = 0) (x : Lay) (hw : -9223372036854775808 ≤ x.2 ∧ x.2 ≤ 9223372036854775807) :
    coat_thickness l x = some (if layE l x = 0 then ((layT l x, 0, ()), ()) else (((0, 0), layE l x, ()), ())) := by
  have hb := matIx_bd l x.1
  simp only [coat_thickness, T_coat_thickness]
  by_cases c1 : matIx l x.1 < 0
  · have e : layE l x = 6 := by rw [layE, if_pos c1]
    rw [e]
    simp (maxSteps := 1000000) (disch := first | omega | assumption) only [r_ret, r_br, decide_eq_true_eq, Bool.not_eq_eq_eq_not, decide_eq_false_iff_not, ite_not, q_true, r_bind, r_iter, q_inB, q_nz, q_app, q_eq, q_bnd, q_str, w64', Option.bind_some, Option.bind_none, List.length_cons, List.length_nil, List.length_append, Nat.zero_add, if_pos, if_neg, decide_true, decide_false, if_true, if_false, Bool.not_true, Bool.not_false, Bool.false_eq_true, Bool.true_eq_false, not_true_eq_false, not_false_eq_true, reduceIte, List.nil_append, k_find, c1]
    rfl
  · by_cases c2 : 1 ≤ x.2 ∧ x.2 ≤ 100000
    · have e : layE l x = 0 := by rw [layE, if_neg c1, if_pos c2]
      obtain ⟨b1, b2, b3, b4⟩ := lay_bd h e
      rw [e]
      simp only [layT] at b3 b4 ⊢
      simp (maxSteps := 1000000) (disch := first | omega | assumption) only [r_ret, r_br, decide_eq_true_eq, Bool.not_eq_eq_eq_not, decide_eq_false_iff_not, ite_not, q_true, r_bind, r_iter, q_inB, q_nz, q_app, q_eq, q_bnd, q_str, w64', Option.bind_some, Option.bind_none, List.length_cons, List.length_nil, List.length_append, Nat.zero_add, if_pos, if_neg, decide_true, decide_false, if_true, if_false, Bool.not_true, Bool.not_false, Bool.false_eq_true, Bool.true_eq_false, not_true_eq_false, not_false_eq_true, reduceIte, List.nil_append, k_find, c1, k_within, c2, and_self]
    · have e : layE l x = 2 := by rw [layE, if_neg c1, if_neg c2]
      rw [e]
      simp (maxSteps := 1000000) (disch := first | omega | assumption) only [r_ret, r_br, decide_eq_true_eq, Bool.not_eq_eq_eq_not, decide_eq_false_iff_not, ite_not, q_true, r_bind, r_iter, q_inB, q_nz, q_app, q_eq, q_bnd, q_str, w64', Option.bind_some, Option.bind_none, List.length_cons, List.length_nil, List.length_append, Nat.zero_add, if_pos, if_neg, decide_true, decide_false, if_true, if_false, Bool.not_true, Bool.not_false, Bool.false_eq_true, Bool.true_eq_false, not_true_eq_false, not_false_eq_true, reduceIte, List.nil_append, k_find, c1, k_within, c2]
end Go.Ab
end

section
namespace Go.Ab
open Go
set_option maxRecDepth 1000000
set_option maxHeartbeats 1000000
set_option linter.unusedVariables false
set_option linter.unusedSimpArgs false

theorem gi_mem {α : Type} [Inhabited α] {l : List α} {i : Nat} (h : i < l.length) : gi l (i : Int) ∈ l := by
  simp [gi, List.getD, List.getElem?_eq_getElem h]
theorem bulk_mem {a : Ty} {l : List a.T} {x : a.T} (h : x ∈ l) : bulkT a x ≤ bulkT (.list a) l := by
  simp only [bulkT]
  induction l with
  | nil => cases h
  | cons y l ih =>
    simp only [List.map_cons, List.sum_cons]
    rcases List.mem_cons.1 h with e | e
    · subst e; omega
    · have := ih e; omega

abbrev LayOk (r : List Lay) : Prop := ∀ i : Nat, i < r.length → (gi r (i : Int)).1.length ≤ 1048576 ∧ -9223372036854775808 ≤ (gi r (i : Int)).2 ∧ (gi r (i : Int)).2 ≤ 9223372036854775807

def totTo (l : List Mat) (r : List Lay) : Nat → Int × Int
  | 0 => (0, 0)
  | i + 1 => ((totTo l r i).1 + (layT l (gi r (i : Int))).1, (totTo l r i).2 + (layT l (gi r (i : Int))).2)
def recE (l : List Mat) (r : List Lay) : Int := if (40 : Int) < r.length then 8 else firstErr (fun i => layE l (gi r (i : Int))) r.length
theorem tot_bd {l : List Mat} {r : List Lay} (h : matsE l = 0) : ∀ i : Nat, (∀ j, j < i → layE l (gi r (j : Int)) = 0) → (0 ≤ (totTo l r i).1 ∧ (totTo l r i).1 ≤ 100000000000 * i) ∧ (0 ≤ (totTo l r i).2 ∧ (totTo l r i).2 ≤ 100001000000 * i)
  | 0, _ => by simp [totTo]
  | i + 1, hp => by
    have := tot_bd h i (fun j hj => hp j (by omega))
    have := lay_bd h (hp i (by omega))
    simp only [totTo]; omega

theorem recE_inv {l : List Mat} {r : List Lay} (h : recE l r = 0) : r.length ≤ 40 ∧ ∀ j : Nat, j < r.length → layE l (gi r (j : Int)) = 0 := by
  unfold recE at h
  split at h
  · cases h
  · exact ⟨by omega, firstErr_eq0 h⟩

/-- What Total answers. -/
def totE (l : List Mat) (r : List Lay) : Int := if matsE l = 0 then recE l r else matsE l
def totV (l : List Mat) (r : List Lay) : Int × Int := if totE l r = 0 then totTo l r r.length else (0, 0)

theorem k_Total {l : List Mat} {r : List Lay} (hl : l.length ≤ 1048576) (hn : NmOk l) (hr : r.length ≤ 1048576) (hw : LayOk r) : coat_Total l r = some ((totV l r, totE l r, ()), ()) := by
  simp only [coat_Total, T_coat_Total]
  by_cases hm : matsE l = 0
  · have e1 : totE l r = recE l r := if_pos hm
    unfold totV
    rw [e1]
    by_cases h40 : (40 : Int) < r.length
    · have e2 : recE l r = 8 := if_pos h40
      rw [e2]
      simp (maxSteps := 1000000) (disch := first | omega | assumption) only [r_ret, r_br, decide_eq_true_eq, Bool.not_eq_eq_eq_not, decide_eq_false_iff_not, ite_not, q_true, r_bind, r_iter, q_inB, q_nz, q_app, q_eq, q_bnd, q_str, w64', Option.bind_some, Option.bind_none, List.length_cons, List.length_nil, List.length_append, Nat.zero_add, if_pos, if_neg, decide_true, decide_false, if_true, if_false, Bool.not_true, Bool.not_false, Bool.false_eq_true, Bool.true_eq_false, not_true_eq_false, not_false_eq_true, reduceIte, List.nil_append, k_CheckMaterials, hm, h40]
    · have e2 : recE l r = firstErr (fun i => layE l (gi r (i : Int))) r.length := if_neg h40
      rw [e2]
      simp (maxSteps := 1000000) (disch := first | omega | assumption) only [r_ret, r_br, decide_eq_true_eq, Bool.not_eq_eq_eq_not, decide_eq_false_iff_not, ite_not, q_true, r_bind, r_iter, q_inB, q_nz, q_app, q_eq, q_bnd, q_str, w64', Option.bind_some, Option.bind_none, List.length_cons, List.length_nil, List.length_append, Nat.zero_add, if_pos, if_neg, decide_true, decide_false, if_true, if_false, Bool.not_true, Bool.not_false, Bool.false_eq_true, Bool.true_eq_false, not_true_eq_false, not_false_eq_true, reduceIte, List.nil_append, k_CheckMaterials, hm, h40]
      refine iter_err (fun i => ((i : Int), (0, 0), totTo l r i, ())) (fun i => layE l (gi r (i : Int))) r.length (by omega) (fun e => (((if e = 0 then totTo l r r.length else (0, 0)), e, ()), ())) ?_ ?_ ?_
      all_goals simp only [T_coat_Total_l1]
      · intro i hi hp hb
        have hwi := hw i hi
        have ht := k_thickness (by omega) hm (gi r (i : Int)) hwi.2
        rw [if_neg hb] at ht
        simp (maxSteps := 1000000) (disch := first | omega | assumption) only [r_ret, r_br, decide_eq_true_eq, Bool.not_eq_eq_eq_not, decide_eq_false_iff_not, ite_not, q_true, r_bind, r_iter, q_inB, q_nz, q_app, q_eq, q_bnd, q_str, w64', Option.bind_some, Option.bind_none, List.length_cons, List.length_nil, List.length_append, Nat.zero_add, if_pos, if_neg, decide_true, decide_false, if_true, if_false, Bool.not_true, Bool.not_false, Bool.false_eq_true, Bool.true_eq_false, not_true_eq_false, not_false_eq_true, reduceIte, List.nil_append, ht, hb]
      · intro i hi hp hb
        have hwi := hw i hi
        have ht := k_thickness (by omega) hm (gi r (i : Int)) hwi.2
        rw [if_pos hb] at ht
        have := tot_bd hm i hp
        have := lay_bd hm hb
        simp (maxSteps := 1000000) (disch := first | omega | assumption) only [r_ret, r_br, decide_eq_true_eq, Bool.not_eq_eq_eq_not, decide_eq_false_iff_not, ite_not, q_true, r_bind, r_iter, q_inB, q_nz, q_app, q_eq, q_bnd, q_str, w64', Option.bind_some, Option.bind_none, List.length_cons, List.length_nil, List.length_append, Nat.zero_add, if_pos, if_neg, decide_true, decide_false, if_true, if_false, Bool.not_true, Bool.not_false, Bool.false_eq_true, Bool.true_eq_false, not_true_eq_false, not_false_eq_true, reduceIte, List.nil_append, ht]
        rfl
      · intro hp
        simp (maxSteps := 1000000) (disch := first | omega | assumption) only [r_ret, r_br, decide_eq_true_eq, Bool.not_eq_eq_eq_not, decide_eq_false_iff_not, ite_not, q_true, r_bind, r_iter, q_inB, q_nz, q_app, q_eq, q_bnd, q_str, w64', Option.bind_some, Option.bind_none, List.length_cons, List.length_nil, List.length_append, Nat.zero_add, if_pos, if_neg, decide_true, decide_false, if_true, if_false, Bool.not_true, Bool.not_false, Bool.false_eq_true, Bool.true_eq_false, not_true_eq_false, not_false_eq_true, reduceIte, List.nil_append, ]
  · have e1 : totE l r = matsE l := if_neg hm
    unfold totV
    rw [e1, if_neg hm]
    simp (maxSteps := 1000000) (disch := first | omega | assumption) only [r_ret, r_br, decide_eq_true_eq, Bool.not_eq_eq_eq_not, decide_eq_false_iff_not, ite_not, q_true, r_bind, r_iter, q_inB, q_nz, q_app, q_eq, q_bnd, q_str, w64', Option.bind_some, Option.bind_none, List.length_cons, List.length_nil, List.length_append, Nat.zero_add, if_pos, if_neg, decide_true, decide_false, if_true, if_false, Bool.not_true, Bool.not_false, Bool.false_eq_true, Bool.true_eq_false, not_true_eq_false, not_false_eq_true, reduceIte, List.nil_append, k_CheckMaterials, hm]

theorem k_CheckRecipe {l : List Mat} {r : List Lay} (hl : l.length ≤ 1048576) (hn : NmOk l) (hr : r.length ≤ 1048576) (hw : LayOk r) : coat_CheckRecipe l r = some ((totE l r, ()), ()) := by
  simp only [coat_CheckRecipe, T_coat_CheckRecipe]
  simp (maxSteps := 1000000) (disch := first | omega | assumption) only [r_ret, r_br, decide_eq_true_eq, Bool.not_eq_eq_eq_not, decide_eq_false_iff_not, ite_not, q_true, r_bind, r_iter, q_inB, q_nz, q_app, q_eq, q_bnd, q_str, w64', Option.bind_some, Option.bind_none, List.length_cons, List.length_nil, List.length_append, Nat.zero_add, if_pos, if_neg, decide_true, decide_false, if_true, if_false, Bool.not_true, Bool.not_false, Bool.false_eq_true, Bool.true_eq_false, not_true_eq_false, not_false_eq_true, reduceIte, List.nil_append, k_Total hl hn hr hw]

theorem one_lay {x : Lay} (hx : x.1.length ≤ 1048576 ∧ -9223372036854775808 ≤ x.2 ∧ x.2 ≤ 9223372036854775807) : LayOk [x] := by
  intro i hi
  have : i = 0 := by simpa using hi
  subst this; exact hx
theorem recE_one (l : List Mat) (x : Lay) : recE l [x] = layE l x := by simp [recE, firstErr, gi]
theorem totTo_one (l : List Mat) (x : Lay) : totTo l [x] 1 = layT l x := by simp [totTo, gi]
def thkE (l : List Mat) (x : Lay) : Int := if matsE l = 0 then layE l x else matsE l
def thkV (l : List Mat) (x : Lay) : Int × Int := if thkE l x = 0 then layT l x else (0, 0)
theorem k_Thickness {l : List Mat} {x : Lay} (hl : l.length ≤ 1048576) (hn : NmOk l) (hx : x.1.length ≤ 1048576 ∧ -9223372036854775808 ≤ x.2 ∧ x.2 ≤ 9223372036854775807) :
    coat_Thickness l x = some ((thkV l x, thkE l x, ()), ()) := by
  simp only [coat_Thickness, T_coat_Thickness]
  have h := k_Total hl hn (r := [x]) (by simp) (one_lay hx)
  have e : totE l [x] = thkE l x := by simp only [totE, thkE, recE_one]
  have e2 : totV l [x] = thkV l x := by simp only [totV, thkV, e, List.length_singleton, totTo_one]
  rw [e, e2] at h
  simp (maxSteps := 1000000) (disch := first | omega | assumption) only [r_ret, r_br, decide_eq_true_eq, Bool.not_eq_eq_eq_not, decide_eq_false_iff_not, ite_not, q_true, r_bind, r_iter, q_inB, q_nz, q_app, q_eq, q_bnd, q_str, w64', Option.bind_some, Option.bind_none, List.length_cons, List.length_nil, List.length_append, Nat.zero_add, if_pos, if_neg, decide_true, decide_false, if_true, if_false, Bool.not_true, Bool.not_false, Bool.false_eq_true, Bool.true_eq_false, not_true_eq_false, not_false_eq_true, reduceIte, List.nil_append, h]

/-! ### The reference -/

theorem k_rCheckRecipe {l : List Mat} {r : List Lay} (hl : l.length ≤ 1048576) (hr : r.length ≤ 1048576) : ref08xCheckRecipe l r = some ((recE l r, ()), ()) := by
  simp only [ref08xCheckRecipe, T_ref08xCheckRecipe, recE]
  by_cases h40 : (40 : Int) < r.length
  · simp (maxSteps := 1000000) (disch := first | omega | assumption) only [r_ret, r_br, decide_eq_true_eq, Bool.not_eq_eq_eq_not, decide_eq_false_iff_not, ite_not, q_true, r_bind, r_iter, q_inB, q_nz, q_app, q_eq, q_bnd, q_str, w64', Option.bind_some, Option.bind_none, List.length_cons, List.length_nil, List.length_append, Nat.zero_add, if_pos, if_neg, decide_true, decide_false, if_true, if_false, Bool.not_true, Bool.not_false, Bool.false_eq_true, Bool.true_eq_false, not_true_eq_false, not_false_eq_true, reduceIte, List.nil_append, h40]
  simp (maxSteps := 1000000) (disch := first | omega | assumption) only [r_ret, r_br, decide_eq_true_eq, Bool.not_eq_eq_eq_not, decide_eq_false_iff_not, ite_not, q_true, r_bind, r_iter, q_inB, q_nz, q_app, q_eq, q_bnd, q_str, w64', Option.bind_some, Option.bind_none, List.length_cons, List.length_nil, List.length_append, Nat.zero_add, if_pos, if_neg, decide_true, decide_false, if_true, if_false, Bool.not_true, Bool.not_false, Bool.false_eq_true, Bool.true_eq_false, not_true_eq_false, not_false_eq_true, reduceIte, List.nil_append, h40]
  refine iter_err (fun i => ((i : Int), ())) (fun i => layE l (gi r (i : Int))) r.length (by omega) (fun e => ((e, ()), ())) ?_ ?_ ?_
  all_goals simp only [T_ref08xCheckRecipe_l0]
  · intro i hi hp hb
    unfold layE at hb ⊢
    by_cases c1 : matIx l (gi r (i : Int)).1 < 0
    · simp (maxSteps := 1000000) (disch := first | omega | assumption) only [r_ret, r_br, decide_eq_true_eq, Bool.not_eq_eq_eq_not, decide_eq_false_iff_not, ite_not, q_true, r_bind, r_iter, q_inB, q_nz, q_app, q_eq, q_bnd, q_str, w64', Option.bind_some, Option.bind_none, List.length_cons, List.length_nil, List.length_append, Nat.zero_add, if_pos, if_neg, decide_true, decide_false, if_true, if_false, Bool.not_true, Bool.not_false, Bool.false_eq_true, Bool.true_eq_false, not_true_eq_false, not_false_eq_true, reduceIte, List.nil_append, k_FindMaterial, c1]
    · by_cases c2 : 1 ≤ (gi r (i : Int)).2 ∧ (gi r (i : Int)).2 ≤ 100000
      · exact absurd (by simp [c1, c2]) hb
      · simp (maxSteps := 1000000) (disch := first | omega | assumption) only [r_ret, r_br, decide_eq_true_eq, Bool.not_eq_eq_eq_not, decide_eq_false_iff_not, ite_not, q_true, r_bind, r_iter, q_inB, q_nz, q_app, q_eq, q_bnd, q_str, w64', Option.bind_some, Option.bind_none, List.length_cons, List.length_nil, List.length_append, Nat.zero_add, if_pos, if_neg, decide_true, decide_false, if_true, if_false, Bool.not_true, Bool.not_false, Bool.false_eq_true, Bool.true_eq_false, not_true_eq_false, not_false_eq_true, reduceIte, List.nil_append, k_FindMaterial, c1, k_Within, c2]
  · intro i hi hp hb
    unfold layE at hb
    by_cases c1 : matIx l (gi r (i : Int)).1 < 0
    · simp [c1] at hb
    · by_cases c2 : 1 ≤ (gi r (i : Int)).2 ∧ (gi r (i : Int)).2 ≤ 100000
      · simp (maxSteps := 1000000) (disch := first | omega | assumption) only [r_ret, r_br, decide_eq_true_eq, Bool.not_eq_eq_eq_not, decide_eq_false_iff_not, ite_not, q_true, r_bind, r_iter, q_inB, q_nz, q_app, q_eq, q_bnd, q_str, w64', Option.bind_some, Option.bind_none, List.length_cons, List.length_nil, List.length_append, Nat.zero_add, if_pos, if_neg, decide_true, decide_false, if_true, if_false, Bool.not_true, Bool.not_false, Bool.false_eq_true, Bool.true_eq_false, not_true_eq_false, not_false_eq_true, reduceIte, List.nil_append, k_FindMaterial, c1, k_Within, c2, and_self]
        rfl
      · exact absurd hb (by simp only [c1, c2, if_false]; decide)
  · intro _
    simp (maxSteps := 1000000) (disch := first | omega | assumption) only [r_ret, r_br, decide_eq_true_eq, Bool.not_eq_eq_eq_not, decide_eq_false_iff_not, ite_not, q_true, r_bind, r_iter, q_inB, q_nz, q_app, q_eq, q_bnd, q_str, w64', Option.bind_some, Option.bind_none, List.length_cons, List.length_nil, List.length_append, Nat.zero_add, if_pos, if_neg, decide_true, decide_false, if_true, if_false, Bool.not_true, Bool.not_false, Bool.false_eq_true, Bool.true_eq_false, not_true_eq_false, not_false_eq_true, reduceIte, List.nil_append, ]

theorem k_rThickness {l : List Mat} (h : matsE l = 0) {x : Lay} (hx : layE l x = 0) : ref08xThickness l x = some ((layT l x, ()), ()) := by
  obtain ⟨b1, b2, b3, b4⟩ := lay_bd h hx
  have hl := (mats_ok h).1
  simp only [layT] at b3 b4 ⊢
  simp only [ref08xThickness, T_ref08xThickness]
  simp (maxSteps := 1000000) (disch := first | omega | assumption) only [r_ret, r_br, decide_eq_true_eq, Bool.not_eq_eq_eq_not, decide_eq_false_iff_not, ite_not, q_true, r_bind, r_iter, q_inB, q_nz, q_app, q_eq, q_bnd, q_str, w64', Option.bind_some, Option.bind_none, List.length_cons, List.length_nil, List.length_append, Nat.zero_add, if_pos, if_neg, decide_true, decide_false, if_true, if_false, Bool.not_true, Bool.not_false, Bool.false_eq_true, Bool.true_eq_false, not_true_eq_false, not_false_eq_true, reduceIte, List.nil_append, k_FindMaterial]

theorem k_rTotal {l : List Mat} {r : List Lay} (h : matsE l = 0) (h2 : recE l r = 0) : ref08xTotal l r = some ((totTo l r r.length, ()), ()) := by
  obtain ⟨h40, hp⟩ := recE_inv h2
  simp only [ref08xTotal, T_ref08xTotal]
  rw [r_iter]
  refine iter_eq (fun i x => x = ((i : Int), totTo l r i, ())) _ r.length (by omega) ?_ rfl
  rintro i x hi rfl
  simp only [T_ref08xTotal_l0]
  by_cases hlt : i < r.length
  · left
    have ht := k_rThickness h (hp i hlt)
    have := tot_bd h i (fun j hj => hp j (by omega))
    have := lay_bd h (hp i hlt)
    exact ⟨_, by simp (maxSteps := 1000000) (disch := first | omega | assumption) only [r_ret, r_br, decide_eq_true_eq, Bool.not_eq_eq_eq_not, decide_eq_false_iff_not, ite_not, q_true, r_bind, r_iter, q_inB, q_nz, q_app, q_eq, q_bnd, q_str, w64', Option.bind_some, Option.bind_none, List.length_cons, List.length_nil, List.length_append, Nat.zero_add, if_pos, if_neg, decide_true, decide_false, if_true, if_false, Bool.not_true, Bool.not_false, Bool.false_eq_true, Bool.true_eq_false, not_true_eq_false, not_false_eq_true, reduceIte, List.nil_append, ht] <;> rfl, hlt, rfl⟩
  · right
    have : i = r.length := by omega
    subst this
    simp (maxSteps := 1000000) (disch := first | omega | assumption) only [r_ret, r_br, decide_eq_true_eq, Bool.not_eq_eq_eq_not, decide_eq_false_iff_not, ite_not, q_true, r_bind, r_iter, q_inB, q_nz, q_app, q_eq, q_bnd, q_str, w64', Option.bind_some, Option.bind_none, List.length_cons, List.length_nil, List.length_append, Nat.zero_add, if_pos, if_neg, decide_true, decide_false, if_true, if_false, Bool.not_true, Bool.not_false, Bool.false_eq_true, Bool.true_eq_false, not_true_eq_false, not_false_eq_true, reduceIte, List.nil_append, ]
end Go.Ab
end

section
namespace Go.Ab
open Go
set_option maxRecDepth 1000000
set_option maxHeartbeats 1000000
set_option linter.unusedVariables false
set_option linter.unusedSimpArgs false

theorem bindC {α β : Type} {c d : Option α} {f : α → Option β} (h : c = d) : c.bind f = d.bind f := by rw [h]
theorem iterC {σ ρ : Type} {b : σ → Option (σ ⊕ ρ)} {n : Nat} {x y : σ} (h : x = y) : iterF b n x = iterF b n y := by rw [h]
attribute [local congr] bindC iterC

theorem k_materials {l : List Mat} (h : l.length ≤ 1099511627776) : law08xmaterials l = some ((l, ()), ()) := by
  simp only [law08xmaterials, T_law08xmaterials]
  simp (maxSteps := 1000000) (disch := first | omega | assumption) only [r_ret, r_br, decide_eq_true_eq, Bool.not_eq_eq_eq_not, decide_eq_false_iff_not, ite_not, q_true, r_bind, r_iter, q_inB, q_nz, q_app, q_eq, q_bnd, q_str, w64', Option.bind_some, Option.bind_none, List.length_cons, List.length_nil, List.length_append, Nat.zero_add, if_pos, if_neg, decide_true, decide_false, if_true, if_false, Bool.not_true, Bool.not_false, Bool.false_eq_true, Bool.true_eq_false, not_true_eq_false, not_false_eq_true, reduceIte, List.nil_append, ]
theorem k_layers {l : List Lay} (h : l.length ≤ 1099511627776) : law08xlayers l = some ((l, ()), ()) := by
  simp only [law08xlayers, T_law08xlayers]
  simp (maxSteps := 1000000) (disch := first | omega | assumption) only [r_ret, r_br, decide_eq_true_eq, Bool.not_eq_eq_eq_not, decide_eq_false_iff_not, ite_not, q_true, r_bind, r_iter, q_inB, q_nz, q_app, q_eq, q_bnd, q_str, w64', Option.bind_some, Option.bind_none, List.length_cons, List.length_nil, List.length_append, Nat.zero_add, if_pos, if_neg, decide_true, decide_false, if_true, if_false, Bool.not_true, Bool.not_false, Bool.false_eq_true, Bool.true_eq_false, not_true_eq_false, not_false_eq_true, reduceIte, List.nil_append, ]
theorem k_short_l0 {l : List Mat} (h : l.length ≤ 1048576) : ∃ b : Bool, iterF (fun y : Int × Unit => (T_law08xshort_l0 l y.1).run) FUEL (0, ()) = some ((b, ()), ()) := by
  obtain ⟨r, h1, b, h2⟩ := iter_post (b := fun y : Int × Unit => (T_law08xshort_l0 l y.1).run) (fun i x => x = ((i : Int), ())) (fun r => ∃ b : Bool, r = ((b, ()), ())) l.length (by omega) (by
    rintro i x hi rfl
    simp only [T_law08xshort_l0]
    by_cases hlt : i < l.length
    · by_cases c : (20 : Int) < (gi l (i : Int)).1.length
      · right; exact ⟨_, by simp (maxSteps := 1000000) (disch := first | omega | assumption) only [r_ret, r_br, decide_eq_true_eq, Bool.not_eq_eq_eq_not, decide_eq_false_iff_not, ite_not, q_true, r_bind, r_iter, q_inB, q_nz, q_app, q_eq, q_bnd, q_str, w64', Option.bind_some, Option.bind_none, List.length_cons, List.length_nil, List.length_append, Nat.zero_add, if_pos, if_neg, decide_true, decide_false, if_true, if_false, Bool.not_true, Bool.not_false, Bool.false_eq_true, Bool.true_eq_false, not_true_eq_false, not_false_eq_true, reduceIte, List.nil_append, c] <;> rfl, _, rfl⟩
      · left; exact ⟨_, by simp (maxSteps := 1000000) (disch := first | omega | assumption) only [r_ret, r_br, decide_eq_true_eq, Bool.not_eq_eq_eq_not, decide_eq_false_iff_not, ite_not, q_true, r_bind, r_iter, q_inB, q_nz, q_app, q_eq, q_bnd, q_str, w64', Option.bind_some, Option.bind_none, List.length_cons, List.length_nil, List.length_append, Nat.zero_add, if_pos, if_neg, decide_true, decide_false, if_true, if_false, Bool.not_true, Bool.not_false, Bool.false_eq_true, Bool.true_eq_false, not_true_eq_false, not_false_eq_true, reduceIte, List.nil_append, c] <;> rfl, hlt, rfl⟩
    · right; exact ⟨_, by simp (maxSteps := 1000000) (disch := first | omega | assumption) only [r_ret, r_br, decide_eq_true_eq, Bool.not_eq_eq_eq_not, decide_eq_false_iff_not, ite_not, q_true, r_bind, r_iter, q_inB, q_nz, q_app, q_eq, q_bnd, q_str, w64', Option.bind_some, Option.bind_none, List.length_cons, List.length_nil, List.length_append, Nat.zero_add, if_pos, if_neg, decide_true, decide_false, if_true, if_false, Bool.not_true, Bool.not_false, Bool.false_eq_true, Bool.true_eq_false, not_true_eq_false, not_false_eq_true, reduceIte, List.nil_append, ] <;> rfl, _, rfl⟩) rfl
  exact ⟨b, by rw [← h2]; exact h1⟩
theorem k_short {l : List Mat} (h : l.length ≤ 1048576) : ∃ b : Bool, law08xshort l = some ((b, ()), ()) := by
  obtain ⟨b, hb⟩ := k_short_l0 h
  simp only [law08xshort, T_law08xshort]
  by_cases c1 : (8 : Int) < l.length
  · by_cases c2 : (l.length : Int) ≤ 40
    · exact ⟨false, by simp (maxSteps := 1000000) (disch := first | omega | assumption) only [r_ret, r_br, decide_eq_true_eq, Bool.not_eq_eq_eq_not, decide_eq_false_iff_not, ite_not, q_true, r_bind, r_iter, q_inB, q_nz, q_app, q_eq, q_bnd, q_str, w64', Option.bind_some, Option.bind_none, List.length_cons, List.length_nil, List.length_append, Nat.zero_add, if_pos, if_neg, decide_true, decide_false, if_true, if_false, Bool.not_true, Bool.not_false, Bool.false_eq_true, Bool.true_eq_false, not_true_eq_false, not_false_eq_true, reduceIte, List.nil_append, c1, c2]⟩
    · by_cases c3 : (43 : Int) < l.length
      · exact ⟨false, by simp (maxSteps := 1000000) (disch := first | omega | assumption) only [r_ret, r_br, decide_eq_true_eq, Bool.not_eq_eq_eq_not, decide_eq_false_iff_not, ite_not, q_true, r_bind, r_iter, q_inB, q_nz, q_app, q_eq, q_bnd, q_str, w64', Option.bind_some, Option.bind_none, List.length_cons, List.length_nil, List.length_append, Nat.zero_add, if_pos, if_neg, decide_true, decide_false, if_true, if_false, Bool.not_true, Bool.not_false, Bool.false_eq_true, Bool.true_eq_false, not_true_eq_false, not_false_eq_true, reduceIte, List.nil_append, c1, c2, c3]⟩
      · exact ⟨b, by simp (maxSteps := 1000000) (disch := first | omega | assumption) only [r_ret, r_br, decide_eq_true_eq, Bool.not_eq_eq_eq_not, decide_eq_false_iff_not, ite_not, q_true, r_bind, r_iter, q_inB, q_nz, q_app, q_eq, q_bnd, q_str, w64', Option.bind_some, Option.bind_none, List.length_cons, List.length_nil, List.length_append, Nat.zero_add, if_pos, if_neg, decide_true, decide_false, if_true, if_false, Bool.not_true, Bool.not_false, Bool.false_eq_true, Bool.true_eq_false, not_true_eq_false, not_false_eq_true, reduceIte, List.nil_append, c1, c2, c3, hb]⟩
  · exact ⟨b, by simp (maxSteps := 1000000) (disch := first | omega | assumption) only [r_ret, r_br, decide_eq_true_eq, Bool.not_eq_eq_eq_not, decide_eq_false_iff_not, ite_not, q_true, r_bind, r_iter, q_inB, q_nz, q_app, q_eq, q_bnd, q_str, w64', Option.bind_some, Option.bind_none, List.length_cons, List.length_nil, List.length_append, Nat.zero_add, if_pos, if_neg, decide_true, decide_false, if_true, if_false, Bool.not_true, Bool.not_false, Bool.false_eq_true, Bool.true_eq_false, not_true_eq_false, not_false_eq_true, reduceIte, List.nil_append, c1, hb]⟩
theorem k_brief_l0 {l : List Lay} (h : l.length ≤ 1048576) : ∃ b : Bool, iterF (fun y : Int × Unit => (T_law08xbrief_l0 l y.1).run) FUEL (0, ()) = some ((b, ()), ()) := by
  obtain ⟨r, h1, b, h2⟩ := iter_post (b := fun y : Int × Unit => (T_law08xbrief_l0 l y.1).run) (fun i x => x = ((i : Int), ())) (fun r => ∃ b : Bool, r = ((b, ()), ())) l.length (by omega) (by
    rintro i x hi rfl
    simp only [T_law08xbrief_l0]
    by_cases hlt : i < l.length
    · by_cases c : (20 : Int) < (gi l (i : Int)).1.length
      · right; exact ⟨_, by simp (maxSteps := 1000000) (disch := first | omega | assumption) only [r_ret, r_br, decide_eq_true_eq, Bool.not_eq_eq_eq_not, decide_eq_false_iff_not, ite_not, q_true, r_bind, r_iter, q_inB, q_nz, q_app, q_eq, q_bnd, q_str, w64', Option.bind_some, Option.bind_none, List.length_cons, List.length_nil, List.length_append, Nat.zero_add, if_pos, if_neg, decide_true, decide_false, if_true, if_false, Bool.not_true, Bool.not_false, Bool.false_eq_true, Bool.true_eq_false, not_true_eq_false, not_false_eq_true, reduceIte, List.nil_append, c] <;> rfl, _, rfl⟩
      · left; exact ⟨_, by simp (maxSteps := 1000000) (disch := first | omega | assumption) only [r_ret, r_br, decide_eq_true_eq, Bool.not_eq_eq_eq_not, decide_eq_false_iff_not, ite_not, q_true, r_bind, r_iter, q_inB, q_nz, q_app, q_eq, q_bnd, q_str, w64', Option.bind_some, Option.bind_none, List.length_cons, List.length_nil, List.length_append, Nat.zero_add, if_pos, if_neg, decide_true, decide_false, if_true, if_false, Bool.not_true, Bool.not_false, Bool.false_eq_true, Bool.true_eq_false, not_true_eq_false, not_false_eq_true, reduceIte, List.nil_append, c] <;> rfl, hlt, rfl⟩
    · right; exact ⟨_, by simp (maxSteps := 1000000) (disch := first | omega | assumption) only [r_ret, r_br, decide_eq_true_eq, Bool.not_eq_eq_eq_not, decide_eq_false_iff_not, ite_not, q_true, r_bind, r_iter, q_inB, q_nz, q_app, q_eq, q_bnd, q_str, w64', Option.bind_some, Option.bind_none, List.length_cons, List.length_nil, List.length_append, Nat.zero_add, if_pos, if_neg, decide_true, decide_false, if_true, if_false, Bool.not_true, Bool.not_false, Bool.false_eq_true, Bool.true_eq_false, not_true_eq_false, not_false_eq_true, reduceIte, List.nil_append, ] <;> rfl, _, rfl⟩) rfl
  exact ⟨b, by rw [← h2]; exact h1⟩
theorem k_brief {l : List Lay} (h : l.length ≤ 1048576) : ∃ b : Bool, law08xbrief l = some ((b, ()), ()) := by
  obtain ⟨b, hb⟩ := k_brief_l0 h
  simp only [law08xbrief, T_law08xbrief]
  by_cases c1 : (8 : Int) < l.length
  · by_cases c2 : (l.length : Int) ≤ 40
    · exact ⟨false, by simp (maxSteps := 1000000) (disch := first | omega | assumption) only [r_ret, r_br, decide_eq_true_eq, Bool.not_eq_eq_eq_not, decide_eq_false_iff_not, ite_not, q_true, r_bind, r_iter, q_inB, q_nz, q_app, q_eq, q_bnd, q_str, w64', Option.bind_some, Option.bind_none, List.length_cons, List.length_nil, List.length_append, Nat.zero_add, if_pos, if_neg, decide_true, decide_false, if_true, if_false, Bool.not_true, Bool.not_false, Bool.false_eq_true, Bool.true_eq_false, not_true_eq_false, not_false_eq_true, reduceIte, List.nil_append, c1, c2]⟩
    · by_cases c3 : (43 : Int) < l.length
      · exact ⟨false, by simp (maxSteps := 1000000) (disch := first | omega | assumption) only [r_ret, r_br, decide_eq_true_eq, Bool.not_eq_eq_eq_not, decide_eq_false_iff_not, ite_not, q_true, r_bind, r_iter, q_inB, q_nz, q_app, q_eq, q_bnd, q_str, w64', Option.bind_some, Option.bind_none, List.length_cons, List.length_nil, List.length_append, Nat.zero_add, if_pos, if_neg, decide_true, decide_false, if_true, if_false, Bool.not_true, Bool.not_false, Bool.false_eq_true, Bool.true_eq_false, not_true_eq_false, not_false_eq_true, reduceIte, List.nil_append, c1, c2, c3]⟩
      · exact ⟨b, by simp (maxSteps := 1000000) (disch := first | omega | assumption) only [r_ret, r_br, decide_eq_true_eq, Bool.not_eq_eq_eq_not, decide_eq_false_iff_not, ite_not, q_true, r_bind, r_iter, q_inB, q_nz, q_app, q_eq, q_bnd, q_str, w64', Option.bind_some, Option.bind_none, List.length_cons, List.length_nil, List.length_append, Nat.zero_add, if_pos, if_neg, decide_true, decide_false, if_true, if_false, Bool.not_true, Bool.not_false, Bool.false_eq_true, Bool.true_eq_false, not_true_eq_false, not_false_eq_true, reduceIte, List.nil_append, c1, c2, c3, hb]⟩
  · exact ⟨b, by simp (maxSteps := 1000000) (disch := first | omega | assumption) only [r_ret, r_br, decide_eq_true_eq, Bool.not_eq_eq_eq_not, decide_eq_false_iff_not, ite_not, q_true, r_bind, r_iter, q_inB, q_nz, q_app, q_eq, q_bnd, q_str, w64', Option.bind_some, Option.bind_none, List.length_cons, List.length_nil, List.length_append, Nat.zero_add, if_pos, if_neg, decide_true, decide_false, if_true, if_false, Bool.not_true, Bool.not_false, Bool.false_eq_true, Bool.true_eq_false, not_true_eq_false, not_false_eq_true, reduceIte, List.nil_append, c1, hb]⟩

theorem totE_r {l : List Mat} {r : List Lay} (h : matsE l = 0) : totE l r = recE l r := if_pos h
theorem totE_m {l : List Mat} {r : List Lay} (h : ¬ matsE l = 0) : totE l r = matsE l := if_neg h
theorem totV_y {l : List Mat} {r : List Lay} (h : totE l r = 0) : totV l r = totTo l r r.length := if_pos h
theorem totV_n {l : List Mat} {r : List Lay} (h : ¬ totE l r = 0) : totV l r = (0, 0) := if_neg h
theorem part_one {r : List Lay} {i : Nat} (h : i < r.length) : part r (i : Int) ((i : Int) + 1) = [gi r (i : Int)] := by
  rw [part, show ((i : Int) + 1).toNat = i + 1 by omega, show ((i : Int)).toNat = i by omega, List.drop_take, show i + 1 - i = 1 by omega, List.drop_eq_getElem_cons h, List.take_succ_cons, List.take_zero]
  simp [gi, List.getD, List.getElem?_eq_getElem h]

theorem layers_loop {l : List Mat} {r : List Lay} (hl : l.length ≤ 1048576) (hn : NmOk l) (hr : r.length ≤ 1048576) (hw : LayOk r) :
    iterF (fun y : Int × Unit => (T_law08xCoatLayers_l14 l r ((matsE l, ()), ()) y.1).run) FUEL (0, ()) = some ((true, ()), ()) := by
  refine iter_eq (fun i x => x = ((i : Int), ())) _ r.length (by omega) ?_ rfl
  rintro i x hi rfl
  simp only [T_law08xCoatLayers_l14]
  by_cases hlt : i < r.length
  · by_cases c3 : i < 3
    · left
      refine ⟨((i : Int) + 1, ()), ?_, hlt, rfl⟩
      have hk := k_Thickness hl hn (hw i hlt)
      by_cases hm : matsE l = 0
      · have hc := k_rCheckRecipe (r := [gi r (i : Int)]) hl (by simp)
        rw [recE_one] at hc
        have e : thkE l (gi r (i : Int)) = layE l (gi r (i : Int)) := if_pos hm
        by_cases h0 : layE l (gi r (i : Int)) = 0
        · have e2 : thkV l (gi r (i : Int)) = layT l (gi r (i : Int)) := if_pos (by rw [e, h0])
          rw [e2, e, h0] at hk
          rw [h0] at hc
          simp (maxSteps := 1000000) (disch := first | omega | assumption) only [r_ret, r_br, decide_eq_true_eq, Bool.not_eq_eq_eq_not, decide_eq_false_iff_not, ite_not, q_true, r_bind, r_iter, q_inB, q_nz, q_app, q_eq, q_bnd, q_str, w64', Option.bind_some, Option.bind_none, List.length_cons, List.length_nil, List.length_append, Nat.zero_add, if_pos, if_neg, decide_true, decide_false, if_true, if_false, Bool.not_true, Bool.not_false, Bool.false_eq_true, Bool.true_eq_false, not_true_eq_false, not_false_eq_true, reduceIte, List.nil_append, k_materials, hk, hm, part_one, hc, k_rThickness, h0, and_self, Bool.and_self]
        · have e2 : thkV l (gi r (i : Int)) = (0, 0) := if_neg (by rw [e]; exact h0)
          rw [e2, e] at hk
          simp (maxSteps := 1000000) (disch := first | omega | assumption) only [r_ret, r_br, decide_eq_true_eq, Bool.not_eq_eq_eq_not, decide_eq_false_iff_not, ite_not, q_true, r_bind, r_iter, q_inB, q_nz, q_app, q_eq, q_bnd, q_str, w64', Option.bind_some, Option.bind_none, List.length_cons, List.length_nil, List.length_append, Nat.zero_add, if_pos, if_neg, decide_true, decide_false, if_true, if_false, Bool.not_true, Bool.not_false, Bool.false_eq_true, Bool.true_eq_false, not_true_eq_false, not_false_eq_true, reduceIte, List.nil_append, k_materials, hk, hm, part_one, hc, h0, and_self, Bool.and_self]
      · have e : thkE l (gi r (i : Int)) = matsE l := if_neg hm
        have e2 : thkV l (gi r (i : Int)) = (0, 0) := if_neg (by rw [e]; exact hm)
        rw [e2, e] at hk
        simp (maxSteps := 1000000) (disch := first | omega | assumption) only [r_ret, r_br, decide_eq_true_eq, Bool.not_eq_eq_eq_not, decide_eq_false_iff_not, ite_not, q_true, r_bind, r_iter, q_inB, q_nz, q_app, q_eq, q_bnd, q_str, w64', Option.bind_some, Option.bind_none, List.length_cons, List.length_nil, List.length_append, Nat.zero_add, if_pos, if_neg, decide_true, decide_false, if_true, if_false, Bool.not_true, Bool.not_false, Bool.false_eq_true, Bool.true_eq_false, not_true_eq_false, not_false_eq_true, reduceIte, List.nil_append, k_materials, hk, hm, and_self, Bool.and_self]
    · right
      simp (maxSteps := 1000000) (disch := first | omega | assumption) only [r_ret, r_br, decide_eq_true_eq, Bool.not_eq_eq_eq_not, decide_eq_false_iff_not, ite_not, q_true, r_bind, r_iter, q_inB, q_nz, q_app, q_eq, q_bnd, q_str, w64', Option.bind_some, Option.bind_none, List.length_cons, List.length_nil, List.length_append, Nat.zero_add, if_pos, if_neg, decide_true, decide_false, if_true, if_false, Bool.not_true, Bool.not_false, Bool.false_eq_true, Bool.true_eq_false, not_true_eq_false, not_false_eq_true, reduceIte, List.nil_append, c3]
  · right
    simp (maxSteps := 1000000) (disch := first | omega | assumption) only [r_ret, r_br, decide_eq_true_eq, Bool.not_eq_eq_eq_not, decide_eq_false_iff_not, ite_not, q_true, r_bind, r_iter, q_inB, q_nz, q_app, q_eq, q_bnd, q_str, w64', Option.bind_some, Option.bind_none, List.length_cons, List.length_nil, List.length_append, Nat.zero_add, if_pos, if_neg, decide_true, decide_false, if_true, if_false, Bool.not_true, Bool.not_false, Bool.false_eq_true, Bool.true_eq_false, not_true_eq_false, not_false_eq_true, reduceIte, List.nil_append, ]

attribute [local irreducible] matsE recE totE totV matIx layE totTo
set_option maxHeartbeats 4000000 in
theorem k_CoatLayers0 {l : List Mat} {r : List Lay} (hl : l.length ≤ 1048576) (hn : NmOk l) (hr : r.length ≤ 1048576) (hw : LayOk r) : law08xCoatLayers l r = some ((true, ()), ()) := by
  obtain ⟨b1, hb1⟩ := k_short hl
  obtain ⟨b2, hb2⟩ := k_brief hr
  have hk := k_Total hl hn hr hw
  have hc := k_CheckRecipe hl hn hr hw
  have hloop := layers_loop hl hn hr hw
  simp only [law08xCoatLayers, T_law08xCoatLayers]
  cases b1 with
  | false => simp (maxSteps := 1000000) (disch := first | omega | assumption) only [r_ret, r_br, decide_eq_true_eq, Bool.not_eq_eq_eq_not, decide_eq_false_iff_not, ite_not, q_true, r_bind, r_iter, q_inB, q_nz, q_app, q_eq, q_bnd, q_str, w64', Option.bind_some, Option.bind_none, List.length_cons, List.length_nil, List.length_append, Nat.zero_add, if_pos, if_neg, decide_true, decide_false, if_true, if_false, Bool.not_true, Bool.not_false, Bool.false_eq_true, Bool.true_eq_false, not_true_eq_false, not_false_eq_true, reduceIte, List.nil_append, awake_ok, hb1]
  | true => cases b2 with
    | false => simp (maxSteps := 1000000) (disch := first | omega | assumption) only [r_ret, r_br, decide_eq_true_eq, Bool.not_eq_eq_eq_not, decide_eq_false_iff_not, ite_not, q_true, r_bind, r_iter, q_inB, q_nz, q_app, q_eq, q_bnd, q_str, w64', Option.bind_some, Option.bind_none, List.length_cons, List.length_nil, List.length_append, Nat.zero_add, if_pos, if_neg, decide_true, decide_false, if_true, if_false, Bool.not_true, Bool.not_false, Bool.false_eq_true, Bool.true_eq_false, not_true_eq_false, not_false_eq_true, reduceIte, List.nil_append, awake_ok, hb1, hb2]
    | true =>
      by_cases hm : matsE l = 0
      · have e : totE l r = recE l r := totE_r hm
        by_cases h0 : recE l r = 0
        · have e2 : totV l r = totTo l r r.length := totV_y (by rw [e, h0])
          rw [e2, e, h0] at hk
          rw [e, h0] at hc
          rw [hm] at hloop
          simp (maxSteps := 1000000) (disch := first | omega | assumption) only [r_ret, r_br, decide_eq_true_eq, Bool.not_eq_eq_eq_not, decide_eq_false_iff_not, ite_not, q_true, r_bind, r_iter, q_inB, q_nz, q_app, q_eq, q_bnd, q_str, w64', Option.bind_some, Option.bind_none, List.length_cons, List.length_nil, List.length_append, Nat.zero_add, if_pos, if_neg, decide_true, decide_false, if_true, if_false, Bool.not_true, Bool.not_false, Bool.false_eq_true, Bool.true_eq_false, not_true_eq_false, not_false_eq_true, reduceIte, List.nil_append, awake_ok, hb1, hb2, k_materials, k_layers, hk, hc, k_rCheckMaterials, k_CheckMaterials, hm, k_rCheckRecipe, h0, k_rTotal, and_self, Bool.and_self, hloop]
        · have e2 : totV l r = (0, 0) := totV_n (by rw [e]; exact h0)
          rw [e2, e] at hk
          rw [e] at hc
          rw [hm] at hloop
          simp (maxSteps := 1000000) (disch := first | omega | assumption) only [r_ret, r_br, decide_eq_true_eq, Bool.not_eq_eq_eq_not, decide_eq_false_iff_not, ite_not, q_true, r_bind, r_iter, q_inB, q_nz, q_app, q_eq, q_bnd, q_str, w64', Option.bind_some, Option.bind_none, List.length_cons, List.length_nil, List.length_append, Nat.zero_add, if_pos, if_neg, decide_true, decide_false, if_true, if_false, Bool.not_true, Bool.not_false, Bool.false_eq_true, Bool.true_eq_false, not_true_eq_false, not_false_eq_true, reduceIte, List.nil_append, awake_ok, hb1, hb2, k_materials, k_layers, hk, hc, k_rCheckMaterials, k_CheckMaterials, hm, k_rCheckRecipe, h0, and_self, Bool.and_self, hloop]
      · have e : totE l r = matsE l := totE_m hm
        have e2 : totV l r = (0, 0) := totV_n (by rw [e]; exact hm)
        rw [e2, e] at hk
        rw [e] at hc
        clear e e2
        simp (maxSteps := 1000000) (disch := first | omega | assumption) only [r_ret, r_br, decide_eq_true_eq, Bool.not_eq_eq_eq_not, decide_eq_false_iff_not, ite_not, q_true, r_bind, r_iter, q_inB, q_nz, q_app, q_eq, q_bnd, q_str, w64', Option.bind_some, Option.bind_none, List.length_cons, List.length_nil, List.length_append, Nat.zero_add, if_pos, if_neg, decide_true, decide_false, if_true, if_false, Bool.not_true, Bool.not_false, Bool.false_eq_true, Bool.true_eq_false, not_true_eq_false, not_false_eq_true, reduceIte, List.nil_append, awake_ok, hb1, hb2, k_materials, k_layers, hk, hc, k_rCheckMaterials, k_CheckMaterials, hm, and_self, Bool.and_self, hloop]

theorem mats_in {l : List Mat} (b : bulkT (.list (.pair .str (.pair (.int .i64) (.int .i64)))) l ≤ 1048576) : l.length ≤ 1048576 ∧ NmOk l := by
  refine ⟨Nat.le_trans (bulk_len (a := .pair .str (.pair (.int .i64) (.int .i64))) (by decide)) b, fun i hi => ?_⟩
  have := bulk_mem (a := .pair .str (.pair (.int .i64) (.int .i64))) (gi_mem hi)
  simp only [bulkT] at this b
  omega
theorem lays_in {r : List Lay} (b : bulkT (.list (.pair .str (.int .i64))) r ≤ 1048576) (w : wfT (.list (.pair .str (.int .i64))) r) : r.length ≤ 1048576 ∧ LayOk r := by
  refine ⟨Nat.le_trans (bulk_len (a := .pair .str (.int .i64)) (by decide)) b, fun i hi => ?_⟩
  have := bulk_mem (a := .pair .str (.int .i64)) (gi_mem hi)
  have q := (w _ (gi_mem hi)).2
  simp only [bulkT] at this b
  refine ⟨by omega, q.1, q.2⟩
theorem k_CoatLayers {l : List Mat} {r : List Lay} (b0 : bulkT (.list (.pair .str (.pair (.int .i64) (.int .i64)))) l ≤ 1048576) (w0 : wfT (.list (.pair .str (.pair (.int .i64) (.int .i64)))) l)
    (b1 : bulkT (.list (.pair .str (.int .i64))) r ≤ 1048576) (w1 : wfT (.list (.pair .str (.int .i64))) r) : law08xCoatLayers l r = some ((true, ()), ()) :=
  k_CoatLayers0 (mats_in b0).1 (mats_in b0).2 (lays_in b1 w1).1 (lays_in b1 w1).2
end Go.Ab
end

section
namespace Go.Ab
open Go
set_option maxRecDepth 1000000
set_option maxHeartbeats 1000000
set_option linter.unusedVariables false
set_option linter.unusedSimpArgs false
attribute [local congr] bindC iterC

theorem fdiv_bd {a b m : Int} (hb : 0 < b) (h : -m ≤ a) (h2 : a ≤ m) (hm : 0 ≤ m) : -m ≤ a / b ∧ a / b ≤ m := by
  constructor
  · rcases Int.le_total 0 a with h3 | h3
    · have := Int.ediv_nonneg h3 (Int.le_of_lt hb); omega
    · have h4 : -m * b ≤ a := Int.le_trans (by rw [Int.neg_mul]; have : m * 1 ≤ m * b := Int.mul_le_mul_of_nonneg_left (by omega) hm; omega) h
      exact (Int.le_ediv_iff_mul_le hb).2 h4
  · rcases Int.le_total 0 a with h3 | h3
    · have := Int.ediv_le_self b h3; omega
    · have := Int.ediv_neg_of_neg_of_pos (a := a) (b := b)
      rcases Int.lt_or_eq_of_le h3 with h4 | h4
      · have := this h4 hb; omega
      · subst h4; simp; omega
theorem mod_eq' {a b : Int} (hb : 0 < b) : a % b = if a.tmod b < 0 then a.tmod b + b else a.tmod b := by
  have h1 := Int.tmod_add_mul_tdiv a b
  have h2 := Int.tmod_lt_of_pos a hb
  have h3 := Int.lt_tmod_of_pos a hb
  split
  · refine (Int.ediv_emod_unique (q := a.tdiv b - 1) (r := a.tmod b + b) hb).2 ⟨?_, by omega, by omega⟩ |>.2
    rw [Int.mul_sub]; omega
  · refine (Int.ediv_emod_unique (q := a.tdiv b) (r := a.tmod b) hb).2 ⟨h1, by omega, h2⟩ |>.2

theorem k_floor {a b : Int} (hb : 0 < b) (h : -9000000000000000000 ≤ a) (h2 : a ≤ 9000000000000000000) : coat_floor a b = some ((a / b, ()), ()) := by
  have hd := tdiv_bd hb h h2
  have e := fdiv_eq' (a := a) hb
  simp only [coat_floor, T_coat_floor]
  by_cases c : a.tmod b < 0
  · rw [if_pos c] at e
    simp (maxSteps := 1000000) (disch := first | omega | assumption) only [r_ret, r_br, decide_eq_true_eq, Bool.not_eq_eq_eq_not, decide_eq_false_iff_not, ite_not, q_true, r_bind, r_iter, q_inB, q_nz, q_app, q_eq, q_bnd, q_str, w64', Option.bind_some, Option.bind_none, List.length_cons, List.length_nil, List.length_append, Nat.zero_add, if_pos, if_neg, decide_true, decide_false, if_true, if_false, Bool.not_true, Bool.not_false, Bool.false_eq_true, Bool.true_eq_false, not_true_eq_false, not_false_eq_true, reduceIte, List.nil_append, c, e]
  · rw [if_neg c] at e
    simp (maxSteps := 1000000) (disch := first | omega | assumption) only [r_ret, r_br, decide_eq_true_eq, Bool.not_eq_eq_eq_not, decide_eq_false_iff_not, ite_not, q_true, r_bind, r_iter, q_inB, q_nz, q_app, q_eq, q_bnd, q_str, w64', Option.bind_some, Option.bind_none, List.length_cons, List.length_nil, List.length_append, Nat.zero_add, if_pos, if_neg, decide_true, decide_false, if_true, if_false, Bool.not_true, Bool.not_false, Bool.false_eq_true, Bool.true_eq_false, not_true_eq_false, not_false_eq_true, reduceIte, List.nil_append, c, e]
theorem k_Floor {a b : Int} (hb : 0 < b) (h : -9000000000000000000 ≤ a) (h2 : a ≤ 9000000000000000000) : base_Floor a b = some ((a / b, ()), ()) := by
  have hd := tdiv_bd hb h h2
  have e := fdiv_eq' (a := a) hb
  simp only [base_Floor, T_base_Floor]
  by_cases c : a.tmod b < 0
  · rw [if_pos c] at e
    simp (maxSteps := 1000000) (disch := first | omega | assumption) only [r_ret, r_br, decide_eq_true_eq, Bool.not_eq_eq_eq_not, decide_eq_false_iff_not, ite_not, q_true, r_bind, r_iter, q_inB, q_nz, q_app, q_eq, q_bnd, q_str, w64', Option.bind_some, Option.bind_none, List.length_cons, List.length_nil, List.length_append, Nat.zero_add, if_pos, if_neg, decide_true, decide_false, if_true, if_false, Bool.not_true, Bool.not_false, Bool.false_eq_true, Bool.true_eq_false, not_true_eq_false, not_false_eq_true, reduceIte, List.nil_append, c, e]
  · rw [if_neg c] at e
    simp (maxSteps := 1000000) (disch := first | omega | assumption) only [r_ret, r_br, decide_eq_true_eq, Bool.not_eq_eq_eq_not, decide_eq_false_iff_not, ite_not, q_true, r_bind, r_iter, q_inB, q_nz, q_app, q_eq, q_bnd, q_str, w64', Option.bind_some, Option.bind_none, List.length_cons, List.length_nil, List.length_append, Nat.zero_add, if_pos, if_neg, decide_true, decide_false, if_true, if_false, Bool.not_true, Bool.not_false, Bool.false_eq_true, Bool.true_eq_false, not_true_eq_false, not_false_eq_true, reduceIte, List.nil_append, c, e]
/-- Division, rounded up. -/
def cdiv (a b : Int) : Int := 0 - (0 - a) / b
theorem k_ceil {a b : Int} (hb : 0 < b) (h : -9000000000000000000 ≤ a) (h2 : a ≤ 9000000000000000000) : coat_ceil a b = some ((cdiv a b, ()), ()) := by
  have := fdiv_bd (a := 0 - a) hb (m := 9000000000000000000) (by omega) (by omega) (by omega)
  simp only [coat_ceil, T_coat_ceil, cdiv]
  simp (maxSteps := 1000000) (disch := first | omega | assumption) only [r_ret, r_br, decide_eq_true_eq, Bool.not_eq_eq_eq_not, decide_eq_false_iff_not, ite_not, q_true, r_bind, r_iter, q_inB, q_nz, q_app, q_eq, q_bnd, q_str, w64', Option.bind_some, Option.bind_none, List.length_cons, List.length_nil, List.length_append, Nat.zero_add, if_pos, if_neg, decide_true, decide_false, if_true, if_false, Bool.not_true, Bool.not_false, Bool.false_eq_true, Bool.true_eq_false, not_true_eq_false, not_false_eq_true, reduceIte, List.nil_append, k_floor]
theorem k_Ceil {a b : Int} (hb : 0 < b) (h : -9000000000000000000 ≤ a) (h2 : a ≤ 9000000000000000000) : base_Ceil a b = some ((cdiv a b, ()), ()) := by
  have := fdiv_bd (a := 0 - a) hb (m := 9000000000000000000) (by omega) (by omega) (by omega)
  simp only [base_Ceil, T_base_Ceil, cdiv]
  simp (maxSteps := 1000000) (disch := first | omega | assumption) only [r_ret, r_br, decide_eq_true_eq, Bool.not_eq_eq_eq_not, decide_eq_false_iff_not, ite_not, q_true, r_bind, r_iter, q_inB, q_nz, q_app, q_eq, q_bnd, q_str, w64', Option.bind_some, Option.bind_none, List.length_cons, List.length_nil, List.length_append, Nat.zero_add, if_pos, if_neg, decide_true, decide_false, if_true, if_false, Bool.not_true, Bool.not_false, Bool.false_eq_true, Bool.true_eq_false, not_true_eq_false, not_false_eq_true, reduceIte, List.nil_append, k_Floor]
theorem k_Mod {a b : Int} (hb : 0 < b) (h : b ≤ 4000000000000000000) : base_Mod a b = some ((a % b, ()), ()) := by
  have h2 := Int.tmod_lt_of_pos a hb
  have h3 := Int.lt_tmod_of_pos a hb
  have e := mod_eq' (a := a) hb
  simp only [base_Mod, T_base_Mod]
  by_cases c : a.tmod b < 0
  · rw [if_pos c] at e
    simp (maxSteps := 1000000) (disch := first | omega | assumption) only [r_ret, r_br, decide_eq_true_eq, Bool.not_eq_eq_eq_not, decide_eq_false_iff_not, ite_not, q_true, r_bind, r_iter, q_inB, q_nz, q_app, q_eq, q_bnd, q_str, w64', Option.bind_some, Option.bind_none, List.length_cons, List.length_nil, List.length_append, Nat.zero_add, if_pos, if_neg, decide_true, decide_false, if_true, if_false, Bool.not_true, Bool.not_false, Bool.false_eq_true, Bool.true_eq_false, not_true_eq_false, not_false_eq_true, reduceIte, List.nil_append, c, e]
  · rw [if_neg c] at e
    simp (maxSteps := 1000000) (disch := first | omega | assumption) only [r_ret, r_br, decide_eq_true_eq, Bool.not_eq_eq_eq_not, decide_eq_false_iff_not, ite_not, q_true, r_bind, r_iter, q_inB, q_nz, q_app, q_eq, q_bnd, q_str, w64', Option.bind_some, Option.bind_none, List.length_cons, List.length_nil, List.length_append, Nat.zero_add, if_pos, if_neg, decide_true, decide_false, if_true, if_false, Bool.not_true, Bool.not_false, Bool.false_eq_true, Bool.true_eq_false, not_true_eq_false, not_false_eq_true, reduceIte, List.nil_append, c, e]

theorem k_between (n lo hi : Int) : number_between n lo hi = some ((decide (lo ≤ n ∧ n ≤ hi), ()), ()) := by
  simp only [number_between, T_number_between, r_br, r_ret]
  by_cases h : lo ≤ n <;> simp [h]
/-- What is wrong with a range. -/
def rngE (r : Int × Int) : Int := if ¬ (-1000000000000000 ≤ r.1 ∧ r.1 ≤ 1000000000000000) then 2 else if ¬ (-1000000000000000 ≤ r.2 ∧ r.2 ≤ 1000000000000000) then 2 else if r.2 < r.1 then 9 else 0
def thkR (r : Int × Int) : Int := if rngE r = 0 then (if r.1 < 0 then 2 else 0) else rngE r
theorem k_CheckRange (r : Int × Int) : number_CheckRange r = some ((rngE r, ()), ()) := by
  simp only [number_CheckRange, T_number_CheckRange]
  unfold rngE
  by_cases c1 : -1000000000000000 ≤ r.1 ∧ r.1 ≤ 1000000000000000
  · by_cases c2 : -1000000000000000 ≤ r.2 ∧ r.2 ≤ 1000000000000000
    · by_cases c3 : r.2 < r.1
      · simp (maxSteps := 1000000) (disch := first | omega | assumption) only [r_ret, r_br, decide_eq_true_eq, Bool.not_eq_eq_eq_not, decide_eq_false_iff_not, ite_not, q_true, r_bind, r_iter, q_inB, q_nz, q_app, q_eq, q_bnd, q_str, w64', Option.bind_some, Option.bind_none, List.length_cons, List.length_nil, List.length_append, Nat.zero_add, if_pos, if_neg, decide_true, decide_false, if_true, if_false, Bool.not_true, Bool.not_false, Bool.false_eq_true, Bool.true_eq_false, not_true_eq_false, not_false_eq_true, reduceIte, List.nil_append, k_between, c1, c2, c3, and_self]
      · simp (maxSteps := 1000000) (disch := first | omega | assumption) only [r_ret, r_br, decide_eq_true_eq, Bool.not_eq_eq_eq_not, decide_eq_false_iff_not, ite_not, q_true, r_bind, r_iter, q_inB, q_nz, q_app, q_eq, q_bnd, q_str, w64', Option.bind_some, Option.bind_none, List.length_cons, List.length_nil, List.length_append, Nat.zero_add, if_pos, if_neg, decide_true, decide_false, if_true, if_false, Bool.not_true, Bool.not_false, Bool.false_eq_true, Bool.true_eq_false, not_true_eq_false, not_false_eq_true, reduceIte, List.nil_append, k_between, c1, c2, c3, and_self]
    · simp (maxSteps := 1000000) (disch := first | omega | assumption) only [r_ret, r_br, decide_eq_true_eq, Bool.not_eq_eq_eq_not, decide_eq_false_iff_not, ite_not, q_true, r_bind, r_iter, q_inB, q_nz, q_app, q_eq, q_bnd, q_str, w64', Option.bind_some, Option.bind_none, List.length_cons, List.length_nil, List.length_append, Nat.zero_add, if_pos, if_neg, decide_true, decide_false, if_true, if_false, Bool.not_true, Bool.not_false, Bool.false_eq_true, Bool.true_eq_false, not_true_eq_false, not_false_eq_true, reduceIte, List.nil_append, k_between, c1, c2, and_self]
  · simp (maxSteps := 1000000) (disch := first | omega | assumption) only [r_ret, r_br, decide_eq_true_eq, Bool.not_eq_eq_eq_not, decide_eq_false_iff_not, ite_not, q_true, r_bind, r_iter, q_inB, q_nz, q_app, q_eq, q_bnd, q_str, w64', Option.bind_some, Option.bind_none, List.length_cons, List.length_nil, List.length_append, Nat.zero_add, if_pos, if_neg, decide_true, decide_false, if_true, if_false, Bool.not_true, Bool.not_false, Bool.false_eq_true, Bool.true_eq_false, not_true_eq_false, not_false_eq_true, reduceIte, List.nil_append, k_between, c1, and_self]
theorem k_checkThick (r : Int × Int) : coat_checkThick r = some ((thkR r, ()), ()) := by
  simp only [coat_checkThick, T_coat_checkThick]
  unfold thkR
  by_cases c1 : rngE r = 0
  · by_cases c2 : r.1 < 0
    · simp (maxSteps := 1000000) (disch := first | omega | assumption) only [r_ret, r_br, decide_eq_true_eq, Bool.not_eq_eq_eq_not, decide_eq_false_iff_not, ite_not, q_true, r_bind, r_iter, q_inB, q_nz, q_app, q_eq, q_bnd, q_str, w64', Option.bind_some, Option.bind_none, List.length_cons, List.length_nil, List.length_append, Nat.zero_add, if_pos, if_neg, decide_true, decide_false, if_true, if_false, Bool.not_true, Bool.not_false, Bool.false_eq_true, Bool.true_eq_false, not_true_eq_false, not_false_eq_true, reduceIte, List.nil_append, k_CheckRange, c1, c2]
    · simp (maxSteps := 1000000) (disch := first | omega | assumption) only [r_ret, r_br, decide_eq_true_eq, Bool.not_eq_eq_eq_not, decide_eq_false_iff_not, ite_not, q_true, r_bind, r_iter, q_inB, q_nz, q_app, q_eq, q_bnd, q_str, w64', Option.bind_some, Option.bind_none, List.length_cons, List.length_nil, List.length_append, Nat.zero_add, if_pos, if_neg, decide_true, decide_false, if_true, if_false, Bool.not_true, Bool.not_false, Bool.false_eq_true, Bool.true_eq_false, not_true_eq_false, not_false_eq_true, reduceIte, List.nil_append, k_CheckRange, c1, c2]
  · simp (maxSteps := 1000000) (disch := first | omega | assumption) only [r_ret, r_br, decide_eq_true_eq, Bool.not_eq_eq_eq_not, decide_eq_false_iff_not, ite_not, q_true, r_bind, r_iter, q_inB, q_nz, q_app, q_eq, q_bnd, q_str, w64', Option.bind_some, Option.bind_none, List.length_cons, List.length_nil, List.length_append, Nat.zero_add, if_pos, if_neg, decide_true, decide_false, if_true, if_false, Bool.not_true, Bool.not_false, Bool.false_eq_true, Bool.true_eq_false, not_true_eq_false, not_false_eq_true, reduceIte, List.nil_append, k_CheckRange, c1]
theorem k_rCheckRange (r : Int × Int) : ref01xCheckRange r = some ((rngE r, ()), ()) := by
  simp only [ref01xCheckRange, T_ref01xCheckRange]
  rw [r_iter]
  refine iter_eq (fun i x => x = ((i : Int), ()) ∧ (1 ≤ i → -1000000000000000 ≤ r.1 ∧ r.1 ≤ 1000000000000000) ∧ (2 ≤ i → -1000000000000000 ≤ r.2 ∧ r.2 ≤ 1000000000000000)) _ 2 (by omega) ?_ ⟨rfl, by omega, by omega⟩
  rintro i x hi ⟨rfl, h1, h2⟩
  simp only [T_ref01xCheckRange_l0]
  rcases (by omega : i = 0 ∨ i = 1 ∨ i = 2) with e | e | e
  · subst e
    by_cases c1 : r.1 < -1000000000000000
    · have e : rngE r = 2 := by unfold rngE; rw [if_pos (by omega)]
      right; rw [e]; simp (maxSteps := 1000000) (disch := first | omega | assumption) only [r_ret, r_br, decide_eq_true_eq, Bool.not_eq_eq_eq_not, decide_eq_false_iff_not, ite_not, q_true, r_bind, r_iter, q_inB, q_nz, q_app, q_eq, q_bnd, q_str, w64', Option.bind_some, Option.bind_none, List.length_cons, List.length_nil, List.length_append, Nat.zero_add, if_pos, if_neg, decide_true, decide_false, if_true, if_false, Bool.not_true, Bool.not_false, Bool.false_eq_true, Bool.true_eq_false, not_true_eq_false, not_false_eq_true, reduceIte, List.nil_append, c1]
    · by_cases c2 : 1000000000000000 < r.1
      · have e : rngE r = 2 := by unfold rngE; rw [if_pos (by omega)]
        right; rw [e]; simp (maxSteps := 1000000) (disch := first | omega | assumption) only [r_ret, r_br, decide_eq_true_eq, Bool.not_eq_eq_eq_not, decide_eq_false_iff_not, ite_not, q_true, r_bind, r_iter, q_inB, q_nz, q_app, q_eq, q_bnd, q_str, w64', Option.bind_some, Option.bind_none, List.length_cons, List.length_nil, List.length_append, Nat.zero_add, if_pos, if_neg, decide_true, decide_false, if_true, if_false, Bool.not_true, Bool.not_false, Bool.false_eq_true, Bool.true_eq_false, not_true_eq_false, not_false_eq_true, reduceIte, List.nil_append, c1, c2]
      · left
        refine ⟨(((0 : Nat) : Int) + 1, ()), by simp (maxSteps := 1000000) (disch := first | omega | assumption) only [r_ret, r_br, decide_eq_true_eq, Bool.not_eq_eq_eq_not, decide_eq_false_iff_not, ite_not, q_true, r_bind, r_iter, q_inB, q_nz, q_app, q_eq, q_bnd, q_str, w64', Option.bind_some, Option.bind_none, List.length_cons, List.length_nil, List.length_append, Nat.zero_add, if_pos, if_neg, decide_true, decide_false, if_true, if_false, Bool.not_true, Bool.not_false, Bool.false_eq_true, Bool.true_eq_false, not_true_eq_false, not_false_eq_true, reduceIte, List.nil_append, c1, c2], by omega, rfl, by omega, by omega⟩
  · subst e
    have h1 := h1 (by omega)
    by_cases c1 : r.2 < -1000000000000000
    · have e : rngE r = 2 := by unfold rngE; rw [if_neg (by omega), if_pos (by omega)]
      right; rw [e]; simp (maxSteps := 1000000) (disch := first | omega | assumption) only [r_ret, r_br, decide_eq_true_eq, Bool.not_eq_eq_eq_not, decide_eq_false_iff_not, ite_not, q_true, r_bind, r_iter, q_inB, q_nz, q_app, q_eq, q_bnd, q_str, w64', Option.bind_some, Option.bind_none, List.length_cons, List.length_nil, List.length_append, Nat.zero_add, if_pos, if_neg, decide_true, decide_false, if_true, if_false, Bool.not_true, Bool.not_false, Bool.false_eq_true, Bool.true_eq_false, not_true_eq_false, not_false_eq_true, reduceIte, List.nil_append, c1]
    · by_cases c2 : 1000000000000000 < r.2
      · have e : rngE r = 2 := by unfold rngE; rw [if_neg (by omega), if_pos (by omega)]
        right; rw [e]; simp (maxSteps := 1000000) (disch := first | omega | assumption) only [r_ret, r_br, decide_eq_true_eq, Bool.not_eq_eq_eq_not, decide_eq_false_iff_not, ite_not, q_true, r_bind, r_iter, q_inB, q_nz, q_app, q_eq, q_bnd, q_str, w64', Option.bind_some, Option.bind_none, List.length_cons, List.length_nil, List.length_append, Nat.zero_add, if_pos, if_neg, decide_true, decide_false, if_true, if_false, Bool.not_true, Bool.not_false, Bool.false_eq_true, Bool.true_eq_false, not_true_eq_false, not_false_eq_true, reduceIte, List.nil_append, c1, c2]
      · left
        refine ⟨(((1 : Nat) : Int) + 1, ()), by simp (maxSteps := 1000000) (disch := first | omega | assumption) only [r_ret, r_br, decide_eq_true_eq, Bool.not_eq_eq_eq_not, decide_eq_false_iff_not, ite_not, q_true, r_bind, r_iter, q_inB, q_nz, q_app, q_eq, q_bnd, q_str, w64', Option.bind_some, Option.bind_none, List.length_cons, List.length_nil, List.length_append, Nat.zero_add, if_pos, if_neg, decide_true, decide_false, if_true, if_false, Bool.not_true, Bool.not_false, Bool.false_eq_true, Bool.true_eq_false, not_true_eq_false, not_false_eq_true, reduceIte, List.nil_append, c1, c2], by omega, rfl, by omega, by omega⟩
  · subst e
    have h1 := h1 (by omega)
    have h2 := h2 (by omega)
    right
    by_cases c : r.2 < r.1
    · have e : rngE r = 9 := by unfold rngE; rw [if_neg (by omega), if_neg (by omega), if_pos c]
      rw [e]; simp (maxSteps := 1000000) (disch := first | omega | assumption) only [r_ret, r_br, decide_eq_true_eq, Bool.not_eq_eq_eq_not, decide_eq_false_iff_not, ite_not, q_true, r_bind, r_iter, q_inB, q_nz, q_app, q_eq, q_bnd, q_str, w64', Option.bind_some, Option.bind_none, List.length_cons, List.length_nil, List.length_append, Nat.zero_add, if_pos, if_neg, decide_true, decide_false, if_true, if_false, Bool.not_true, Bool.not_false, Bool.false_eq_true, Bool.true_eq_false, not_true_eq_false, not_false_eq_true, reduceIte, List.nil_append, c]
    · have e : rngE r = 0 := by unfold rngE; rw [if_neg (by omega), if_neg (by omega), if_neg c]
      rw [e]; simp (maxSteps := 1000000) (disch := first | omega | assumption) only [r_ret, r_br, decide_eq_true_eq, Bool.not_eq_eq_eq_not, decide_eq_false_iff_not, ite_not, q_true, r_bind, r_iter, q_inB, q_nz, q_app, q_eq, q_bnd, q_str, w64', Option.bind_some, Option.bind_none, List.length_cons, List.length_nil, List.length_append, Nat.zero_add, if_pos, if_neg, decide_true, decide_false, if_true, if_false, Bool.not_true, Bool.not_false, Bool.false_eq_true, Bool.true_eq_false, not_true_eq_false, not_false_eq_true, reduceIte, List.nil_append, c]
end Go.Ab
end

section
namespace Go.Ab
open Go
set_option maxRecDepth 1000000
set_option maxHeartbeats 4000000
set_option linter.unusedVariables false
set_option linter.unusedSimpArgs false
attribute [local congr] bindC iterC

theorem rngE_0 {r : Int × Int} (h : rngE r = 0) : -1000000000000000 ≤ r.1 ∧ r.1 ≤ r.2 ∧ r.2 ≤ 1000000000000000 := by
  unfold rngE at h
  split at h
  · cases h
  split at h
  · cases h
  split at h
  · cases h
  omega
theorem thkR_0 {r : Int × Int} (h : thkR r = 0) : rngE r = 0 ∧ 0 ≤ r.1 ∧ r.1 ≤ r.2 ∧ r.2 ≤ 1000000000000000 := by
  unfold thkR at h
  split at h
  · rename_i h0
    split at h
    · cases h
    · have := rngE_0 h0; omega
  · contradiction

abbrev cntM (l : List Mat) (nm : List UInt8) : Mat := gi l (matIx l nm)
def cntLo (l : List Mat) (nm : List UInt8) (w : Int × Int) : Int := max 1 (cdiv w.1 (cntM l nm).2.1)
def cntHi (l : List Mat) (nm : List UInt8) (w : Int × Int) : Int := min 100000 (w.2 / (cntM l nm).2.2 - 1)
def cntE (l : List Mat) (nm : List UInt8) (w : Int × Int) : Int := if matIx l nm < 0 then 6 else if thkR w = 0 then (if cntHi l nm w < cntLo l nm w then 12 else 0) else thkR w
def cntV (l : List Mat) (nm : List UInt8) (w : Int × Int) : Int × Int := if cntE l nm w = 0 then (cntLo l nm w, cntHi l nm w) else (0, 0)

theorem k_CountsFor {l : List Mat} (hl : l.length ≤ 1048576) (hn : NmOk l) (hm : matsE l = 0) (nm : List UInt8) (w : Int × Int) : coat_CountsFor l nm w = some ((cntV l nm w, cntE l nm w, ()), ()) := by
  simp only [coat_CountsFor, T_coat_CountsFor]
  have hb := matIx_bd l nm
  unfold cntV
  by_cases c1 : matIx l nm < 0
  · have e : cntE l nm w = 6 := if_pos c1
    rw [e]
    simp (maxSteps := 1000000) (disch := first | omega | assumption) only [r_ret, r_br, decide_eq_true_eq, Bool.not_eq_eq_eq_not, decide_eq_false_iff_not, ite_not, q_true, r_bind, r_iter, q_inB, q_nz, q_app, q_eq, q_bnd, q_str, w64', Option.bind_some, Option.bind_none, List.length_cons, List.length_nil, List.length_append, Nat.zero_add, if_pos, if_neg, decide_true, decide_false, if_true, if_false, Bool.not_true, Bool.not_false, Bool.false_eq_true, Bool.true_eq_false, not_true_eq_false, not_false_eq_true, reduceIte, List.nil_append, k_CheckMaterials, hm, k_find, c1]
    all_goals rfl
  · by_cases c2 : thkR w = 0
    · obtain ⟨t1, t2, t3, t4⟩ := thkR_0 c2
      have hk := (mats_ok hm).2 (matIx l nm).toNat (by omega)
      rw [show (((matIx l nm).toNat : Nat) : Int) = matIx l nm by omega] at hk
      have q1 : w.2.tdiv (gi l (matIx l nm)).2.2 = w.2 / (gi l (matIx l nm)).2.2 := Int.tdiv_eq_ediv_of_nonneg (by omega)
      have q2 := fdiv_bd (a := w.2) (b := (gi l (matIx l nm)).2.2) (m := 1000000000000000) (by omega) (by omega) (by omega) (by omega)
      by_cases c3 : cntHi l nm w < cntLo l nm w
      · have e : cntE l nm w = 12 := by unfold cntE; rw [if_neg c1, if_pos c2, if_pos c3]
        rw [e]
        simp only [cntHi, cntLo] at c3
        simp (maxSteps := 1000000) (disch := first | omega | assumption) only [r_ret, r_br, decide_eq_true_eq, Bool.not_eq_eq_eq_not, decide_eq_false_iff_not, ite_not, q_true, r_bind, r_iter, q_inB, q_nz, q_app, q_eq, q_bnd, q_str, w64', Option.bind_some, Option.bind_none, List.length_cons, List.length_nil, List.length_append, Nat.zero_add, if_pos, if_neg, decide_true, decide_false, if_true, if_false, Bool.not_true, Bool.not_false, Bool.false_eq_true, Bool.true_eq_false, not_true_eq_false, not_false_eq_true, reduceIte, List.nil_append, k_CheckMaterials, hm, k_find, c1, k_checkThick, c2, k_ceil, q1, c3]
        all_goals rfl
      · have e : cntE l nm w = 0 := by unfold cntE; rw [if_neg c1, if_pos c2, if_neg c3]
        rw [e]
        simp only [cntHi, cntLo] at c3 ⊢
        simp (maxSteps := 1000000) (disch := first | omega | assumption) only [r_ret, r_br, decide_eq_true_eq, Bool.not_eq_eq_eq_not, decide_eq_false_iff_not, ite_not, q_true, r_bind, r_iter, q_inB, q_nz, q_app, q_eq, q_bnd, q_str, w64', Option.bind_some, Option.bind_none, List.length_cons, List.length_nil, List.length_append, Nat.zero_add, if_pos, if_neg, decide_true, decide_false, if_true, if_false, Bool.not_true, Bool.not_false, Bool.false_eq_true, Bool.true_eq_false, not_true_eq_false, not_false_eq_true, reduceIte, List.nil_append, k_CheckMaterials, hm, k_find, c1, k_checkThick, c2, k_ceil, q1, c3]
    · have e : cntE l nm w = thkR w := by unfold cntE; rw [if_neg c1, if_neg c2]
      rw [e]
      simp (maxSteps := 1000000) (disch := first | omega | assumption) only [r_ret, r_br, decide_eq_true_eq, Bool.not_eq_eq_eq_not, decide_eq_false_iff_not, ite_not, q_true, r_bind, r_iter, q_inB, q_nz, q_app, q_eq, q_bnd, q_str, w64', Option.bind_some, Option.bind_none, List.length_cons, List.length_nil, List.length_append, Nat.zero_add, if_pos, if_neg, decide_true, decide_false, if_true, if_false, Bool.not_true, Bool.not_false, Bool.false_eq_true, Bool.true_eq_false, not_true_eq_false, not_false_eq_true, reduceIte, List.nil_append, k_CheckMaterials, hm, k_find, c1, k_checkThick, c2]
theorem k_CountsFor_n {l : List Mat} (hl : l.length ≤ 1048576) (hn : NmOk l) (hm : ¬ matsE l = 0) (nm : List UInt8) (w : Int × Int) : coat_CountsFor l nm w = some (((0, 0), matsE l, ()), ()) := by
  simp only [coat_CountsFor, T_coat_CountsFor]
  simp (maxSteps := 1000000) (disch := first | omega | assumption) only [r_ret, r_br, decide_eq_true_eq, Bool.not_eq_eq_eq_not, decide_eq_false_iff_not, ite_not, q_true, r_bind, r_iter, q_inB, q_nz, q_app, q_eq, q_bnd, q_str, w64', Option.bind_some, Option.bind_none, List.length_cons, List.length_nil, List.length_append, Nat.zero_add, if_pos, if_neg, decide_true, decide_false, if_true, if_false, Bool.not_true, Bool.not_false, Bool.false_eq_true, Bool.true_eq_false, not_true_eq_false, not_false_eq_true, reduceIte, List.nil_append, k_CheckMaterials, hm]

theorem k_rCountsFor {l : List Mat} (hl : l.length ≤ 1048576) (hm : matsE l = 0) (nm : List UInt8) (w : Int × Int) : ref08xCountsFor l nm w = some ((cntV l nm w, cntE l nm w, ()), ()) := by
  simp only [ref08xCountsFor, T_ref08xCountsFor]
  have hb := matIx_bd l nm
  unfold cntV
  by_cases c1 : matIx l nm < 0
  · have e : cntE l nm w = 6 := if_pos c1
    rw [e]
    simp (maxSteps := 1000000) (disch := first | omega | assumption) only [r_ret, r_br, decide_eq_true_eq, Bool.not_eq_eq_eq_not, decide_eq_false_iff_not, ite_not, q_true, r_bind, r_iter, q_inB, q_nz, q_app, q_eq, q_bnd, q_str, w64', Option.bind_some, Option.bind_none, List.length_cons, List.length_nil, List.length_append, Nat.zero_add, if_pos, if_neg, decide_true, decide_false, if_true, if_false, Bool.not_true, Bool.not_false, Bool.false_eq_true, Bool.true_eq_false, not_true_eq_false, not_false_eq_true, reduceIte, List.nil_append, k_FindMaterial, c1]
    all_goals rfl
  · by_cases c2 : rngE w = 0
    · have r0 := rngE_0 c2
      by_cases c0 : w.1 < 0
      · have e : cntE l nm w = 2 := by
          have : thkR w = 2 := by unfold thkR; rw [if_pos c2, if_pos c0]
          unfold cntE; rw [if_neg c1, if_neg (by rw [this]; decide), this]
        rw [e]
        simp (maxSteps := 1000000) (disch := first | omega | assumption) only [r_ret, r_br, decide_eq_true_eq, Bool.not_eq_eq_eq_not, decide_eq_false_iff_not, ite_not, q_true, r_bind, r_iter, q_inB, q_nz, q_app, q_eq, q_bnd, q_str, w64', Option.bind_some, Option.bind_none, List.length_cons, List.length_nil, List.length_append, Nat.zero_add, if_pos, if_neg, decide_true, decide_false, if_true, if_false, Bool.not_true, Bool.not_false, Bool.false_eq_true, Bool.true_eq_false, not_true_eq_false, not_false_eq_true, reduceIte, List.nil_append, k_FindMaterial, c1, k_rCheckRange, c2, c0]
        all_goals rfl
      · have c2' : thkR w = 0 := by unfold thkR; rw [if_pos c2, if_neg c0]
        have hk := (mats_ok hm).2 (matIx l nm).toNat (by omega)
        rw [show (((matIx l nm).toNat : Nat) : Int) = matIx l nm by omega] at hk
        have q2 := fdiv_bd (a := w.2) (b := (gi l (matIx l nm)).2.2) (m := 1000000000000000) (by omega) (by omega) (by omega) (by omega)
        by_cases c3 : cntHi l nm w < cntLo l nm w
        · have e : cntE l nm w = 12 := by unfold cntE; rw [if_neg c1, if_pos c2', if_pos c3]
          rw [e]
          simp only [cntHi, cntLo] at c3
          simp (maxSteps := 1000000) (disch := first | omega | assumption) only [r_ret, r_br, decide_eq_true_eq, Bool.not_eq_eq_eq_not, decide_eq_false_iff_not, ite_not, q_true, r_bind, r_iter, q_inB, q_nz, q_app, q_eq, q_bnd, q_str, w64', Option.bind_some, Option.bind_none, List.length_cons, List.length_nil, List.length_append, Nat.zero_add, if_pos, if_neg, decide_true, decide_false, if_true, if_false, Bool.not_true, Bool.not_false, Bool.false_eq_true, Bool.true_eq_false, not_true_eq_false, not_false_eq_true, reduceIte, List.nil_append, k_FindMaterial, c1, k_rCheckRange, c2, c0, k_Ceil, k_Floor, c3]
          all_goals rfl
        · have e : cntE l nm w = 0 := by unfold cntE; rw [if_neg c1, if_pos c2', if_neg c3]
          rw [e]
          simp only [cntHi, cntLo] at c3 ⊢
          simp (maxSteps := 1000000) (disch := first | omega | assumption) only [r_ret, r_br, decide_eq_true_eq, Bool.not_eq_eq_eq_not, decide_eq_false_iff_not, ite_not, q_true, r_bind, r_iter, q_inB, q_nz, q_app, q_eq, q_bnd, q_str, w64', Option.bind_some, Option.bind_none, List.length_cons, List.length_nil, List.length_append, Nat.zero_add, if_pos, if_neg, decide_true, decide_false, if_true, if_false, Bool.not_true, Bool.not_false, Bool.false_eq_true, Bool.true_eq_false, not_true_eq_false, not_false_eq_true, reduceIte, List.nil_append, k_FindMaterial, c1, k_rCheckRange, c2, c0, k_Ceil, k_Floor, c3]
    · have e : cntE l nm w = rngE w := by
        have : thkR w = rngE w := by unfold thkR; rw [if_neg c2]
        unfold cntE; rw [if_neg c1, if_neg (by rw [this]; exact c2), this]
      rw [e]
      simp (maxSteps := 1000000) (disch := first | omega | assumption) only [r_ret, r_br, decide_eq_true_eq, Bool.not_eq_eq_eq_not, decide_eq_false_iff_not, ite_not, q_true, r_bind, r_iter, q_inB, q_nz, q_app, q_eq, q_bnd, q_str, w64', Option.bind_some, Option.bind_none, List.length_cons, List.length_nil, List.length_append, Nat.zero_add, if_pos, if_neg, decide_true, decide_false, if_true, if_false, Bool.not_true, Bool.not_false, Bool.false_eq_true, Bool.true_eq_false, not_true_eq_false, not_false_eq_true, reduceIte, List.nil_append, k_FindMaterial, c1, k_rCheckRange, c2]

theorem k_CoatCounts0 {l : List Mat} (hl : l.length ≤ 1048576) (hn : NmOk l) (nm : List UInt8) (w : Int × Int) : law08xCoatCounts l nm w = some ((true, ()), ()) := by
  obtain ⟨b1, hb1⟩ := k_short hl
  simp only [law08xCoatCounts, T_law08xCoatCounts]
  cases b1 with
  | false => simp (maxSteps := 1000000) (disch := first | omega | assumption) only [r_ret, r_br, decide_eq_true_eq, Bool.not_eq_eq_eq_not, decide_eq_false_iff_not, ite_not, q_true, r_bind, r_iter, q_inB, q_nz, q_app, q_eq, q_bnd, q_str, w64', Option.bind_some, Option.bind_none, List.length_cons, List.length_nil, List.length_append, Nat.zero_add, if_pos, if_neg, decide_true, decide_false, if_true, if_false, Bool.not_true, Bool.not_false, Bool.false_eq_true, Bool.true_eq_false, not_true_eq_false, not_false_eq_true, reduceIte, List.nil_append, awake_ok, hb1]
  | true =>
    by_cases c : (20 : Int) < nm.length
    · simp (maxSteps := 1000000) (disch := first | omega | assumption) only [r_ret, r_br, decide_eq_true_eq, Bool.not_eq_eq_eq_not, decide_eq_false_iff_not, ite_not, q_true, r_bind, r_iter, q_inB, q_nz, q_app, q_eq, q_bnd, q_str, w64', Option.bind_some, Option.bind_none, List.length_cons, List.length_nil, List.length_append, Nat.zero_add, if_pos, if_neg, decide_true, decide_false, if_true, if_false, Bool.not_true, Bool.not_false, Bool.false_eq_true, Bool.true_eq_false, not_true_eq_false, not_false_eq_true, reduceIte, List.nil_append, awake_ok, hb1, c]
    · by_cases hm : matsE l = 0
      · simp (maxSteps := 1000000) (disch := first | omega | assumption) only [r_ret, r_br, decide_eq_true_eq, Bool.not_eq_eq_eq_not, decide_eq_false_iff_not, ite_not, q_true, r_bind, r_iter, q_inB, q_nz, q_app, q_eq, q_bnd, q_str, w64', Option.bind_some, Option.bind_none, List.length_cons, List.length_nil, List.length_append, Nat.zero_add, if_pos, if_neg, decide_true, decide_false, if_true, if_false, Bool.not_true, Bool.not_false, Bool.false_eq_true, Bool.true_eq_false, not_true_eq_false, not_false_eq_true, reduceIte, List.nil_append, awake_ok, hb1, c, k_materials, k_CountsFor, k_rCheckMaterials, hm, k_rCountsFor, Bool.and_self]
      · simp (maxSteps := 1000000) (disch := first | omega | assumption) only [r_ret, r_br, decide_eq_true_eq, Bool.not_eq_eq_eq_not, decide_eq_false_iff_not, ite_not, q_true, r_bind, r_iter, q_inB, q_nz, q_app, q_eq, q_bnd, q_str, w64', Option.bind_some, Option.bind_none, List.length_cons, List.length_nil, List.length_append, Nat.zero_add, if_pos, if_neg, decide_true, decide_false, if_true, if_false, Bool.not_true, Bool.not_false, Bool.false_eq_true, Bool.true_eq_false, not_true_eq_false, not_false_eq_true, reduceIte, List.nil_append, awake_ok, hb1, c, k_materials, k_CountsFor_n, k_rCheckMaterials, hm, Bool.and_self]
theorem k_CoatCounts {l : List Mat} {nm : List UInt8} {w : Int × Int} (b0 : bulkT (.list (.pair .str (.pair (.int .i64) (.int .i64)))) l ≤ 1048576) (w0 : wfT (.list (.pair .str (.pair (.int .i64) (.int .i64)))) l)
    (b1 : bulkT .str nm ≤ 1048576) (w1 : wfT .str nm) (b2 : bulkT (.pair (.int .i64) (.int .i64)) w ≤ 1048576) (w2 : wfT (.pair (.int .i64) (.int .i64)) w) : law08xCoatCounts l nm w = some ((true, ()), ()) :=
  k_CoatCounts0 (mats_in b0).1 (mats_in b0).2 nm w
end Go.Ab
end

section
namespace Go.Ab
open Go
theorem inB_t' {n : Int} {len : Nat} (h : 0 ≤ n) (h2 : n < len) : inB n len = true := decide_eq_true ⟨h, h2⟩
theorem app_t' {n b : Nat} (h : n ≤ 1099511627776) (h2 : n * b ≤ 140737488355328) : okApp n b = true := decide_eq_true ⟨h, h2⟩
theorem bnd_t' {a b : Int} {len : Nat} (h1 : 0 ≤ a) (h2 : a ≤ b) (h3 : b ≤ len) : bndOk a b len = true := decide_eq_true ⟨h1, h2, h3⟩
theorem str_t' {n : Nat} (h : n ≤ 9223372036854775807) : okStr n = true := decide_eq_true h
end Go.Ab
end
