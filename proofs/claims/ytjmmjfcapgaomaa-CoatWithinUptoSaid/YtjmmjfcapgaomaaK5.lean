/- Materials and layers of the program. -/
import Derived.Test.YtjmmjfcapgaomaaK4
namespace Go.Ab
open Go
set_option maxRecDepth 1000000
set_option maxHeartbeats 1000000
set_option linter.unusedVariables false
set_option linter.unusedSimpArgs false

def namesTo (l : List Mat) : Nat → List (List UInt8 × Bool)
  | 0 => []
  | i + 1 => ((gi l (i : Int)).1, true) :: namesTo l i
theorem names_get (l : List Mat) (nm : List UInt8) : ∀ i : Nat, ((namesTo l i).lookup nm).getD false = decide (0 ≤ idxTo (isMat l nm) i)
  | 0 => rfl
  | i + 1 => by
    rw [namesTo, List.lookup_cons, idxTo]
    have ih := names_get l nm i
    by_cases h : (gi l (i : Int)).1 = nm
    · have hb : (nm == (gi l (i : Int)).1) = true := by simp [h]
      have hm : isMat l nm i = true := decide_eq_true h
      simp only [hb, Option.getD_some]
      symm
      rw [decide_eq_true_eq]
      rcases idxTo_cases (isMat l nm) i with ⟨h1, _⟩ | ⟨k, _, h2, _⟩
      · simp [h1, hm]
      · simp [h2]
    · have hb : (nm == (gi l (i : Int)).1) = false := by simp; exact fun e => h e.symm
      have hm : isMat l nm i = false := decide_eq_false h
      simp only [hb, ih, hm]
      rcases idxTo_cases (isMat l nm) i with ⟨h1, _⟩ | ⟨k, _, h2, _⟩
      · simp [h1]
      · simp [h2]
theorem mget_names (l : List Mat) (nm : List UInt8) (i : Nat) : mget (nthX xt (4 : Nat)).code (namesTo l i) nm false = decide (0 ≤ idxTo (isMat l nm) i) := names_get l nm i

theorem k_CheckMaterials {l : List Mat} (hl : l.length ≤ 1048576) (hn : NmOk l) : coat_CheckMaterials l = some ((matsE l, ()), ()) := by
  simp only [coat_CheckMaterials, T_coat_CheckMaterials, matsE]
  by_cases h40 : (40 : Int) < l.length
  · simp (maxSteps := 1000000) (disch := first | omega | assumption) only [r_ret, r_br, decide_eq_true_eq, Bool.not_eq_eq_eq_not, decide_eq_false_iff_not, ite_not, q_true, r_bind, r_iter, q_inB, q_nz, q_app, q_eq, q_bnd, q_str, w64', Option.bind_some, Option.bind_none, List.length_cons, List.length_nil, List.length_append, Nat.zero_add, if_pos, if_neg, decide_true, decide_false, if_true, if_false, Bool.not_true, Bool.not_false, Bool.false_eq_true, Bool.true_eq_false, not_true_eq_false, not_false_eq_true, reduceIte, List.nil_append, h40]
  simp (maxSteps := 1000000) (disch := first | omega | assumption) only [r_ret, r_br, decide_eq_true_eq, Bool.not_eq_eq_eq_not, decide_eq_false_iff_not, ite_not, q_true, r_bind, r_iter, q_inB, q_nz, q_app, q_eq, q_bnd, q_str, w64', Option.bind_some, Option.bind_none, List.length_cons, List.length_nil, List.length_append, Nat.zero_add, if_pos, if_neg, decide_true, decide_false, if_true, if_false, Bool.not_true, Bool.not_false, Bool.false_eq_true, Bool.true_eq_false, not_true_eq_false, not_false_eq_true, reduceIte, List.nil_append, h40]
  refine iter_err (fun i => ((i : Int), namesTo l i, ())) (matBad l) l.length (by omega) (fun e => ((e, ()), ())) ?_ ?_ ?_
  all_goals simp only [T_coat_CheckMaterials_l0]
  · intro i hi hp hb
    have hni := hn i hi
    unfold matBad at hb ⊢
    by_cases c1 : isNm (gi l (i : Int)).1
    · by_cases c2 : 0 ≤ idxTo (isMat l (gi l (i : Int)).1) i
      · simp (maxSteps := 1000000) (disch := first | omega | assumption) only [r_ret, r_br, decide_eq_true_eq, Bool.not_eq_eq_eq_not, decide_eq_false_iff_not, ite_not, q_true, r_bind, r_iter, q_inB, q_nz, q_app, q_eq, q_bnd, q_str, w64', Option.bind_some, Option.bind_none, List.length_cons, List.length_nil, List.length_append, Nat.zero_add, if_pos, if_neg, decide_true, decide_false, if_true, if_false, Bool.not_true, Bool.not_false, Bool.false_eq_true, Bool.true_eq_false, not_true_eq_false, not_false_eq_true, reduceIte, List.nil_append, k_isName, c1, mget_names, c2]
      · by_cases c3 : 1 ≤ (gi l (i : Int)).2.1 ∧ (gi l (i : Int)).2.1 ≤ (gi l (i : Int)).2.2
        · by_cases c4 : 1000000 < (gi l (i : Int)).2.2
          · simp (maxSteps := 1000000) (disch := first | omega | assumption) only [r_ret, r_br, decide_eq_true_eq, Bool.not_eq_eq_eq_not, decide_eq_false_iff_not, ite_not, q_true, r_bind, r_iter, q_inB, q_nz, q_app, q_eq, q_bnd, q_str, w64', Option.bind_some, Option.bind_none, List.length_cons, List.length_nil, List.length_append, Nat.zero_add, if_pos, if_neg, decide_true, decide_false, if_true, if_false, Bool.not_true, Bool.not_false, Bool.false_eq_true, Bool.true_eq_false, not_true_eq_false, not_false_eq_true, reduceIte, List.nil_append, k_isName, c1, mget_names, c2, k_within, c3, c4, and_self]
          · exact absurd (by simp [c1, c2, c3, c4]) hb
        · simp (maxSteps := 1000000) (disch := first | omega | assumption) only [r_ret, r_br, decide_eq_true_eq, Bool.not_eq_eq_eq_not, decide_eq_false_iff_not, ite_not, q_true, r_bind, r_iter, q_inB, q_nz, q_app, q_eq, q_bnd, q_str, w64', Option.bind_some, Option.bind_none, List.length_cons, List.length_nil, List.length_append, Nat.zero_add, if_pos, if_neg, decide_true, decide_false, if_true, if_false, Bool.not_true, Bool.not_false, Bool.false_eq_true, Bool.true_eq_false, not_true_eq_false, not_false_eq_true, reduceIte, List.nil_append, k_isName, c1, mget_names, c2, k_within, c3]
    · simp (maxSteps := 1000000) (disch := first | omega | assumption) only [r_ret, r_br, decide_eq_true_eq, Bool.not_eq_eq_eq_not, decide_eq_false_iff_not, ite_not, q_true, r_bind, r_iter, q_inB, q_nz, q_app, q_eq, q_bnd, q_str, w64', Option.bind_some, Option.bind_none, List.length_cons, List.length_nil, List.length_append, Nat.zero_add, if_pos, if_neg, decide_true, decide_false, if_true, if_false, Bool.not_true, Bool.not_false, Bool.false_eq_true, Bool.true_eq_false, not_true_eq_false, not_false_eq_true, reduceIte, List.nil_append, k_isName, c1]
  · intro i hi hp hb
    have hni := hn i hi
    unfold matBad at hb
    by_cases c1 : isNm (gi l (i : Int)).1
    · by_cases c2 : 0 ≤ idxTo (isMat l (gi l (i : Int)).1) i
      · simp [c1, c2] at hb
      · by_cases c3 : 1 ≤ (gi l (i : Int)).2.1 ∧ (gi l (i : Int)).2.1 ≤ (gi l (i : Int)).2.2
        · by_cases c4 : 1000000 < (gi l (i : Int)).2.2
          · simp [c1, c2, c3, c4] at hb
          · simp (maxSteps := 1000000) (disch := first | omega | assumption) only [r_ret, r_br, decide_eq_true_eq, Bool.not_eq_eq_eq_not, decide_eq_false_iff_not, ite_not, q_true, r_bind, r_iter, q_inB, q_nz, q_app, q_eq, q_bnd, q_str, w64', Option.bind_some, Option.bind_none, List.length_cons, List.length_nil, List.length_append, Nat.zero_add, if_pos, if_neg, decide_true, decide_false, if_true, if_false, Bool.not_true, Bool.not_false, Bool.false_eq_true, Bool.true_eq_false, not_true_eq_false, not_false_eq_true, reduceIte, List.nil_append, k_isName, c1, mget_names, c2, k_within, c3, c4, and_self]
            rfl
        · exact absurd hb (by simp only [c1, c2, c3, not_true_eq_false, if_false, not_false_eq_true, if_true]; decide)
    · simp [c1] at hb
  · intro _
    simp (maxSteps := 1000000) (disch := first | omega | assumption) only [r_ret, r_br, decide_eq_true_eq, Bool.not_eq_eq_eq_not, decide_eq_false_iff_not, ite_not, q_true, r_bind, r_iter, q_inB, q_nz, q_app, q_eq, q_bnd, q_str, w64', Option.bind_some, Option.bind_none, List.length_cons, List.length_nil, List.length_append, Nat.zero_add, if_pos, if_neg, decide_true, decide_false, if_true, if_false, Bool.not_true, Bool.not_false, Bool.false_eq_true, Bool.true_eq_false, not_true_eq_false, not_false_eq_true, reduceIte, List.nil_append, ]

/-- Right materials: each is in its range. -/
theorem mats_ok {l : List Mat} (h : matsE l = 0) : l.length ≤ 40 ∧ ∀ i : Nat, i < l.length → 1 ≤ (gi l (i : Int)).2.1 ∧ (gi l (i : Int)).2.1 ≤ (gi l (i : Int)).2.2 ∧ (gi l (i : Int)).2.2 ≤ 1000000 := by
  unfold matsE at h
  split at h
  · cases h
  · refine ⟨by omega, fun i hi => ?_⟩
    have := firstErr_eq0 h i hi
    unfold matBad at this
    split at this
    · cases this
    split at this
    · cases this
    split at this
    · cases this
    split at this
    · cases this
    · omega

/-! ### Layers -/

abbrev Lay := List UInt8 × Int
def layE (l : List Mat) (x : Lay) : Int := if matIx l x.1 < 0 then 6 else if 1 ≤ x.2 ∧ x.2 ≤ 100000 then 0 else 2
def layT (l : List Mat) (x : Lay) : Int × Int := (x.2 * (gi l (matIx l x.1)).2.1, (x.2 + 1) * (gi l (matIx l x.1)).2.2)

theorem lay_bd {l : List Mat} (h : matsE l = 0) {x : Lay} (hx : layE l x = 0) : (0 ≤ matIx l x.1 ∧ matIx l x.1 < l.length) ∧ (1 ≤ x.2 ∧ x.2 ≤ 100000) ∧ (0 ≤ (layT l x).1 ∧ (layT l x).1 ≤ 100000000000) ∧ (0 ≤ (layT l x).2 ∧ (layT l x).2 ≤ 100001000000) := by
  have hb := matIx_bd l x.1
  unfold layE at hx
  split at hx
  · cases hx
  split at hx
  · rename_i h1 h2
    have hi : 0 ≤ matIx l x.1 ∧ matIx l x.1 < l.length := by omega
    have hm := (mats_ok h).2 (matIx l x.1).toNat (by omega)
    rw [show (((matIx l x.1).toNat : Nat) : Int) = matIx l x.1 by omega] at hm
    refine ⟨hi, h2, ?_, ?_⟩
    · have := mul_bd (x := x.2) (y := (gi l (matIx l x.1)).2.1) (m := 100000) (n := 1000000) h2.1 h2.2 hm.1 (by omega)
      simp only [layT]; omega
    · have := mul_bd (x := x.2 + 1) (y := (gi l (matIx l x.1)).2.2) (m := 100001) (n := 1000000) (by omega) (by omega) (by omega) hm.2.2
      simp only [layT]; omega
  · cases hx

theorem k_thickness {l : List Mat} (hl : l.length ≤ 1048576) (h : matsE l = 0) (x : Lay) (hw : -9223372036854775808 ≤ x.2 ∧ x.2 ≤ 9223372036854775807) :
    coat_thickness l x = some (if layE l x = 0 then ((layT l x, 0, ()), ()) else (((0, 0), layE l x, ()), ())) := by
  have hb := matIx_bd l x.1
  simp only [coat_thickness, T_coat_thickness]
  by_cases c1 : matIx l x.1 < 0
  · have e : layE l x = 6 := by rw [layE, if_pos c1]
    rw [e]
    simp (maxSteps := 1000000) (disch := first | omega | assumption) only [r_ret, r_br, decide_eq_true_eq, Bool.not_eq_eq_eq_not, decide_eq_false_iff_not, ite_not, q_true, r_bind, r_iter, q_inB, q_nz, q_app, q_eq, q_bnd, q_str, w64', Option.bind_some, Option.bind_none, List.length_cons, List.length_nil, List.length_append, Nat.zero_add, if_pos, if_neg, decide_true, decide_false, if_true, if_false, Bool.not_true, Bool.not_false, Bool.false_eq_true, Bool.true_eq_false, not_true_eq_false, not_false_eq_true, reduceIte, List.nil_append, k_find, c1]
    rfl
  · by_cases c2 : 1 ≤ x.2 ∧ x.2 ≤ 100000
    · have e : layE l x = 0 := by rw [layE, if_neg c1, if_pos c2]
      obtain ⟨b1, b2, b3, b4⟩ := lay_bd h e
      rw [e]
      simp only [layT] at b3 b4 ⊢
      simp (maxSteps := 1000000) (disch := first | omega | assumption) only [r_ret, r_br, decide_eq_true_eq, Bool.not_eq_eq_eq_not, decide_eq_false_iff_not, ite_not, q_true, r_bind, r_iter, q_inB, q_nz, q_app, q_eq, q_bnd, q_str, w64', Option.bind_some, Option.bind_none, List.length_cons, List.length_nil, List.length_append, Nat.zero_add, if_pos, if_neg, decide_true, decide_false, if_true, if_false, Bool.not_true, Bool.not_false, Bool.false_eq_true, Bool.true_eq_false, not_true_eq_false, not_false_eq_true, reduceIte, List.nil_append, k_find, c1, k_within, c2, and_self]
    · have e : layE l x = 2 := by rw [layE, if_neg c1, if_neg c2]
      rw [e]
      simp (maxSteps := 1000000) (disch := first | omega | assumption) only [r_ret, r_br, decide_eq_true_eq, Bool.not_eq_eq_eq_not, decide_eq_false_iff_not, ite_not, q_true, r_bind, r_iter, q_inB, q_nz, q_app, q_eq, q_bnd, q_str, w64', Option.bind_some, Option.bind_none, List.length_cons, List.length_nil, List.length_append, Nat.zero_add, if_pos, if_neg, decide_true, decide_false, if_true, if_false, Bool.not_true, Bool.not_false, Bool.false_eq_true, Bool.true_eq_false, not_true_eq_false, not_false_eq_true, reduceIte, List.nil_append, k_find, c1, k_within, c2]
end Go.Ab
