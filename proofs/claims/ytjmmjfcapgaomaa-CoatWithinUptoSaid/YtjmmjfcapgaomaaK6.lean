/- Sums of layers: Total, CheckRecipe, Thickness of the program and of the reference. -/
import Derived.Test.YtjmmjfcapgaomaaK5
namespace Go.Ab
open Go
set_option maxRecDepth 1000000
set_option maxHeartbeats 1000000
set_option linter.unusedVariables false
set_option linter.unusedSimpArgs false

theorem gi_mem {α : Type} [Inhabited α] {l : List α} {i : Nat} (h : i < l.length) : gi l (i : Int) ∈ l := by
  simp [gi, List.getD, List.getElem?_eq_getElem h]
theorem bulk_mem {a : Ty} {l : List a.T} {x : a.T} (h : x ∈ l) : bulkT a x ≤ bulkT (.list a) l := by
  simp only [bulkT]
  induction l with
  | nil => cases h
  | cons y l ih =>
    simp only [List.map_cons, List.sum_cons]
    rcases List.mem_cons.1 h with e | e
    · subst e; omega
    · have := ih e; omega

abbrev LayOk (r : List Lay) : Prop := ∀ i : Nat, i < r.length → (gi r (i : Int)).1.length ≤ 1048576 ∧ -9223372036854775808 ≤ (gi r (i : Int)).2 ∧ (gi r (i : Int)).2 ≤ 9223372036854775807

def totTo (l : List Mat) (r : List Lay) : Nat → Int × Int
  | 0 => (0, 0)
  | i + 1 => ((totTo l r i).1 + (layT l (gi r (i : Int))).1, (totTo l r i).2 + (layT l (gi r (i : Int))).2)
def recE (l : List Mat) (r : List Lay) : Int := if (40 : Int) < r.length then 8 else firstErr (fun i => layE l (gi r (i : Int))) r.length
theorem tot_bd {l : List Mat} {r : List Lay} (h : matsE l = 0) : ∀ i : Nat, (∀ j, j < i → layE l (gi r (j : Int)) = 0) → (0 ≤ (totTo l r i).1 ∧ (totTo l r i).1 ≤ 100000000000 * i) ∧ (0 ≤ (totTo l r i).2 ∧ (totTo l r i).2 ≤ 100001000000 * i)
  | 0, _ => by simp [totTo]
  | i + 1, hp => by
    have := tot_bd h i (fun j hj => hp j (by omega))
    have := lay_bd h (hp i (by omega))
    simp only [totTo]; omega

theorem recE_inv {l : List Mat} {r : List Lay} (h : recE l r = 0) : r.length ≤ 40 ∧ ∀ j : Nat, j < r.length → layE l (gi r (j : Int)) = 0 := by
  unfold recE at h
  split at h
  · cases h
  · exact ⟨by omega, firstErr_eq0 h⟩

/-- What Total answers. -/
def totE (l : List Mat) (r : List Lay) : Int := if matsE l = 0 then recE l r else matsE l
def totV (l : List Mat) (r : List Lay) : Int × Int := if totE l r = 0 then totTo l r r.length else (0, 0)

theorem k_Total {l : List Mat} {r : List Lay} (hl : l.length ≤ 1048576) (hn : NmOk l) (hr : r.length ≤ 1048576) (hw : LayOk r) : coat_Total l r = some ((totV l r, totE l r, ()), ()) := by
  simp only [coat_Total, T_coat_Total]
  by_cases hm : matsE l = 0
  · have e1 : totE l r = recE l r := if_pos hm
    unfold totV
    rw [e1]
    by_cases h40 : (40 : Int) < r.length
    · have e2 : recE l r = 8 := if_pos h40
      rw [e2]
      simp (maxSteps := 1000000) (disch := first | omega | assumption) only [r_ret, r_br, decide_eq_true_eq, Bool.not_eq_eq_eq_not, decide_eq_false_iff_not, ite_not, q_true, r_bind, r_iter, q_inB, q_nz, q_app, q_eq, q_bnd, q_str, w64', Option.bind_some, Option.bind_none, List.length_cons, List.length_nil, List.length_append, Nat.zero_add, if_pos, if_neg, decide_true, decide_false, if_true, if_false, Bool.not_true, Bool.not_false, Bool.false_eq_true, Bool.true_eq_false, not_true_eq_false, not_false_eq_true, reduceIte, List.nil_append, k_CheckMaterials, hm, h40]
    · have e2 : recE l r = firstErr (fun i => layE l (gi r (i : Int))) r.length := if_neg h40
      rw [e2]
      simp (maxSteps := 1000000) (disch := first | omega | assumption) only [r_ret, r_br, decide_eq_true_eq, Bool.not_eq_eq_eq_not, decide_eq_false_iff_not, ite_not, q_true, r_bind, r_iter, q_inB, q_nz, q_app, q_eq, q_bnd, q_str, w64', Option.bind_some, Option.bind_none, List.length_cons, List.length_nil, List.length_append, Nat.zero_add, if_pos, if_neg, decide_true, decide_false, if_true, if_false, Bool.not_true, Bool.not_false, Bool.false_eq_true, Bool.true_eq_false, not_true_eq_false, not_false_eq_true, reduceIte, List.nil_append, k_CheckMaterials, hm, h40]
      refine iter_err (fun i => ((i : Int), (0, 0), totTo l r i, ())) (fun i => layE l (gi r (i : Int))) r.length (by omega) (fun e => (((if e = 0 then totTo l r r.length else (0, 0)), e, ()), ())) ?_ ?_ ?_
      all_goals simp only [T_coat_Total_l1]
      · intro i hi hp hb
        have hwi := hw i hi
        have ht := k_thickness (by omega) hm (gi r (i : Int)) hwi.2
        rw [if_neg hb] at ht
        simp (maxSteps := 1000000) (disch := first | omega | assumption) only [r_ret, r_br, decide_eq_true_eq, Bool.not_eq_eq_eq_not, decide_eq_false_iff_not, ite_not, q_true, r_bind, r_iter, q_inB, q_nz, q_app, q_eq, q_bnd, q_str, w64', Option.bind_some, Option.bind_none, List.length_cons, List.length_nil, List.length_append, Nat.zero_add, if_pos, if_neg, decide_true, decide_false, if_true, if_false, Bool.not_true, Bool.not_false, Bool.false_eq_true, Bool.true_eq_false, not_true_eq_false, not_false_eq_true, reduceIte, List.nil_append, ht, hb]
      · intro i hi hp hb
        have hwi := hw i hi
        have ht := k_thickness (by omega) hm (gi r (i : Int)) hwi.2
        rw [if_pos hb] at ht
        have := tot_bd hm i hp
        have := lay_bd hm hb
        simp (maxSteps := 1000000) (disch := first | omega | assumption) only [r_ret, r_br, decide_eq_true_eq, Bool.not_eq_eq_eq_not, decide_eq_false_iff_not, ite_not, q_true, r_bind, r_iter, q_inB, q_nz, q_app, q_eq, q_bnd, q_str, w64', Option.bind_some, Option.bind_none, List.length_cons, List.length_nil, List.length_append, Nat.zero_add, if_pos, if_neg, decide_true, decide_false, if_true, if_false, Bool.not_true, Bool.not_false, Bool.false_eq_true, Bool.true_eq_false, not_true_eq_false, not_false_eq_true, reduceIte, List.nil_append, ht]
        rfl
      · intro hp
        simp (maxSteps := 1000000) (disch := first | omega | assumption) only [r_ret, r_br, decide_eq_true_eq, Bool.not_eq_eq_eq_not, decide_eq_false_iff_not, ite_not, q_true, r_bind, r_iter, q_inB, q_nz, q_app, q_eq, q_bnd, q_str, w64', Option.bind_some, Option.bind_none, List.length_cons, List.length_nil, List.length_append, Nat.zero_add, if_pos, if_neg, decide_true, decide_false, if_true, if_false, Bool.not_true, Bool.not_false, Bool.false_eq_true, Bool.true_eq_false, not_true_eq_false, not_false_eq_true, reduceIte, List.nil_append, ]
  · have e1 : totE l r = matsE l := if_neg hm
    unfold totV
    rw [e1, if_neg hm]
    simp (maxSteps := 1000000) (disch := first | omega | assumption) only [r_ret, r_br, decide_eq_true_eq, Bool.not_eq_eq_eq_not, decide_eq_false_iff_not, ite_not, q_true, r_bind, r_iter, q_inB, q_nz, q_app, q_eq, q_bnd, q_str, w64', Option.bind_some, Option.bind_none, List.length_cons, List.length_nil, List.length_append, Nat.zero_add, if_pos, if_neg, decide_true, decide_false, if_true, if_false, Bool.not_true, Bool.not_false, Bool.false_eq_true, Bool.true_eq_false, not_true_eq_false, not_false_eq_true, reduceIte, List.nil_append, k_CheckMaterials, hm]

theorem k_CheckRecipe {l : List Mat} {r : List Lay} (hl : l.length ≤ 1048576) (hn : NmOk l) (hr : r.length ≤ 1048576) (hw : LayOk r) : coat_CheckRecipe l r = some ((totE l r, ()), ()) := by
  simp only [coat_CheckRecipe, T_coat_CheckRecipe]
  simp (maxSteps := 1000000) (disch := first | omega | assumption) only [r_ret, r_br, decide_eq_true_eq, Bool.not_eq_eq_eq_not, decide_eq_false_iff_not, ite_not, q_true, r_bind, r_iter, q_inB, q_nz, q_app, q_eq, q_bnd, q_str, w64', Option.bind_some, Option.bind_none, List.length_cons, List.length_nil, List.length_append, Nat.zero_add, if_pos, if_neg, decide_true, decide_false, if_true, if_false, Bool.not_true, Bool.not_false, Bool.false_eq_true, Bool.true_eq_false, not_true_eq_false, not_false_eq_true, reduceIte, List.nil_append, k_Total hl hn hr hw]

theorem one_lay {x : Lay} (hx : x.1.length ≤ 1048576 ∧ -9223372036854775808 ≤ x.2 ∧ x.2 ≤ 9223372036854775807) : LayOk [x] := by
  intro i hi
  have : i = 0 := by simpa using hi
  subst this; exact hx
theorem recE_one (l : List Mat) (x : Lay) : recE l [x] = layE l x := by simp [recE, firstErr, gi]
theorem totTo_one (l : List Mat) (x : Lay) : totTo l [x] 1 = layT l x := by simp [totTo, gi]
def thkE (l : List Mat) (x : Lay) : Int := if matsE l = 0 then layE l x else matsE l
def thkV (l : List Mat) (x : Lay) : Int × Int := if thkE l x = 0 then layT l x else (0, 0)
theorem k_Thickness {l : List Mat} {x : Lay} (hl : l.length ≤ 1048576) (hn : NmOk l) (hx : x.1.length ≤ 1048576 ∧ -9223372036854775808 ≤ x.2 ∧ x.2 ≤ 9223372036854775807) :
    coat_Thickness l x = some ((thkV l x, thkE l x, ()), ()) := by
  simp only [coat_Thickness, T_coat_Thickness]
  have h := k_Total hl hn (r := [x]) (by simp) (one_lay hx)
  have e : totE l [x] = thkE l x := by simp only [totE, thkE, recE_one]
  have e2 : totV l [x] = thkV l x := by simp only [totV, thkV, e, List.length_singleton, totTo_one]
  rw [e, e2] at h
  simp (maxSteps := 1000000) (disch := first | omega | assumption) only [r_ret, r_br, decide_eq_true_eq, Bool.not_eq_eq_eq_not, decide_eq_false_iff_not, ite_not, q_true, r_bind, r_iter, q_inB, q_nz, q_app, q_eq, q_bnd, q_str, w64', Option.bind_some, Option.bind_none, List.length_cons, List.length_nil, List.length_append, Nat.zero_add, if_pos, if_neg, decide_true, decide_false, if_true, if_false, Bool.not_true, Bool.not_false, Bool.false_eq_true, Bool.true_eq_false, not_true_eq_false, not_false_eq_true, reduceIte, List.nil_append, h]

/-! ### The reference -/

theorem k_rCheckRecipe {l : List Mat} {r : List Lay} (hl : l.length ≤ 1048576) (hr : r.length ≤ 1048576) : ref08xCheckRecipe l r = some ((recE l r, ()), ()) := by
  simp only [ref08xCheckRecipe, T_ref08xCheckRecipe, recE]
  by_cases h40 : (40 : Int) < r.length
  · simp (maxSteps := 1000000) (disch := first | omega | assumption) only [r_ret, r_br, decide_eq_true_eq, Bool.not_eq_eq_eq_not, decide_eq_false_iff_not, ite_not, q_true, r_bind, r_iter, q_inB, q_nz, q_app, q_eq, q_bnd, q_str, w64', Option.bind_some, Option.bind_none, List.length_cons, List.length_nil, List.length_append, Nat.zero_add, if_pos, if_neg, decide_true, decide_false, if_true, if_false, Bool.not_true, Bool.not_false, Bool.false_eq_true, Bool.true_eq_false, not_true_eq_false, not_false_eq_true, reduceIte, List.nil_append, h40]
  simp (maxSteps := 1000000) (disch := first | omega | assumption) only [r_ret, r_br, decide_eq_true_eq, Bool.not_eq_eq_eq_not, decide_eq_false_iff_not, ite_not, q_true, r_bind, r_iter, q_inB, q_nz, q_app, q_eq, q_bnd, q_str, w64', Option.bind_some, Option.bind_none, List.length_cons, List.length_nil, List.length_append, Nat.zero_add, if_pos, if_neg, decide_true, decide_false, if_true, if_false, Bool.not_true, Bool.not_false, Bool.false_eq_true, Bool.true_eq_false, not_true_eq_false, not_false_eq_true, reduceIte, List.nil_append, h40]
  refine iter_err (fun i => ((i : Int), ())) (fun i => layE l (gi r (i : Int))) r.length (by omega) (fun e => ((e, ()), ())) ?_ ?_ ?_
  all_goals simp only [T_ref08xCheckRecipe_l0]
  · intro i hi hp hb
    unfold layE at hb ⊢
    by_cases c1 : matIx l (gi r (i : Int)).1 < 0
    · simp (maxSteps := 1000000) (disch := first | omega | assumption) only [r_ret, r_br, decide_eq_true_eq, Bool.not_eq_eq_eq_not, decide_eq_false_iff_not, ite_not, q_true, r_bind, r_iter, q_inB, q_nz, q_app, q_eq, q_bnd, q_str, w64', Option.bind_some, Option.bind_none, List.length_cons, List.length_nil, List.length_append, Nat.zero_add, if_pos, if_neg, decide_true, decide_false, if_true, if_false, Bool.not_true, Bool.not_false, Bool.false_eq_true, Bool.true_eq_false, not_true_eq_false, not_false_eq_true, reduceIte, List.nil_append, k_FindMaterial, c1]
    · by_cases c2 : 1 ≤ (gi r (i : Int)).2 ∧ (gi r (i : Int)).2 ≤ 100000
      · exact absurd (by simp [c1, c2]) hb
      · simp (maxSteps := 1000000) (disch := first | omega | assumption) only [r_ret, r_br, decide_eq_true_eq, Bool.not_eq_eq_eq_not, decide_eq_false_iff_not, ite_not, q_true, r_bind, r_iter, q_inB, q_nz, q_app, q_eq, q_bnd, q_str, w64', Option.bind_some, Option.bind_none, List.length_cons, List.length_nil, List.length_append, Nat.zero_add, if_pos, if_neg, decide_true, decide_false, if_true, if_false, Bool.not_true, Bool.not_false, Bool.false_eq_true, Bool.true_eq_false, not_true_eq_false, not_false_eq_true, reduceIte, List.nil_append, k_FindMaterial, c1, k_Within, c2]
  · intro i hi hp hb
    unfold layE at hb
    by_cases c1 : matIx l (gi r (i : Int)).1 < 0
    · simp [c1] at hb
    · by_cases c2 : 1 ≤ (gi r (i : Int)).2 ∧ (gi r (i : Int)).2 ≤ 100000
      · simp (maxSteps := 1000000) (disch := first | omega | assumption) only [r_ret, r_br, decide_eq_true_eq, Bool.not_eq_eq_eq_not, decide_eq_false_iff_not, ite_not, q_true, r_bind, r_iter, q_inB, q_nz, q_app, q_eq, q_bnd, q_str, w64', Option.bind_some, Option.bind_none, List.length_cons, List.length_nil, List.length_append, Nat.zero_add, if_pos, if_neg, decide_true, decide_false, if_true, if_false, Bool.not_true, Bool.not_false, Bool.false_eq_true, Bool.true_eq_false, not_true_eq_false, not_false_eq_true, reduceIte, List.nil_append, k_FindMaterial, c1, k_Within, c2, and_self]
        rfl
      · exact absurd hb (by simp only [c1, c2, if_false]; decide)
  · intro _
    simp (maxSteps := 1000000) (disch := first | omega | assumption) only [r_ret, r_br, decide_eq_true_eq, Bool.not_eq_eq_eq_not, decide_eq_false_iff_not, ite_not, q_true, r_bind, r_iter, q_inB, q_nz, q_app, q_eq, q_bnd, q_str, w64', Option.bind_some, Option.bind_none, List.length_cons, List.length_nil, List.length_append, Nat.zero_add, if_pos, if_neg, decide_true, decide_false, if_true, if_false, Bool.not_true, Bool.not_false, Bool.false_eq_true, Bool.true_eq_false, not_true_eq_false, not_false_eq_true, reduceIte, List.nil_append, ]

theorem k_rThickness {l : List Mat} (h : matsE l = 0) {x : Lay} (hx : layE l x = 0) : ref08xThickness l x = some ((layT l x, ()), ()) := by
  obtain ⟨b1, b2, b3, b4⟩ := lay_bd h hx
  have hl := (mats_ok h).1
  simp only [layT] at b3 b4 ⊢
  simp only [ref08xThickness, T_ref08xThickness]
  simp (maxSteps := 1000000) (disch := first | omega | assumption) only [r_ret, r_br, decide_eq_true_eq, Bool.not_eq_eq_eq_not, decide_eq_false_iff_not, ite_not, q_true, r_bind, r_iter, q_inB, q_nz, q_app, q_eq, q_bnd, q_str, w64', Option.bind_some, Option.bind_none, List.length_cons, List.length_nil, List.length_append, Nat.zero_add, if_pos, if_neg, decide_true, decide_false, if_true, if_false, Bool.not_true, Bool.not_false, Bool.false_eq_true, Bool.true_eq_false, not_true_eq_false, not_false_eq_true, reduceIte, List.nil_append, k_FindMaterial]

theorem k_rTotal {l : List Mat} {r : List Lay} (h : matsE l = 0) (h2 : recE l r = 0) : ref08xTotal l r = some ((totTo l r r.length, ()), ()) := by
  obtain ⟨h40, hp⟩ := recE_inv h2
  simp only [ref08xTotal, T_ref08xTotal]
  rw [r_iter]
  refine iter_eq (fun i x => x = ((i : Int), totTo l r i, ())) _ r.length (by omega) ?_ rfl
  rintro i x hi rfl
  simp only [T_ref08xTotal_l0]
  by_cases hlt : i < r.length
  · left
    have ht := k_rThickness h (hp i hlt)
    have := tot_bd h i (fun j hj => hp j (by omega))
    have := lay_bd h (hp i hlt)
    exact ⟨_, by simp (maxSteps := 1000000) (disch := first | omega | assumption) only [r_ret, r_br, decide_eq_true_eq, Bool.not_eq_eq_eq_not, decide_eq_false_iff_not, ite_not, q_true, r_bind, r_iter, q_inB, q_nz, q_app, q_eq, q_bnd, q_str, w64', Option.bind_some, Option.bind_none, List.length_cons, List.length_nil, List.length_append, Nat.zero_add, if_pos, if_neg, decide_true, decide_false, if_true, if_false, Bool.not_true, Bool.not_false, Bool.false_eq_true, Bool.true_eq_false, not_true_eq_false, not_false_eq_true, reduceIte, List.nil_append, ht] <;> rfl, hlt, rfl⟩
  · right
    have : i = r.length := by omega
    subst this
    simp (maxSteps := 1000000) (disch := first | omega | assumption) only [r_ret, r_br, decide_eq_true_eq, Bool.not_eq_eq_eq_not, decide_eq_false_iff_not, ite_not, q_true, r_bind, r_iter, q_inB, q_nz, q_app, q_eq, q_bnd, q_str, w64', Option.bind_some, Option.bind_none, List.length_cons, List.length_nil, List.length_append, Nat.zero_add, if_pos, if_neg, decide_true, decide_false, if_true, if_false, Bool.not_true, Bool.not_false, Bool.false_eq_true, Bool.true_eq_false, not_true_eq_false, not_false_eq_true, reduceIte, List.nil_append, ]
end Go.Ab
