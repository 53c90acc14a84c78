/- CoatLayers answers true. -/
import Derived.Test.YtjmmjfcapgaomaaK6
namespace Go.Ab
open Go
set_option maxRecDepth 1000000
set_option maxHeartbeats 1000000
set_option linter.unusedVariables false
set_option linter.unusedSimpArgs false

theorem bindC {α β : Type} {c d : Option α} {f : α → Option β} (h : c = d) : c.bind f = d.bind f := by rw [h]
theorem iterC {σ ρ : Type} {b : σ → Option (σ ⊕ ρ)} {n : Nat} {x y : σ} (h : x = y) : iterF b n x = iterF b n y := by rw [h]
attribute [local congr] bindC iterC

theorem k_materials {l : List Mat} (h : l.length ≤ 1099511627776) : law08xmaterials l = some ((l, ()), ()) := by
  simp only [law08xmaterials, T_law08xmaterials]
  simp (maxSteps := 1000000) (disch := first | omega | assumption) only [r_ret, r_br, decide_eq_true_eq, Bool.not_eq_eq_eq_not, decide_eq_false_iff_not, ite_not, q_true, r_bind, r_iter, q_inB, q_nz, q_app, q_eq, q_bnd, q_str, w64', Option.bind_some, Option.bind_none, List.length_cons, List.length_nil, List.length_append, Nat.zero_add, if_pos, if_neg, decide_true, decide_false, if_true, if_false, Bool.not_true, Bool.not_false, Bool.false_eq_true, Bool.true_eq_false, not_true_eq_false, not_false_eq_true, reduceIte, List.nil_append, ]
theorem k_layers {l : List Lay} (h : l.length ≤ 1099511627776) : law08xlayers l = some ((l, ()), ()) := by
  simp only [law08xlayers, T_law08xlayers]
  simp (maxSteps := 1000000) (disch := first | omega | assumption) only [r_ret, r_br, decide_eq_true_eq, Bool.not_eq_eq_eq_not, decide_eq_false_iff_not, ite_not, q_true, r_bind, r_iter, q_inB, q_nz, q_app, q_eq, q_bnd, q_str, w64', Option.bind_some, Option.bind_none, List.length_cons, List.length_nil, List.length_append, Nat.zero_add, if_pos, if_neg, decide_true, decide_false, if_true, if_false, Bool.not_true, Bool.not_false, Bool.false_eq_true, Bool.true_eq_false, not_true_eq_false, not_false_eq_true, reduceIte, List.nil_append, ]
theorem k_short_l0 {l : List Mat} (h : l.length ≤ 1048576) : ∃ b : Bool, iterF (fun y : Int × Unit => (T_law08xshort_l0 l y.1).run) FUEL (0, ()) = some ((b, ()), ()) := by
  obtain ⟨r, h1, b, h2⟩ := iter_post (b := fun y : Int × Unit => (T_law08xshort_l0 l y.1).run) (fun i x => x = ((i : Int), ())) (fun r => ∃ b : Bool, r = ((b, ()), ())) l.length (by omega) (by
    rintro i x hi rfl
    simp only [T_law08xshort_l0]
    by_cases hlt : i < l.length
    · by_cases c : (20 : Int) < (gi l (i : Int)).1.length
      · right; exact ⟨_, by simp (maxSteps := 1000000) (disch := first | omega | assumption) only [r_ret, r_br, decide_eq_true_eq, Bool.not_eq_eq_eq_not, decide_eq_false_iff_not, ite_not, q_true, r_bind, r_iter, q_inB, q_nz, q_app, q_eq, q_bnd, q_str, w64', Option.bind_some, Option.bind_none, List.length_cons, List.length_nil, List.length_append, Nat.zero_add, if_pos, if_neg, decide_true, decide_false, if_true, if_false, Bool.not_true, Bool.not_false, Bool.false_eq_true, Bool.true_eq_false, not_true_eq_false, not_false_eq_true, reduceIte, List.nil_append, c] <;> rfl, _, rfl⟩
      · left; exact ⟨_, by simp (maxSteps := 1000000) (disch := first | omega | assumption) only [r_ret, r_br, decide_eq_true_eq, Bool.not_eq_eq_eq_not, decide_eq_false_iff_not, ite_not, q_true, r_bind, r_iter, q_inB, q_nz, q_app, q_eq, q_bnd, q_str, w64', Option.bind_some, Option.bind_none, List.length_cons, List.length_nil, List.length_append, Nat.zero_add, if_pos, if_neg, decide_true, decide_false, if_true, if_false, Bool.not_true, Bool.not_false, Bool.false_eq_true, Bool.true_eq_false, not_true_eq_false, not_false_eq_true, reduceIte, List.nil_append, c] <;> rfl, hlt, rfl⟩
    · right; exact ⟨_, by simp (maxSteps := 1000000) (disch := first | omega | assumption) only [r_ret, r_br, decide_eq_true_eq, Bool.not_eq_eq_eq_not, decide_eq_false_iff_not, ite_not, q_true, r_bind, r_iter, q_inB, q_nz, q_app, q_eq, q_bnd, q_str, w64', Option.bind_some, Option.bind_none, List.length_cons, List.length_nil, List.length_append, Nat.zero_add, if_pos, if_neg, decide_true, decide_false, if_true, if_false, Bool.not_true, Bool.not_false, Bool.false_eq_true, Bool.true_eq_false, not_true_eq_false, not_false_eq_true, reduceIte, List.nil_append, ] <;> rfl, _, rfl⟩) rfl
  exact ⟨b, by rw [← h2]; exact h1⟩
theorem k_short {l : List Mat} (h : l.length ≤ 1048576) : ∃ b : Bool, law08xshort l = some ((b, ()), ()) := by
  obtain ⟨b, hb⟩ := k_short_l0 h
  simp only [law08xshort, T_law08xshort]
  by_cases c1 : (8 : Int) < l.length
  · by_cases c2 : (l.length : Int) ≤ 40
    · exact ⟨false, by simp (maxSteps := 1000000) (disch := first | omega | assumption) only [r_ret, r_br, decide_eq_true_eq, Bool.not_eq_eq_eq_not, decide_eq_false_iff_not, ite_not, q_true, r_bind, r_iter, q_inB, q_nz, q_app, q_eq, q_bnd, q_str, w64', Option.bind_some, Option.bind_none, List.length_cons, List.length_nil, List.length_append, Nat.zero_add, if_pos, if_neg, decide_true, decide_false, if_true, if_false, Bool.not_true, Bool.not_false, Bool.false_eq_true, Bool.true_eq_false, not_true_eq_false, not_false_eq_true, reduceIte, List.nil_append, c1, c2]⟩
    · by_cases c3 : (43 : Int) < l.length
      · exact ⟨false, by simp (maxSteps := 1000000) (disch := first | omega | assumption) only [r_ret, r_br, decide_eq_true_eq, Bool.not_eq_eq_eq_not, decide_eq_false_iff_not, ite_not, q_true, r_bind, r_iter, q_inB, q_nz, q_app, q_eq, q_bnd, q_str, w64', Option.bind_some, Option.bind_none, List.length_cons, List.length_nil, List.length_append, Nat.zero_add, if_pos, if_neg, decide_true, decide_false, if_true, if_false, Bool.not_true, Bool.not_false, Bool.false_eq_true, Bool.true_eq_false, not_true_eq_false, not_false_eq_true, reduceIte, List.nil_append, c1, c2, c3]⟩
      · exact ⟨b, by simp (maxSteps := 1000000) (disch := first | omega | assumption) only [r_ret, r_br, decide_eq_true_eq, Bool.not_eq_eq_eq_not, decide_eq_false_iff_not, ite_not, q_true, r_bind, r_iter, q_inB, q_nz, q_app, q_eq, q_bnd, q_str, w64', Option.bind_some, Option.bind_none, List.length_cons, List.length_nil, List.length_append, Nat.zero_add, if_pos, if_neg, decide_true, decide_false, if_true, if_false, Bool.not_true, Bool.not_false, Bool.false_eq_true, Bool.true_eq_false, not_true_eq_false, not_false_eq_true, reduceIte, List.nil_append, c1, c2, c3, hb]⟩
  · exact ⟨b, by simp (maxSteps := 1000000) (disch := first | omega | assumption) only [r_ret, r_br, decide_eq_true_eq, Bool.not_eq_eq_eq_not, decide_eq_false_iff_not, ite_not, q_true, r_bind, r_iter, q_inB, q_nz, q_app, q_eq, q_bnd, q_str, w64', Option.bind_some, Option.bind_none, List.length_cons, List.length_nil, List.length_append, Nat.zero_add, if_pos, if_neg, decide_true, decide_false, if_true, if_false, Bool.not_true, Bool.not_false, Bool.false_eq_true, Bool.true_eq_false, not_true_eq_false, not_false_eq_true, reduceIte, List.nil_append, c1, hb]⟩
theorem k_brief_l0 {l : List Lay} (h : l.length ≤ 1048576) : ∃ b : Bool, iterF (fun y : Int × Unit => (T_law08xbrief_l0 l y.1).run) FUEL (0, ()) = some ((b, ()), ()) := by
  obtain ⟨r, h1, b, h2⟩ := iter_post (b := fun y : Int × Unit => (T_law08xbrief_l0 l y.1).run) (fun i x => x = ((i : Int), ())) (fun r => ∃ b : Bool, r = ((b, ()), ())) l.length (by omega) (by
    rintro i x hi rfl
    simp only [T_law08xbrief_l0]
    by_cases hlt : i < l.length
    · by_cases c : (20 : Int) < (gi l (i : Int)).1.length
      · right; exact ⟨_, by simp (maxSteps := 1000000) (disch := first | omega | assumption) only [r_ret, r_br, decide_eq_true_eq, Bool.not_eq_eq_eq_not, decide_eq_false_iff_not, ite_not, q_true, r_bind, r_iter, q_inB, q_nz, q_app, q_eq, q_bnd, q_str, w64', Option.bind_some, Option.bind_none, List.length_cons, List.length_nil, List.length_append, Nat.zero_add, if_pos, if_neg, decide_true, decide_false, if_true, if_false, Bool.not_true, Bool.not_false, Bool.false_eq_true, Bool.true_eq_false, not_true_eq_false, not_false_eq_true, reduceIte, List.nil_append, c] <;> rfl, _, rfl⟩
      · left; exact ⟨_, by simp (maxSteps := 1000000) (disch := first | omega | assumption) only [r_ret, r_br, decide_eq_true_eq, Bool.not_eq_eq_eq_not, decide_eq_false_iff_not, ite_not, q_true, r_bind, r_iter, q_inB, q_nz, q_app, q_eq, q_bnd, q_str, w64', Option.bind_some, Option.bind_none, List.length_cons, List.length_nil, List.length_append, Nat.zero_add, if_pos, if_neg, decide_true, decide_false, if_true, if_false, Bool.not_true, Bool.not_false, Bool.false_eq_true, Bool.true_eq_false, not_true_eq_false, not_false_eq_true, reduceIte, List.nil_append, c] <;> rfl, hlt, rfl⟩
    · right; exact ⟨_, by simp (maxSteps := 1000000) (disch := first | omega | assumption) only [r_ret, r_br, decide_eq_true_eq, Bool.not_eq_eq_eq_not, decide_eq_false_iff_not, ite_not, q_true, r_bind, r_iter, q_inB, q_nz, q_app, q_eq, q_bnd, q_str, w64', Option.bind_some, Option.bind_none, List.length_cons, List.length_nil, List.length_append, Nat.zero_add, if_pos, if_neg, decide_true, decide_false, if_true, if_false, Bool.not_true, Bool.not_false, Bool.false_eq_true, Bool.true_eq_false, not_true_eq_false, not_false_eq_true, reduceIte, List.nil_append, ] <;> rfl, _, rfl⟩) rfl
  exact ⟨b, by rw [← h2]; exact h1⟩
theorem k_brief {l : List Lay} (h : l.length ≤ 1048576) : ∃ b : Bool, law08xbrief l = some ((b, ()), ()) := by
  obtain ⟨b, hb⟩ := k_brief_l0 h
  simp only [law08xbrief, T_law08xbrief]
  by_cases c1 : (8 : Int) < l.length
  · by_cases c2 : (l.length : Int) ≤ 40
    · exact ⟨false, by simp (maxSteps := 1000000) (disch := first | omega | assumption) only [r_ret, r_br, decide_eq_true_eq, Bool.not_eq_eq_eq_not, decide_eq_false_iff_not, ite_not, q_true, r_bind, r_iter, q_inB, q_nz, q_app, q_eq, q_bnd, q_str, w64', Option.bind_some, Option.bind_none, List.length_cons, List.length_nil, List.length_append, Nat.zero_add, if_pos, if_neg, decide_true, decide_false, if_true, if_false, Bool.not_true, Bool.not_false, Bool.false_eq_true, Bool.true_eq_false, not_true_eq_false, not_false_eq_true, reduceIte, List.nil_append, c1, c2]⟩
    · by_cases c3 : (43 : Int) < l.length
      · exact ⟨false, by simp (maxSteps := 1000000) (disch := first | omega | assumption) only [r_ret, r_br, decide_eq_true_eq, Bool.not_eq_eq_eq_not, decide_eq_false_iff_not, ite_not, q_true, r_bind, r_iter, q_inB, q_nz, q_app, q_eq, q_bnd, q_str, w64', Option.bind_some, Option.bind_none, List.length_cons, List.length_nil, List.length_append, Nat.zero_add, if_pos, if_neg, decide_true, decide_false, if_true, if_false, Bool.not_true, Bool.not_false, Bool.false_eq_true, Bool.true_eq_false, not_true_eq_false, not_false_eq_true, reduceIte, List.nil_append, c1, c2, c3]⟩
      · exact ⟨b, by simp (maxSteps := 1000000) (disch := first | omega | assumption) only [r_ret, r_br, decide_eq_true_eq, Bool.not_eq_eq_eq_not, decide_eq_false_iff_not, ite_not, q_true, r_bind, r_iter, q_inB, q_nz, q_app, q_eq, q_bnd, q_str, w64', Option.bind_some, Option.bind_none, List.length_cons, List.length_nil, List.length_append, Nat.zero_add, if_pos, if_neg, decide_true, decide_false, if_true, if_false, Bool.not_true, Bool.not_false, Bool.false_eq_true, Bool.true_eq_false, not_true_eq_false, not_false_eq_true, reduceIte, List.nil_append, c1, c2, c3, hb]⟩
  · exact ⟨b, by simp (maxSteps := 1000000) (disch := first | omega | assumption) only [r_ret, r_br, decide_eq_true_eq, Bool.not_eq_eq_eq_not, decide_eq_false_iff_not, ite_not, q_true, r_bind, r_iter, q_inB, q_nz, q_app, q_eq, q_bnd, q_str, w64', Option.bind_some, Option.bind_none, List.length_cons, List.length_nil, List.length_append, Nat.zero_add, if_pos, if_neg, decide_true, decide_false, if_true, if_false, Bool.not_true, Bool.not_false, Bool.false_eq_true, Bool.true_eq_false, not_true_eq_false, not_false_eq_true, reduceIte, List.nil_append, c1, hb]⟩

theorem totE_r {l : List Mat} {r : List Lay} (h : matsE l = 0) : totE l r = recE l r := if_pos h
theorem totE_m {l : List Mat} {r : List Lay} (h : ¬ matsE l = 0) : totE l r = matsE l := if_neg h
theorem totV_y {l : List Mat} {r : List Lay} (h : totE l r = 0) : totV l r = totTo l r r.length := if_pos h
theorem totV_n {l : List Mat} {r : List Lay} (h : ¬ totE l r = 0) : totV l r = (0, 0) := if_neg h
theorem part_one {r : List Lay} {i : Nat} (h : i < r.length) : part r (i : Int) ((i : Int) + 1) = [gi r (i : Int)] := by
  rw [part, show ((i : Int) + 1).toNat = i + 1 by omega, show ((i : Int)).toNat = i by omega, List.drop_take, show i + 1 - i = 1 by omega, List.drop_eq_getElem_cons h, List.take_succ_cons, List.take_zero]
  simp [gi, List.getD, List.getElem?_eq_getElem h]

theorem layers_loop {l : List Mat} {r : List Lay} (hl : l.length ≤ 1048576) (hn : NmOk l) (hr : r.length ≤ 1048576) (hw : LayOk r) :
    iterF (fun y : Int × Unit => (T_law08xCoatLayers_l14 l r ((matsE l, ()), ()) y.1).run) FUEL (0, ()) = some ((true, ()), ()) := by
  refine iter_eq (fun i x => x = ((i : Int), ())) _ r.length (by omega) ?_ rfl
  rintro i x hi rfl
  simp only [T_law08xCoatLayers_l14]
  by_cases hlt : i < r.length
  · by_cases c3 : i < 3
    · left
      refine ⟨((i : Int) + 1, ()), ?_, hlt, rfl⟩
      have hk := k_Thickness hl hn (hw i hlt)
      by_cases hm : matsE l = 0
      · have hc := k_rCheckRecipe (r := [gi r (i : Int)]) hl (by simp)
        rw [recE_one] at hc
        have e : thkE l (gi r (i : Int)) = layE l (gi r (i : Int)) := if_pos hm
        by_cases h0 : layE l (gi r (i : Int)) = 0
        · have e2 : thkV l (gi r (i : Int)) = layT l (gi r (i : Int)) := if_pos (by rw [e, h0])
          rw [e2, e, h0] at hk
          rw [h0] at hc
          simp (maxSteps := 1000000) (disch := first | omega | assumption) only [r_ret, r_br, decide_eq_true_eq, Bool.not_eq_eq_eq_not, decide_eq_false_iff_not, ite_not, q_true, r_bind, r_iter, q_inB, q_nz, q_app, q_eq, q_bnd, q_str, w64', Option.bind_some, Option.bind_none, List.length_cons, List.length_nil, List.length_append, Nat.zero_add, if_pos, if_neg, decide_true, decide_false, if_true, if_false, Bool.not_true, Bool.not_false, Bool.false_eq_true, Bool.true_eq_false, not_true_eq_false, not_false_eq_true, reduceIte, List.nil_append, k_materials, hk, hm, part_one, hc, k_rThickness, h0, and_self, Bool.and_self]
        · have e2 : thkV l (gi r (i : Int)) = (0, 0) := if_neg (by rw [e]; exact h0)
          rw [e2, e] at hk
          simp (maxSteps := 1000000) (disch := first | omega | assumption) only [r_ret, r_br, decide_eq_true_eq, Bool.not_eq_eq_eq_not, decide_eq_false_iff_not, ite_not, q_true, r_bind, r_iter, q_inB, q_nz, q_app, q_eq, q_bnd, q_str, w64', Option.bind_some, Option.bind_none, List.length_cons, List.length_nil, List.length_append, Nat.zero_add, if_pos, if_neg, decide_true, decide_false, if_true, if_false, Bool.not_true, Bool.not_false, Bool.false_eq_true, Bool.true_eq_false, not_true_eq_false, not_false_eq_true, reduceIte, List.nil_append, k_materials, hk, hm, part_one, hc, h0, and_self, Bool.and_self]
      · have e : thkE l (gi r (i : Int)) = matsE l := if_neg hm
        have e2 : thkV l (gi r (i : Int)) = (0, 0) := if_neg (by rw [e]; exact hm)
        rw [e2, e] at hk
        simp (maxSteps := 1000000) (disch := first | omega | assumption) only [r_ret, r_br, decide_eq_true_eq, Bool.not_eq_eq_eq_not, decide_eq_false_iff_not, ite_not, q_true, r_bind, r_iter, q_inB, q_nz, q_app, q_eq, q_bnd, q_str, w64', Option.bind_some, Option.bind_none, List.length_cons, List.length_nil, List.length_append, Nat.zero_add, if_pos, if_neg, decide_true, decide_false, if_true, if_false, Bool.not_true, Bool.not_false, Bool.false_eq_true, Bool.true_eq_false, not_true_eq_false, not_false_eq_true, reduceIte, List.nil_append, k_materials, hk, hm, and_self, Bool.and_self]
    · right
      simp (maxSteps := 1000000) (disch := first | omega | assumption) only [r_ret, r_br, decide_eq_true_eq, Bool.not_eq_eq_eq_not, decide_eq_false_iff_not, ite_not, q_true, r_bind, r_iter, q_inB, q_nz, q_app, q_eq, q_bnd, q_str, w64', Option.bind_some, Option.bind_none, List.length_cons, List.length_nil, List.length_append, Nat.zero_add, if_pos, if_neg, decide_true, decide_false, if_true, if_false, Bool.not_true, Bool.not_false, Bool.false_eq_true, Bool.true_eq_false, not_true_eq_false, not_false_eq_true, reduceIte, List.nil_append, c3]
  · right
    simp (maxSteps := 1000000) (disch := first | omega | assumption) only [r_ret, r_br, decide_eq_true_eq, Bool.not_eq_eq_eq_not, decide_eq_false_iff_not, ite_not, q_true, r_bind, r_iter, q_inB, q_nz, q_app, q_eq, q_bnd, q_str, w64', Option.bind_some, Option.bind_none, List.length_cons, List.length_nil, List.length_append, Nat.zero_add, if_pos, if_neg, decide_true, decide_false, if_true, if_false, Bool.not_true, Bool.not_false, Bool.false_eq_true, Bool.true_eq_false, not_true_eq_false, not_false_eq_true, reduceIte, List.nil_append, ]

attribute [local irreducible] matsE recE totE totV matIx layE totTo
set_option maxHeartbeats 4000000 in
theorem k_CoatLayers0 {l : List Mat} {r : List Lay} (hl : l.length ≤ 1048576) (hn : NmOk l) (hr : r.length ≤ 1048576) (hw : LayOk r) : law08xCoatLayers l r = some ((true, ()), ()) := by
  obtain ⟨b1, hb1⟩ := k_short hl
  obtain ⟨b2, hb2⟩ := k_brief hr
  have hk := k_Total hl hn hr hw
  have hc := k_CheckRecipe hl hn hr hw
  have hloop := layers_loop hl hn hr hw
  simp only [law08xCoatLayers, T_law08xCoatLayers]
  cases b1 with
  | false => simp (maxSteps := 1000000) (disch := first | omega | assumption) only [r_ret, r_br, decide_eq_true_eq, Bool.not_eq_eq_eq_not, decide_eq_false_iff_not, ite_not, q_true, r_bind, r_iter, q_inB, q_nz, q_app, q_eq, q_bnd, q_str, w64', Option.bind_some, Option.bind_none, List.length_cons, List.length_nil, List.length_append, Nat.zero_add, if_pos, if_neg, decide_true, decide_false, if_true, if_false, Bool.not_true, Bool.not_false, Bool.false_eq_true, Bool.true_eq_false, not_true_eq_false, not_false_eq_true, reduceIte, List.nil_append, awake_ok, hb1]
  | true => cases b2 with
    | false => simp (maxSteps := 1000000) (disch := first | omega | assumption) only [r_ret, r_br, decide_eq_true_eq, Bool.not_eq_eq_eq_not, decide_eq_false_iff_not, ite_not, q_true, r_bind, r_iter, q_inB, q_nz, q_app, q_eq, q_bnd, q_str, w64', Option.bind_some, Option.bind_none, List.length_cons, List.length_nil, List.length_append, Nat.zero_add, if_pos, if_neg, decide_true, decide_false, if_true, if_false, Bool.not_true, Bool.not_false, Bool.false_eq_true, Bool.true_eq_false, not_true_eq_false, not_false_eq_true, reduceIte, List.nil_append, awake_ok, hb1, hb2]
    | true =>
      by_cases hm : matsE l = 0
      · have e : totE l r = recE l r := totE_r hm
        by_cases h0 : recE l r = 0
        · have e2 : totV l r = totTo l r r.length := totV_y (by rw [e, h0])
          rw [e2, e, h0] at hk
          rw [e, h0] at hc
          rw [hm] at hloop
          simp (maxSteps := 1000000) (disch := first | omega | assumption) only [r_ret, r_br, decide_eq_true_eq, Bool.not_eq_eq_eq_not, decide_eq_false_iff_not, ite_not, q_true, r_bind, r_iter, q_inB, q_nz, q_app, q_eq, q_bnd, q_str, w64', Option.bind_some, Option.bind_none, List.length_cons, List.length_nil, List.length_append, Nat.zero_add, if_pos, if_neg, decide_true, decide_false, if_true, if_false, Bool.not_true, Bool.not_false, Bool.false_eq_true, Bool.true_eq_false, not_true_eq_false, not_false_eq_true, reduceIte, List.nil_append, awake_ok, hb1, hb2, k_materials, k_layers, hk, hc, k_rCheckMaterials, k_CheckMaterials, hm, k_rCheckRecipe, h0, k_rTotal, and_self, Bool.and_self, hloop]
        · have e2 : totV l r = (0, 0) := totV_n (by rw [e]; exact h0)
          rw [e2, e] at hk
          rw [e] at hc
          rw [hm] at hloop
          simp (maxSteps := 1000000) (disch := first | omega | assumption) only [r_ret, r_br, decide_eq_true_eq, Bool.not_eq_eq_eq_not, decide_eq_false_iff_not, ite_not, q_true, r_bind, r_iter, q_inB, q_nz, q_app, q_eq, q_bnd, q_str, w64', Option.bind_some, Option.bind_none, List.length_cons, List.length_nil, List.length_append, Nat.zero_add, if_pos, if_neg, decide_true, decide_false, if_true, if_false, Bool.not_true, Bool.not_false, Bool.false_eq_true, Bool.true_eq_false, not_true_eq_false, not_false_eq_true, reduceIte, List.nil_append, awake_ok, hb1, hb2, k_materials, k_layers, hk, hc, k_rCheckMaterials, k_CheckMaterials, hm, k_rCheckRecipe, h0, and_self, Bool.and_self, hloop]
      · have e : totE l r = matsE l := totE_m hm
        have e2 : totV l r = (0, 0) := totV_n (by rw [e]; exact hm)
        rw [e2, e] at hk
        rw [e] at hc
        clear e e2
        simp (maxSteps := 1000000) (disch := first | omega | assumption) only [r_ret, r_br, decide_eq_true_eq, Bool.not_eq_eq_eq_not, decide_eq_false_iff_not, ite_not, q_true, r_bind, r_iter, q_inB, q_nz, q_app, q_eq, q_bnd, q_str, w64', Option.bind_some, Option.bind_none, List.length_cons, List.length_nil, List.length_append, Nat.zero_add, if_pos, if_neg, decide_true, decide_false, if_true, if_false, Bool.not_true, Bool.not_false, Bool.false_eq_true, Bool.true_eq_false, not_true_eq_false, not_false_eq_true, reduceIte, List.nil_append, awake_ok, hb1, hb2, k_materials, k_layers, hk, hc, k_rCheckMaterials, k_CheckMaterials, hm, and_self, Bool.and_self, hloop]

theorem mats_in {l : List Mat} (b : bulkT (.list (.pair .str (.pair (.int .i64) (.int .i64)))) l ≤ 1048576) : l.length ≤ 1048576 ∧ NmOk l := by
  refine ⟨Nat.le_trans (bulk_len (a := .pair .str (.pair (.int .i64) (.int .i64))) (by decide)) b, fun i hi => ?_⟩
  have := bulk_mem (a := .pair .str (.pair (.int .i64) (.int .i64))) (gi_mem hi)
  simp only [bulkT] at this b
  omega
theorem lays_in {r : List Lay} (b : bulkT (.list (.pair .str (.int .i64))) r ≤ 1048576) (w : wfT (.list (.pair .str (.int .i64))) r) : r.length ≤ 1048576 ∧ LayOk r := by
  refine ⟨Nat.le_trans (bulk_len (a := .pair .str (.int .i64)) (by decide)) b, fun i hi => ?_⟩
  have := bulk_mem (a := .pair .str (.int .i64)) (gi_mem hi)
  have q := (w _ (gi_mem hi)).2
  simp only [bulkT] at this b
  refine ⟨by omega, q.1, q.2⟩
theorem k_CoatLayers {l : List Mat} {r : List Lay} (b0 : bulkT (.list (.pair .str (.pair (.int .i64) (.int .i64)))) l ≤ 1048576) (w0 : wfT (.list (.pair .str (.pair (.int .i64) (.int .i64)))) l)
    (b1 : bulkT (.list (.pair .str (.int .i64))) r ≤ 1048576) (w1 : wfT (.list (.pair .str (.int .i64))) r) : law08xCoatLayers l r = some ((true, ()), ()) :=
  k_CoatLayers0 (mats_in b0).1 (mats_in b0).2 (lays_in b1 w1).1 (lays_in b1 w1).2
end Go.Ab
