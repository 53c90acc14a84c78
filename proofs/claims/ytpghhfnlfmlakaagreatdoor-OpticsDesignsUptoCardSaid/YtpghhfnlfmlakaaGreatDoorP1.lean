/- Designs: whether they are right, their elements, their text. -/
import Derived.Test.YtpghhfnlfmlakaaGreatDoorNE1
namespace Go.Ab
open Go
set_option maxRecDepth 1000000
set_option maxHeartbeats 4000000
set_option linter.unusedVariables false
set_option linter.unusedSimpArgs false

/-- What is known of the surfaces of a design. -/
def LB (l : List Srf) : Prop := l.length ≤ 1048576 ∧ ∀ s ∈ l, s.1.length ≤ 1048576 ∧ I64 s.2.1.2.1 ∧ I64 s.2.1.2.2
theorem part_list {α : Type} (l : List α) (i : Nat) : part l 0 (i : Int) = l.take i := by simp [part]
theorem LB.take {l : List Srf} (h : LB l) (i : Nat) : LB (l.take i) := ⟨Nat.le_trans (by rw [List.length_take]; omega) h.1, fun s hs => h.2 s (List.mem_of_mem_take hs)⟩
/-- The number and the error of the first wrong surface. -/
def chkL : List Srf → Nat → List Srf → Int × Int
  | _, _, [] => (0, 0)
  | b, i, s :: r => if cnE b s.1 ≠ 0 then ((i : Int), cnE b s.1) else if srfE s ≠ 0 then ((i : Int), srfE s) else chkL (b ++ [s]) (i + 1) r
def chkD (d : Dsg) : Int × Int := if nameB d.1 = true then (if 12 < d.2.length then (0, 8) else chkL [] 0 d.2) else (0, 4)
theorem k_CheckDesign {d : Dsg} (hn : d.1.length ≤ 1048576) (hl : LB d.2) : optics_CheckDesign d = some (((chkD d).1, ((chkD d).2, ())), ()) := by
  show (T_optics_CheckDesign d).run = _
  unfold T_optics_CheckDesign chkD
  refine (r_bs (k_isName hn)).trans ?_
  cases hb : nameB d.1 with
  | false =>
    rw [if_neg (by decide)]
    refine (br_t rfl).trans ?_
    exact r_ret _
  | true =>
    rw [if_pos rfl]
    refine (br_f rfl).trans ?_
    by_cases h12 : 12 < d.2.length
    · rw [if_pos h12]
      refine (br_t (decide_eq_true (by omega))).trans ?_
      exact r_ret _
    rw [if_neg h12]
    refine (br_f (decide_eq_false (by omega))).trans ?_
    rw [r_iter]
    refine iter_eq (fun i st => st = ((i : Int), ()) ∧ chkL (d.2.take i) i (d.2.drop i) = chkL [] 0 d.2) _ d.2.length (by omega) ?_ ⟨rfl, rfl⟩
    rintro i st hi ⟨rfl, hc⟩
    show (∃ x', (T_optics_CheckDesign_l1 d (i : Int)).run = _ ∧ _) ∨ (T_optics_CheckDesign_l1 d (i : Int)).run = _
    unfold T_optics_CheckDesign_l1
    by_cases h : i < d.2.length
    · have eg : gi d.2 (i : Int) = d.2[i] := gi_nat h
      have hs := hl.2 d.2[i] (List.getElem_mem h)
      rw [List.drop_eq_getElem_cons h, chkL] at hc
      have kc := k_checkName (l := d.2.take i) (n := d.2[i].1) (hl.take i).1 hs.1
      have ks := k_checkSurface (s := d.2[i]) hs.2.1 hs.2.2
      by_cases h1 : cnE (d.2.take i) d.2[i].1 = 0
      · rw [if_neg (fun h => h h1)] at hc
        by_cases h2 : srfE d.2[i] = 0
        · left
          rw [if_neg (fun h => h h2)] at hc
          refine ⟨(((i + 1 : Nat) : Int), ()), ?_, h, rfl, ?_⟩
          · rw [eg, part_list, ← w1 i (by omega)]
            refine (br_t (decide_eq_true (by omega))).trans ?_
            refine (q_of (inB_t' (by omega) (by omega))).trans ?_
            refine (q_of (bnd_t' (by omega) (by omega) (by omega))).trans ?_
            refine (r_bs kc).trans ?_
            refine (br_f (nd h1)).trans ?_
            refine (r_bs ks).trans ?_
            refine (br_f (nd h2)).trans ?_
            exact r_ret _
          · rw [← hc, List.take_add_one, List.getElem?_eq_getElem h]; rfl
        · right
          rw [if_pos h2] at hc
          rw [← hc, eg, part_list]
          refine (br_t (decide_eq_true (by omega))).trans ?_
          refine (q_of (inB_t' (by omega) (by omega))).trans ?_
          refine (q_of (bnd_t' (by omega) (by omega) (by omega))).trans ?_
          refine (r_bs kc).trans ?_
          refine (br_f (nd h1)).trans ?_
          refine (r_bs ks).trans ?_
          refine (br_t (nd' h2)).trans ?_
          exact r_ret _
      · right
        rw [if_pos h1] at hc
        rw [← hc, eg, part_list]
        refine (br_t (decide_eq_true (by omega))).trans ?_
        refine (q_of (inB_t' (by omega) (by omega))).trans ?_
        refine (q_of (bnd_t' (by omega) (by omega) (by omega))).trans ?_
        refine (r_bs kc).trans ?_
        refine (br_t (nd' h1)).trans ?_
        exact r_ret _
    · right
      have : i = d.2.length := by omega
      subst this
      rw [List.drop_length, chkL] at hc
      rw [← hc]
      refine (br_f (decide_eq_false (by omega))).trans ?_
      exact r_ret _
theorem k_rCheckDesign {d : Dsg} (hn : d.1.length ≤ 1048576) (hl : LB d.2) : ref02xCheckDesign d = some (((chkD d).1, ((chkD d).2, ())), ()) := by
  show (T_ref02xCheckDesign d).run = _
  unfold T_ref02xCheckDesign chkD
  refine (r_bs (k_rIsName hn)).trans ?_
  cases hb : nameB d.1 with
  | false =>
    rw [if_neg (by decide)]
    refine (br_t rfl).trans ?_
    exact r_ret _
  | true =>
    rw [if_pos rfl]
    refine (br_f rfl).trans ?_
    by_cases h12 : 12 < d.2.length
    · rw [if_pos h12]
      refine (br_t (decide_eq_true (by omega))).trans ?_
      exact r_ret _
    rw [if_neg h12]
    refine (br_f (decide_eq_false (by omega))).trans ?_
    rw [r_iter]
    refine iter_eq (fun i st => st = ((i : Int), ()) ∧ chkL (d.2.take i) i (d.2.drop i) = chkL [] 0 d.2) _ d.2.length (by omega) ?_ ⟨rfl, rfl⟩
    rintro i st hi ⟨rfl, hc⟩
    show (∃ x', (T_ref02xCheckDesign_l1 d (i : Int)).run = _ ∧ _) ∨ (T_ref02xCheckDesign_l1 d (i : Int)).run = _
    unfold T_ref02xCheckDesign_l1
    by_cases h : i < d.2.length
    · have eg : gi d.2 (i : Int) = d.2[i] := gi_nat h
      have hs := hl.2 d.2[i] (List.getElem_mem h)
      rw [List.drop_eq_getElem_cons h, chkL] at hc
      have kn := k_rIsName hs.1
      have km := k_rnamed (l := d.2.take i) (n := d.2[i].1) (hl.take i).1
      have ks := k_rsurface (s := d.2[i]) hs.2.1 hs.2.2
      cases h0 : nameB d.2[i].1 with
      | false =>
        right
        have e4 : cnE (d.2.take i) d.2[i].1 = 4 := by unfold cnE; rw [h0]; rfl
        rw [e4, if_pos (by decide)] at hc
        rw [← hc, eg]
        refine (br_t (decide_eq_true (by omega))).trans ?_
        refine (q_of (inB_t' (by omega) (by omega))).trans ?_
        refine (r_bs kn).trans ?_
        refine (br_t (by rw [h0]; rfl)).trans ?_
        exact r_ret _
      | true =>
        cases h1 : namedB (d.2.take i) d.2[i].1 with
        | true =>
          right
          have e5 : cnE (d.2.take i) d.2[i].1 = 5 := by unfold cnE; rw [h0, if_pos rfl, h1]; rfl
          rw [e5, if_pos (by decide)] at hc
          rw [← hc, eg, part_list]
          refine (br_t (decide_eq_true (by omega))).trans ?_
          refine (q_of (inB_t' (by omega) (by omega))).trans ?_
          refine (r_bs kn).trans ?_
          refine (br_f (by rw [h0]; rfl)).trans ?_
          refine (q_of (bnd_t' (by omega) (by omega) (by omega))).trans ?_
          refine (r_bs km).trans ?_
          refine (br_t h1).trans ?_
          exact r_ret _
        | false =>
          have e0 : cnE (d.2.take i) d.2[i].1 = 0 := by unfold cnE; rw [h0, if_pos rfl, h1]; rfl
          rw [e0, if_neg (fun h => h rfl)] at hc
          by_cases h2 : srfE d.2[i] = 0
          · left
            rw [if_neg (fun h => h h2)] at hc
            refine ⟨(((i + 1 : Nat) : Int), ()), ?_, h, rfl, ?_⟩
            · rw [eg, part_list, ← w1 i (by omega)]
              refine (br_t (decide_eq_true (by omega))).trans ?_
              refine (q_of (inB_t' (by omega) (by omega))).trans ?_
              refine (r_bs kn).trans ?_
              refine (br_f (by rw [h0]; rfl)).trans ?_
              refine (q_of (bnd_t' (by omega) (by omega) (by omega))).trans ?_
              refine (r_bs km).trans ?_
              refine (br_f h1).trans ?_
              refine (r_bs ks).trans ?_
              refine (br_f (nd h2)).trans ?_
              exact r_ret _
            · rw [← hc, List.take_add_one, List.getElem?_eq_getElem h]; rfl
          · right
            rw [if_pos h2] at hc
            rw [← hc, eg, part_list]
            refine (br_t (decide_eq_true (by omega))).trans ?_
            refine (q_of (inB_t' (by omega) (by omega))).trans ?_
            refine (r_bs kn).trans ?_
            refine (br_f (by rw [h0]; rfl)).trans ?_
            refine (q_of (bnd_t' (by omega) (by omega) (by omega))).trans ?_
            refine (r_bs km).trans ?_
            refine (br_f h1).trans ?_
            refine (r_bs ks).trans ?_
            refine (br_t (nd' h2)).trans ?_
            exact r_ret _
    · right
      have : i = d.2.length := by omega
      subst this
      rw [List.drop_length, chkL] at hc
      rw [← hc]
      refine (br_f (decide_eq_false (by omega))).trans ?_
      exact r_ret _

/-! ### Elements -/

abbrev Elm := Int × Int
def elS : List Srf → List Elm
  | [] => []
  | [s] => [(2, s.2.1.1)]
  | s :: t :: r => (2, s.2.1.1) :: (1, s.2.2.2) :: elS (t :: r)
theorem el_gen {ρ : Type} {b : List Elm × Int × Unit → Option ((List Elm × Int × Unit) ⊕ ρ)} {l : List Srf} {R : List Elm → ρ} (hl : l.length ≤ 12)
    (h1 : ∀ a i (h : i + 1 < l.length), a.length ≤ 2 * i → b (a, ((i : Int), ())) = some (.inl (a ++ [(2, l[i].2.1.1)] ++ [(1, l[i].2.2.2)], (((i + 1 : Nat) : Int), ()))))
    (h2 : ∀ a i (h : i + 1 = l.length), a.length ≤ 2 * i → b (a, ((i : Int), ())) = some (.inl (a ++ [(2, (l[i]'(by omega)).2.1.1)], (((i + 1 : Nat) : Int), ()))))
    (h3 : ∀ a, b (a, ((l.length : Int), ())) = some (.inr (R a))) : iterF b FUEL ([], (0, ())) = some (R (elS l)) := by
  refine iter_eq (fun i (st : List Elm × Int × Unit) => ∃ a, st = (a, ((i : Int), ())) ∧ a ++ elS (l.drop i) = elS l ∧ a.length ≤ 2 * i) _ l.length (by omega) ?_ ⟨[], rfl, rfl, by simp⟩
  rintro i st hi ⟨a, rfl, ha, hal⟩
  by_cases h : i < l.length
  · left
    by_cases h' : i + 1 < l.length
    · refine ⟨_, h1 a i h' hal, h, _, rfl, ?_, by simp; omega⟩
      rw [← ha, List.drop_eq_getElem_cons h, List.drop_eq_getElem_cons h', elS]
      simp
    · have he : i + 1 = l.length := by omega
      refine ⟨_, h2 a i he hal, h, _, rfl, ?_, by simp; omega⟩
      rw [← ha, List.drop_eq_getElem_cons h, List.drop_of_length_le (by omega), elS, elS, List.append_nil]
  · right
    have : i = l.length := by omega
    subst this
    rw [List.drop_length, elS, List.append_nil] at ha
    rw [h3, ha]
theorem chkD_len {d : Dsg} (h : (chkD d).2 = 0) : nameB d.1 = true ∧ d.2.length ≤ 12 ∧ (chkL [] 0 d.2).2 = 0 := by
  unfold chkD at h
  split at h
  · rename_i hn
    split at h
    · cases h
    · rename_i h12
      exact ⟨hn, by omega, h⟩
  · cases h
theorem k_ElementsOf {d : Dsg} (hn : d.1.length ≤ 1048576) (hl : LB d.2) : optics_ElementsOf d = some (((if (chkD d).2 = 0 then elS d.2 else []), ((chkD d).2, ())), ()) := by
  show (T_optics_ElementsOf d).run = _
  unfold T_optics_ElementsOf
  refine (r_bs (k_CheckDesign hn hl)).trans ?_
  by_cases hc : (chkD d).2 = 0
  · rw [if_pos hc]
    refine (br_f (nd hc)).trans ?_
    refine (q_of rfl).trans ?_
    obtain ⟨_, h12, _⟩ := chkD_len hc
    rw [r_iter, hc]
    refine el_gen (R := fun a => ((a, ((0 : Int), ())), ())) h12 (fun a i h hal => ?_) (fun a i h hal => ?_) (fun a => ?_)
    · show (T_optics_ElementsOf_l1 d a (i : Int)).run = _
      unfold T_optics_ElementsOf_l1
      have eg : gi d.2 (i : Int) = d.2[i] := gi_nat (by omega)
      rw [eg, w1 i (by omega)]
      refine (br_t (decide_eq_true (by omega))).trans ?_
      refine (q_of (inB_t' (by omega) (by omega))).trans ?_
      refine (q_of (decide_eq_true rfl)).trans ?_
      refine (q_of (app_t' (by simp; omega) (by simp; omega))).trans ?_
      refine (br_t (decide_eq_true (by omega))).trans ?_
      refine (q_of (decide_eq_true (by simp))).trans ?_
      refine (q_of (app_t' (by simp; omega) (by simp; omega))).trans ?_
      refine (q_of (decide_eq_true (by simp))).trans ?_
      exact r_ret _
    · show (T_optics_ElementsOf_l1 d a (i : Int)).run = _
      unfold T_optics_ElementsOf_l1
      have eg : gi d.2 (i : Int) = d.2[i]'(by omega) := gi_nat (by omega)
      rw [eg, w1 i (by omega)]
      refine (br_t (decide_eq_true (by omega))).trans ?_
      refine (q_of (inB_t' (by omega) (by omega))).trans ?_
      refine (q_of (decide_eq_true rfl)).trans ?_
      refine (q_of (app_t' (by simp; omega) (by simp; omega))).trans ?_
      refine (br_f (decide_eq_false (by omega))).trans ?_
      refine (q_of (decide_eq_true (by simp))).trans ?_
      exact r_ret _
    · show (T_optics_ElementsOf_l1 d a (d.2.length : Int)).run = _
      unfold T_optics_ElementsOf_l1
      refine (br_f (decide_eq_false (by omega))).trans ?_
      exact r_ret _
  · rw [if_neg hc]
    refine (br_t (nd' hc)).trans ?_
    exact r_ret _
theorem k_rElementsOf {d : Dsg} (h12 : d.2.length ≤ 12) : ref02xElementsOf d = some ((elS d.2, ()), ()) := by
  show (T_ref02xElementsOf d).run = _
  unfold T_ref02xElementsOf
  refine (q_of rfl).trans ?_
  rw [r_iter]
  refine el_gen (R := fun a => ((a, ()), ())) h12 (fun a i h hal => ?_) (fun a i h hal => ?_) (fun a => ?_)
  · show (T_ref02xElementsOf_l0 d a (i : Int)).run = _
    unfold T_ref02xElementsOf_l0
    have eg : gi d.2 (i : Int) = d.2[i] := gi_nat (by omega)
    rw [eg, w1 i (by omega)]
    refine (br_t (decide_eq_true (by omega))).trans ?_
    refine (q_of (inB_t' (by omega) (by omega))).trans ?_
    refine (q_of (decide_eq_true rfl)).trans ?_
    refine (q_of (app_t' (by simp; omega) (by simp; omega))).trans ?_
    refine (br_t (decide_eq_true (by omega))).trans ?_
    refine (q_of (inB_t' (by omega) (by omega))).trans ?_
    refine (q_of (decide_eq_true (by simp))).trans ?_
    refine (q_of (app_t' (by simp; omega) (by simp; omega))).trans ?_
    refine (q_of (decide_eq_true (by simp))).trans ?_
    exact r_ret _
  · show (T_ref02xElementsOf_l0 d a (i : Int)).run = _
    unfold T_ref02xElementsOf_l0
    have eg : gi d.2 (i : Int) = d.2[i]'(by omega) := gi_nat (by omega)
    rw [eg, w1 i (by omega)]
    refine (br_t (decide_eq_true (by omega))).trans ?_
    refine (q_of (inB_t' (by omega) (by omega))).trans ?_
    refine (q_of (decide_eq_true rfl)).trans ?_
    refine (q_of (app_t' (by simp; omega) (by simp; omega))).trans ?_
    refine (br_f (decide_eq_false (by omega))).trans ?_
    refine (q_of (decide_eq_true (by simp))).trans ?_
    exact r_ret _
  · show (T_ref02xElementsOf_l0 d a (d.2.length : Int)).run = _
    unfold T_ref02xElementsOf_l0
    refine (br_f (decide_eq_false (by omega))).trans ?_
    exact r_ret _
end Go.Ab
