/- Materials by their names. -/
import Derived.Test.YtjmmjfcapgaomaaK3
import Derived.Test.YtjmmjfcapgaomaaL1
namespace Go.Ab
open Go
set_option maxRecDepth 1000000
set_option maxHeartbeats 1000000
set_option linter.unusedVariables false
set_option linter.unusedSimpArgs false

theorem k_IsName {s : List UInt8} (hl : s.length ≤ 1099511627776) : base_IsName s = some ((decide (isNm s), ()), ()) := by
  simp only [base_IsName, T_base_IsName]
  by_cases h0 : s.length = 0
  · have : ¬ isNm s := fun h => h.1 (List.eq_nil_of_length_eq_zero h0)
    simp (maxSteps := 1000000) (disch := first | omega | assumption) only [r_ret, r_br, decide_eq_true_eq, Bool.not_eq_eq_eq_not, decide_eq_false_iff_not, ite_not, q_true, r_bind, r_iter, q_inB, q_nz, q_app, q_eq, q_bnd, q_str, w64', Option.bind_some, Option.bind_none, List.length_cons, List.length_nil, List.length_append, Nat.zero_add, if_pos, if_neg, decide_true, decide_false, if_true, if_false, Bool.not_true, Bool.not_false, Bool.false_eq_true, Bool.true_eq_false, not_true_eq_false, not_false_eq_true, reduceIte, List.nil_append, h0, this]
  have hne : s ≠ [] := fun e => h0 (by rw [e]; rfl)
  by_cases h1 : (12 : Int) < s.length
  · have : ¬ isNm s := fun h => by have := h.2.1; omega
    simp (maxSteps := 1000000) (disch := first | omega | assumption) only [r_ret, r_br, decide_eq_true_eq, Bool.not_eq_eq_eq_not, decide_eq_false_iff_not, ite_not, q_true, r_bind, r_iter, q_inB, q_nz, q_app, q_eq, q_bnd, q_str, w64', Option.bind_some, Option.bind_none, List.length_cons, List.length_nil, List.length_append, Nat.zero_add, if_pos, if_neg, decide_true, decide_false, if_true, if_false, Bool.not_true, Bool.not_false, Bool.false_eq_true, Bool.true_eq_false, not_true_eq_false, not_false_eq_true, reduceIte, List.nil_append, h1, this]
  by_cases h2 : isLet ((gi s (0 : Int)).toNat : Int)
  · simp (maxSteps := 1000000) (disch := first | omega | assumption) only [r_ret, r_br, decide_eq_true_eq, Bool.not_eq_eq_eq_not, decide_eq_false_iff_not, ite_not, q_true, r_bind, r_iter, q_inB, q_nz, q_app, q_eq, q_bnd, q_str, w64', Option.bind_some, Option.bind_none, List.length_cons, List.length_nil, List.length_append, Nat.zero_add, if_pos, if_neg, decide_true, decide_false, if_true, if_false, Bool.not_true, Bool.not_false, Bool.false_eq_true, Bool.true_eq_false, not_true_eq_false, not_false_eq_true, reduceIte, List.nil_append, k_isLetter, h1, h2]
    refine iter_eq (fun i x => x = ((i : Int), ()) ∧ ∀ j, j < i → nmAt s j) _ s.length (by omega) ?_ ⟨rfl, fun j hj => by omega⟩
    rintro i x hi ⟨rfl, hp⟩
    simp only [T_base_IsName_l1]
    by_cases hlt : i < s.length
    · by_cases h : nmAt s i
      · left
        refine ⟨((i : Int) + 1, ()), ?_, hlt, rfl, fun j hj => ?_⟩
        · by_cases a : isLet ((gi s (i : Int)).toNat : Int)
          · simp (maxSteps := 1000000) (disch := first | omega | assumption) only [r_ret, r_br, decide_eq_true_eq, Bool.not_eq_eq_eq_not, decide_eq_false_iff_not, ite_not, q_true, r_bind, r_iter, q_inB, q_nz, q_app, q_eq, q_bnd, q_str, w64', Option.bind_some, Option.bind_none, List.length_cons, List.length_nil, List.length_append, Nat.zero_add, if_pos, if_neg, decide_true, decide_false, if_true, if_false, Bool.not_true, Bool.not_false, Bool.false_eq_true, Bool.true_eq_false, not_true_eq_false, not_false_eq_true, reduceIte, List.nil_append, k_isLetter, k_isDigit, a]
          · by_cases c : isDig ((gi s (i : Int)).toNat : Int)
            · simp (maxSteps := 1000000) (disch := first | omega | assumption) only [r_ret, r_br, decide_eq_true_eq, Bool.not_eq_eq_eq_not, decide_eq_false_iff_not, ite_not, q_true, r_bind, r_iter, q_inB, q_nz, q_app, q_eq, q_bnd, q_str, w64', Option.bind_some, Option.bind_none, List.length_cons, List.length_nil, List.length_append, Nat.zero_add, if_pos, if_neg, decide_true, decide_false, if_true, if_false, Bool.not_true, Bool.not_false, Bool.false_eq_true, Bool.true_eq_false, not_true_eq_false, not_false_eq_true, reduceIte, List.nil_append, k_isLetter, k_isDigit, a, c]
            · have e : ((gi s (i : Int)).toNat : Int) = 45 := by omega
              simp (maxSteps := 1000000) (disch := first | omega | assumption) only [r_ret, r_br, decide_eq_true_eq, Bool.not_eq_eq_eq_not, decide_eq_false_iff_not, ite_not, q_true, r_bind, r_iter, q_inB, q_nz, q_app, q_eq, q_bnd, q_str, w64', Option.bind_some, Option.bind_none, List.length_cons, List.length_nil, List.length_append, Nat.zero_add, if_pos, if_neg, decide_true, decide_false, if_true, if_false, Bool.not_true, Bool.not_false, Bool.false_eq_true, Bool.true_eq_false, not_true_eq_false, not_false_eq_true, reduceIte, List.nil_append, k_isLetter, k_isDigit, a, c, e]
        · by_cases e : j = i
          · subst e; exact h
          · exact hp j (by omega)
      · right
        have hn : ¬ isNm s := fun hn => h (hn.2.2 i hlt)
        have h' : ¬ isLet ((gi s (i : Int)).toNat : Int) ∧ (i ≠ 0 → ¬ ((gi s (i : Int)).toNat : Int) = 45 ∧ ¬ isDig ((gi s (i : Int)).toNat : Int)) := by
          constructor
          · exact fun a => h (.inl a)
          · intro hi0
            exact ⟨fun a => h (.inr ⟨hi0, .inl a⟩), fun a => h (.inr ⟨hi0, .inr a⟩)⟩
        have hi0 : i ≠ 0 := fun e => by subst e; exact h'.1 h2
        obtain ⟨a, b⟩ := h'
        obtain ⟨c, d⟩ := b hi0
        simp (maxSteps := 1000000) (disch := first | omega | assumption) only [r_ret, r_br, decide_eq_true_eq, Bool.not_eq_eq_eq_not, decide_eq_false_iff_not, ite_not, q_true, r_bind, r_iter, q_inB, q_nz, q_app, q_eq, q_bnd, q_str, w64', Option.bind_some, Option.bind_none, List.length_cons, List.length_nil, List.length_append, Nat.zero_add, if_pos, if_neg, decide_true, decide_false, if_true, if_false, Bool.not_true, Bool.not_false, Bool.false_eq_true, Bool.true_eq_false, not_true_eq_false, not_false_eq_true, reduceIte, List.nil_append, k_isLetter, k_isDigit, a, c, d, hn]
    · right
      have : i = s.length := by omega
      subst this
      have hn : isNm s := ⟨hne, by omega, fun j hj => hp j hj⟩
      simp (maxSteps := 1000000) (disch := first | omega | assumption) only [r_ret, r_br, decide_eq_true_eq, Bool.not_eq_eq_eq_not, decide_eq_false_iff_not, ite_not, q_true, r_bind, r_iter, q_inB, q_nz, q_app, q_eq, q_bnd, q_str, w64', Option.bind_some, Option.bind_none, List.length_cons, List.length_nil, List.length_append, Nat.zero_add, if_pos, if_neg, decide_true, decide_false, if_true, if_false, Bool.not_true, Bool.not_false, Bool.false_eq_true, Bool.true_eq_false, not_true_eq_false, not_false_eq_true, reduceIte, List.nil_append, hn]
  · have : ¬ isNm s := fun h => by
      have := h.2.2 0 (by omega)
      simp only [nmAt, ne_eq, not_true_eq_false, false_and, or_false] at this
      exact h2 this
    simp (maxSteps := 1000000) (disch := first | omega | assumption) only [r_ret, r_br, decide_eq_true_eq, Bool.not_eq_eq_eq_not, decide_eq_false_iff_not, ite_not, q_true, r_bind, r_iter, q_inB, q_nz, q_app, q_eq, q_bnd, q_str, w64', Option.bind_some, Option.bind_none, List.length_cons, List.length_nil, List.length_append, Nat.zero_add, if_pos, if_neg, decide_true, decide_false, if_true, if_false, Bool.not_true, Bool.not_false, Bool.false_eq_true, Bool.true_eq_false, not_true_eq_false, not_false_eq_true, reduceIte, List.nil_append, k_isLetter, h1, h2, this]

abbrev Mat := List UInt8 × Int × Int
def isMat (l : List Mat) (nm : List UInt8) : Nat → Bool := fun j => decide ((gi l (j : Int)).1 = nm)
def matIx (l : List Mat) (nm : List UInt8) : Int := idxTo (isMat l nm) l.length

theorem k_FindMaterial {l : List Mat} (hl : l.length ≤ 1099511627776) (nm : List UInt8) : ref08xFindMaterial l nm = some ((matIx l nm, ()), ()) := by
  simp only [ref08xFindMaterial, T_ref08xFindMaterial]
  rw [r_iter]
  refine iter_idx (isMat l nm) l.length hl (fun i => ((i, ()), ())) ?_ ?_ ?_
  · intro i hi hp
    have hp : (gi l (i : Int)).1 = nm := of_decide_eq_true hp
    simp only [T_ref08xFindMaterial_l0]
    simp (maxSteps := 1000000) (disch := first | omega | assumption) only [r_ret, r_br, decide_eq_true_eq, Bool.not_eq_eq_eq_not, decide_eq_false_iff_not, ite_not, q_true, r_bind, r_iter, q_inB, q_nz, q_app, q_eq, q_bnd, q_str, w64', Option.bind_some, Option.bind_none, List.length_cons, List.length_nil, List.length_append, Nat.zero_add, if_pos, if_neg, decide_true, decide_false, if_true, if_false, Bool.not_true, Bool.not_false, Bool.false_eq_true, Bool.true_eq_false, not_true_eq_false, not_false_eq_true, reduceIte, List.nil_append, hp]
  · intro i hi hp
    have hp : ¬ (gi l (i : Int)).1 = nm := of_decide_eq_false hp
    simp only [T_ref08xFindMaterial_l0]
    simp (maxSteps := 1000000) (disch := first | omega | assumption) only [r_ret, r_br, decide_eq_true_eq, Bool.not_eq_eq_eq_not, decide_eq_false_iff_not, ite_not, q_true, r_bind, r_iter, q_inB, q_nz, q_app, q_eq, q_bnd, q_str, w64', Option.bind_some, Option.bind_none, List.length_cons, List.length_nil, List.length_append, Nat.zero_add, if_pos, if_neg, decide_true, decide_false, if_true, if_false, Bool.not_true, Bool.not_false, Bool.false_eq_true, Bool.true_eq_false, not_true_eq_false, not_false_eq_true, reduceIte, List.nil_append, hp]
  · simp only [T_ref08xFindMaterial_l0]
    simp (maxSteps := 1000000) (disch := first | omega | assumption) only [r_ret, r_br, decide_eq_true_eq, Bool.not_eq_eq_eq_not, decide_eq_false_iff_not, ite_not, q_true, r_bind, r_iter, q_inB, q_nz, q_app, q_eq, q_bnd, q_str, w64', Option.bind_some, Option.bind_none, List.length_cons, List.length_nil, List.length_append, Nat.zero_add, if_pos, if_neg, decide_true, decide_false, if_true, if_false, Bool.not_true, Bool.not_false, Bool.false_eq_true, Bool.true_eq_false, not_true_eq_false, not_false_eq_true, reduceIte, List.nil_append, ]

theorem k_IndexFuncMat {l : List Mat} (hl : l.length ≤ 1099511627776) (nm : List UInt8) : slices_IndexFunc_api_Material_findc1 l nm = some ((matIx l nm, ()), (nm, ())) := by
  simp only [slices_IndexFunc_api_Material_findc1, T_slices_IndexFunc_api_Material_findc1]
  rw [r_iter]
  have hc : ∀ a b c, coat_find_c1 (a, b, c) nm = some ((decide (a = nm), ()), (nm, ())) := fun a b c => by
    simp only [coat_find_c1, T_coat_find_c1]; simp (maxSteps := 1000000) (disch := first | omega | assumption) only [r_ret, r_br, decide_eq_true_eq, Bool.not_eq_eq_eq_not, decide_eq_false_iff_not, ite_not, q_true, r_bind, r_iter, q_inB, q_nz, q_app, q_eq, q_bnd, q_str, w64', Option.bind_some, Option.bind_none, List.length_cons, List.length_nil, List.length_append, Nat.zero_add, if_pos, if_neg, decide_true, decide_false, if_true, if_false, Bool.not_true, Bool.not_false, Bool.false_eq_true, Bool.true_eq_false, not_true_eq_false, not_false_eq_true, reduceIte, List.nil_append, ]
  refine iter_eq (fun i x => x = ((i : Int), nm, ()) ∧ ∀ j, j < i → isMat l nm j = false) _ l.length (by omega) ?_ ⟨rfl, fun j hj => by omega⟩
  rintro i x hi ⟨rfl, hp⟩
  simp only [T_slices_IndexFunc_api_Material_findc1xl0]
  by_cases hlt : i < l.length
  · by_cases h : (gi l (i : Int)).1 = nm
    · right
      have : matIx l nm = i := idxTo_at hp (decide_eq_true h) hlt
      simp (maxSteps := 1000000) (disch := first | omega | assumption) only [r_ret, r_br, decide_eq_true_eq, Bool.not_eq_eq_eq_not, decide_eq_false_iff_not, ite_not, q_true, r_bind, r_iter, q_inB, q_nz, q_app, q_eq, q_bnd, q_str, w64', Option.bind_some, Option.bind_none, List.length_cons, List.length_nil, List.length_append, Nat.zero_add, if_pos, if_neg, decide_true, decide_false, if_true, if_false, Bool.not_true, Bool.not_false, Bool.false_eq_true, Bool.true_eq_false, not_true_eq_false, not_false_eq_true, reduceIte, List.nil_append, hc, h, this, eq_self]
    · left
      refine ⟨((i : Int) + 1, nm, ()), by simp (maxSteps := 1000000) (disch := first | omega | assumption) only [r_ret, r_br, decide_eq_true_eq, Bool.not_eq_eq_eq_not, decide_eq_false_iff_not, ite_not, q_true, r_bind, r_iter, q_inB, q_nz, q_app, q_eq, q_bnd, q_str, w64', Option.bind_some, Option.bind_none, List.length_cons, List.length_nil, List.length_append, Nat.zero_add, if_pos, if_neg, decide_true, decide_false, if_true, if_false, Bool.not_true, Bool.not_false, Bool.false_eq_true, Bool.true_eq_false, not_true_eq_false, not_false_eq_true, reduceIte, List.nil_append, hc, h], hlt, rfl, fun j hj => ?_⟩
      by_cases e : j = i
      · subst e; exact decide_eq_false h
      · exact hp j (by omega)
  · right
    have : i = l.length := by omega
    subst this
    have : matIx l nm = -1 := idxTo_none hp
    simp (maxSteps := 1000000) (disch := first | omega | assumption) only [r_ret, r_br, decide_eq_true_eq, Bool.not_eq_eq_eq_not, decide_eq_false_iff_not, ite_not, q_true, r_bind, r_iter, q_inB, q_nz, q_app, q_eq, q_bnd, q_str, w64', Option.bind_some, Option.bind_none, List.length_cons, List.length_nil, List.length_append, Nat.zero_add, if_pos, if_neg, decide_true, decide_false, if_true, if_false, Bool.not_true, Bool.not_false, Bool.false_eq_true, Bool.true_eq_false, not_true_eq_false, not_false_eq_true, reduceIte, List.nil_append, this]

theorem matIx_bd (l : List Mat) (nm : List UInt8) : -1 ≤ matIx l nm ∧ matIx l nm < l.length := idxTo_bd _ _

theorem k_find {l : List Mat} (hl : l.length ≤ 1099511627776) (nm : List UInt8) :
    coat_find l nm = some (if matIx l nm < 0 then ((([], 0, 0), 6, ()), ()) else ((gi l (matIx l nm), 0, ()), ())) := by
  simp only [coat_find, T_coat_find]
  have hb := matIx_bd l nm
  by_cases h : matIx l nm < 0
  · simp (maxSteps := 1000000) (disch := first | omega | assumption) only [r_ret, r_br, decide_eq_true_eq, Bool.not_eq_eq_eq_not, decide_eq_false_iff_not, ite_not, q_true, r_bind, r_iter, q_inB, q_nz, q_app, q_eq, q_bnd, q_str, w64', Option.bind_some, Option.bind_none, List.length_cons, List.length_nil, List.length_append, Nat.zero_add, if_pos, if_neg, decide_true, decide_false, if_true, if_false, Bool.not_true, Bool.not_false, Bool.false_eq_true, Bool.true_eq_false, not_true_eq_false, not_false_eq_true, reduceIte, List.nil_append, k_IndexFuncMat, h]
  · simp (maxSteps := 1000000) (disch := first | omega | assumption) only [r_ret, r_br, decide_eq_true_eq, Bool.not_eq_eq_eq_not, decide_eq_false_iff_not, ite_not, q_true, r_bind, r_iter, q_inB, q_nz, q_app, q_eq, q_bnd, q_str, w64', Option.bind_some, Option.bind_none, List.length_cons, List.length_nil, List.length_append, Nat.zero_add, if_pos, if_neg, decide_true, decide_false, if_true, if_false, Bool.not_true, Bool.not_false, Bool.false_eq_true, Bool.true_eq_false, not_true_eq_false, not_false_eq_true, reduceIte, List.nil_append, k_IndexFuncMat, h]

/-- What is wrong with the material of a number. -/
def matBad (l : List Mat) (i : Nat) : Int :=
  if ¬ isNm (gi l (i : Int)).1 then 4 else if 0 ≤ idxTo (isMat l (gi l (i : Int)).1) i then 5 else if ¬ (1 ≤ (gi l (i : Int)).2.1 ∧ (gi l (i : Int)).2.1 ≤ (gi l (i : Int)).2.2) then 2 else if 1000000 < (gi l (i : Int)).2.2 then 2 else 0
def matsE (l : List Mat) : Int := if (40 : Int) < l.length then 8 else firstErr (matBad l) l.length
/-- Names are short enough for any machine. -/
abbrev NmOk (l : List Mat) : Prop := ∀ i : Nat, i < l.length → (gi l (i : Int)).1.length ≤ 1048576

theorem gi_part {α : Type} [Inhabited α] {l : List α} {i j : Nat} (h : j < i) : gi (part l 0 i) (j : Int) = gi l (j : Int) := by
  simp [gi, part, List.getD, List.getElem?_take, h]
theorem part_len {α : Type} {l : List α} {i : Nat} (h : i ≤ l.length) : (part l 0 (i : Int)).length = i := by
  simp [part]; omega

theorem k_rCheckMaterials {l : List Mat} (hl : l.length ≤ 1048576) (hn : NmOk l) : ref08xCheckMaterials l = some ((matsE l, ()), ()) := by
  simp only [ref08xCheckMaterials, T_ref08xCheckMaterials, matsE]
  by_cases h40 : (40 : Int) < l.length
  · simp (maxSteps := 1000000) (disch := first | omega | assumption) only [r_ret, r_br, decide_eq_true_eq, Bool.not_eq_eq_eq_not, decide_eq_false_iff_not, ite_not, q_true, r_bind, r_iter, q_inB, q_nz, q_app, q_eq, q_bnd, q_str, w64', Option.bind_some, Option.bind_none, List.length_cons, List.length_nil, List.length_append, Nat.zero_add, if_pos, if_neg, decide_true, decide_false, if_true, if_false, Bool.not_true, Bool.not_false, Bool.false_eq_true, Bool.true_eq_false, not_true_eq_false, not_false_eq_true, reduceIte, List.nil_append, h40]
  simp (maxSteps := 1000000) (disch := first | omega | assumption) only [r_ret, r_br, decide_eq_true_eq, Bool.not_eq_eq_eq_not, decide_eq_false_iff_not, ite_not, q_true, r_bind, r_iter, q_inB, q_nz, q_app, q_eq, q_bnd, q_str, w64', Option.bind_some, Option.bind_none, List.length_cons, List.length_nil, List.length_append, Nat.zero_add, if_pos, if_neg, decide_true, decide_false, if_true, if_false, Bool.not_true, Bool.not_false, Bool.false_eq_true, Bool.true_eq_false, not_true_eq_false, not_false_eq_true, reduceIte, List.nil_append, h40]
  refine iter_err (fun i => ((i : Int), ())) (matBad l) l.length (by omega) (fun e => ((e, ()), ())) ?_ ?_ ?_
  all_goals simp only [T_ref08xCheckMaterials_l0]
  · intro i hi hp hb
    have hni := hn i hi
    have hfm := k_FindMaterial (l := part l 0 (i : Int)) (by rw [part_len (by omega)]; omega) (gi l (i : Int)).1
    have e : matIx (part l 0 (i : Int)) (gi l (i : Int)).1 = idxTo (isMat l (gi l (i : Int)).1) i := by
      rw [matIx, part_len (by omega)]
      exact idxTo_congr fun j hj => by simp only [isMat, gi_part hj]
    rw [e] at hfm
    unfold matBad at hb ⊢
    by_cases c1 : isNm (gi l (i : Int)).1
    · by_cases c2 : 0 ≤ idxTo (isMat l (gi l (i : Int)).1) i
      · simp (maxSteps := 1000000) (disch := first | omega | assumption) only [r_ret, r_br, decide_eq_true_eq, Bool.not_eq_eq_eq_not, decide_eq_false_iff_not, ite_not, q_true, r_bind, r_iter, q_inB, q_nz, q_app, q_eq, q_bnd, q_str, w64', Option.bind_some, Option.bind_none, List.length_cons, List.length_nil, List.length_append, Nat.zero_add, if_pos, if_neg, decide_true, decide_false, if_true, if_false, Bool.not_true, Bool.not_false, Bool.false_eq_true, Bool.true_eq_false, not_true_eq_false, not_false_eq_true, reduceIte, List.nil_append, k_IsName, c1, hfm, c2]
      · by_cases c3 : 1 ≤ (gi l (i : Int)).2.1 ∧ (gi l (i : Int)).2.1 ≤ (gi l (i : Int)).2.2
        · by_cases c4 : 1000000 < (gi l (i : Int)).2.2
          · simp (maxSteps := 1000000) (disch := first | omega | assumption) only [r_ret, r_br, decide_eq_true_eq, Bool.not_eq_eq_eq_not, decide_eq_false_iff_not, ite_not, q_true, r_bind, r_iter, q_inB, q_nz, q_app, q_eq, q_bnd, q_str, w64', Option.bind_some, Option.bind_none, List.length_cons, List.length_nil, List.length_append, Nat.zero_add, if_pos, if_neg, decide_true, decide_false, if_true, if_false, Bool.not_true, Bool.not_false, Bool.false_eq_true, Bool.true_eq_false, not_true_eq_false, not_false_eq_true, reduceIte, List.nil_append, k_IsName, c1, hfm, c2, k_Within, c3, c4, and_self]
          · exact absurd (by simp [c1, c2, c3, c4]) hb
        · simp (maxSteps := 1000000) (disch := first | omega | assumption) only [r_ret, r_br, decide_eq_true_eq, Bool.not_eq_eq_eq_not, decide_eq_false_iff_not, ite_not, q_true, r_bind, r_iter, q_inB, q_nz, q_app, q_eq, q_bnd, q_str, w64', Option.bind_some, Option.bind_none, List.length_cons, List.length_nil, List.length_append, Nat.zero_add, if_pos, if_neg, decide_true, decide_false, if_true, if_false, Bool.not_true, Bool.not_false, Bool.false_eq_true, Bool.true_eq_false, not_true_eq_false, not_false_eq_true, reduceIte, List.nil_append, k_IsName, c1, hfm, c2, k_Within, c3]
    · simp (maxSteps := 1000000) (disch := first | omega | assumption) only [r_ret, r_br, decide_eq_true_eq, Bool.not_eq_eq_eq_not, decide_eq_false_iff_not, ite_not, q_true, r_bind, r_iter, q_inB, q_nz, q_app, q_eq, q_bnd, q_str, w64', Option.bind_some, Option.bind_none, List.length_cons, List.length_nil, List.length_append, Nat.zero_add, if_pos, if_neg, decide_true, decide_false, if_true, if_false, Bool.not_true, Bool.not_false, Bool.false_eq_true, Bool.true_eq_false, not_true_eq_false, not_false_eq_true, reduceIte, List.nil_append, k_IsName, c1]
  · intro i hi hp hb
    have hni := hn i hi
    have hfm := k_FindMaterial (l := part l 0 (i : Int)) (by rw [part_len (by omega)]; omega) (gi l (i : Int)).1
    have e : matIx (part l 0 (i : Int)) (gi l (i : Int)).1 = idxTo (isMat l (gi l (i : Int)).1) i := by
      rw [matIx, part_len (by omega)]
      exact idxTo_congr fun j hj => by simp only [isMat, gi_part hj]
    rw [e] at hfm
    unfold matBad at hb
    by_cases c1 : isNm (gi l (i : Int)).1
    · by_cases c2 : 0 ≤ idxTo (isMat l (gi l (i : Int)).1) i
      · simp [c1, c2] at hb
      · by_cases c3 : 1 ≤ (gi l (i : Int)).2.1 ∧ (gi l (i : Int)).2.1 ≤ (gi l (i : Int)).2.2
        · by_cases c4 : 1000000 < (gi l (i : Int)).2.2
          · simp [c1, c2, c3, c4] at hb
          · simp (maxSteps := 1000000) (disch := first | omega | assumption) only [r_ret, r_br, decide_eq_true_eq, Bool.not_eq_eq_eq_not, decide_eq_false_iff_not, ite_not, q_true, r_bind, r_iter, q_inB, q_nz, q_app, q_eq, q_bnd, q_str, w64', Option.bind_some, Option.bind_none, List.length_cons, List.length_nil, List.length_append, Nat.zero_add, if_pos, if_neg, decide_true, decide_false, if_true, if_false, Bool.not_true, Bool.not_false, Bool.false_eq_true, Bool.true_eq_false, not_true_eq_false, not_false_eq_true, reduceIte, List.nil_append, k_IsName, c1, hfm, c2, k_Within, c3, c4, and_self]
            rfl
        · exact absurd hb (by simp only [c1, c2, c3, not_true_eq_false, if_false, not_false_eq_true, if_true]; decide)
    · simp [c1] at hb
  · intro _
    simp (maxSteps := 1000000) (disch := first | omega | assumption) only [r_ret, r_br, decide_eq_true_eq, Bool.not_eq_eq_eq_not, decide_eq_false_iff_not, ite_not, q_true, r_bind, r_iter, q_inB, q_nz, q_app, q_eq, q_bnd, q_str, w64', Option.bind_some, Option.bind_none, List.length_cons, List.length_nil, List.length_append, Nat.zero_add, if_pos, if_neg, decide_true, decide_false, if_true, if_false, Bool.not_true, Bool.not_false, Bool.false_eq_true, Bool.true_eq_false, not_true_eq_false, not_false_eq_true, reduceIte, List.nil_append, ]
end Go.Ab
