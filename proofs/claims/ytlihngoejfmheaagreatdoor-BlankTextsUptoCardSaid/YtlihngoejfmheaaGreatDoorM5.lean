/- One line of a blank's text, as the reference reads it. Printed by gen_m5.py. -/
import Derived.Test.YtlihngoejfmheaaGreatDoorM4
namespace Go.Ab
open Go
set_option maxRecDepth 1000000
set_option maxHeartbeats 4000000
set_option linter.unusedVariables false
set_option linter.unusedSimpArgs false
section
variable {x : List UInt8} {w0 : List UInt8} {rest : List (List UInt8)} {g : Gla} {num : Int}
theorem ne_num {a b : Bool} (h : a = b) : (a != b) = false := by rw [h]; cases b <;> rfl
theorem ne_num' {a b : Bool} (h : a ≠ b) : (a != b) = true := by cases a <;> cases b <;> first | rfl | exact absurd rfl h

theorem ln_glass (hs : base_Cut x 32 = some ((w0 :: rest, ()), ())) (hr : rest.length ≤ 1048576) (hw : ∀ w ∈ rest, w.length ≤ 1048576) (hp : g.2.2.1.length ≤ 1048576) (hc : g.2.2.2.length ≤ 1048576) (h0 : w0 = wGlass) : ROut (ref03xline x num ((g.1, g.2.1), g.2.2.1, g.2.2.2, ()) (g.2.2.1.length : Int) (g.2.2.2.length : Int)) (if num = 0 then lnGlass g rest else none) := by
  have hn : ref03xints (part (w0 :: rest) 1 ((w0 :: rest).length : Int)) = some (outI (numsS rest), ()) := by rw [part_tail]; exact k_ints hr hw
  show ROut (T_ref03xline x num _ _ _).run _
  unfold T_ref03xline
  refine ROut.trans (r_bs (hs)) ?_
  refine ROut.trans (q_of (inB_t' (by omega) (by simp <;> omega))) ?_
  refine ROut.trans (q_of (bnd_t' (by omega) (by simp <;> omega) (Int.le_refl _))) ?_
  refine ROut.trans (br_f (decide_eq_false (show ¬ w0 = wCap by rw [h0]; decide))) ?_
  refine ROut.trans (br_f (decide_eq_false (show ¬ w0 = wDish by rw [h0]; decide))) ?_
  refine ROut.trans (r_bs (hn)) ?_
  cases hq : numsS rest with
  | none =>
    have : (if num = 0 then lnGlass g rest else none) = none := by unfold lnGlass; rw [hq]; split <;> rfl
    rw [this]
    refine ROut.trans (br_t rfl) ?_
    exact ROut.no (r_ret _)
  | some ns =>
    by_cases hz : num = 0
    · rw [if_pos hz]
      have hne : (decide (w0 = wGlass) != decide (num = 0)) = false := ne_num (by rw [decide_eq_true h0, decide_eq_true hz])
      by_cases h2 : ns.length = 2
      · obtain ⟨a, b, rfl⟩ := len2 h2
        have : lnGlass g rest = some (a, b, g.2.2.1, g.2.2.2) := by unfold lnGlass; rw [hq]
        rw [this]
        refine ROut.trans (br_f rfl) ?_
        refine ROut.trans (br_f hne) ?_
        refine ROut.trans (br_t (decide_eq_true (show w0 = wGlass from h0))) ?_
        refine ROut.trans (br_t rfl) ?_
        refine ROut.trans (q_of rfl) ?_
        refine ROut.trans (q_of rfl) ?_
        exact (r_ret _).trans rfl
      · have hd2 : decide ((ns.length : Int) = 2) = false := decide_eq_false (by omega)
        rw [lnGlass_no hq h2]
        refine ROut.trans (br_f rfl) ?_
        refine ROut.trans (br_f hne) ?_
        refine ROut.trans (br_t (decide_eq_true (show w0 = wGlass from h0))) ?_
        refine ROut.trans (br_f hd2) ?_
        refine ROut.trans (br_f (decide_eq_false (show ¬ w0 = wRing by rw [h0]; decide))) ?_
        refine ROut.trans (br_f (decide_eq_false (show ¬ w0 = wCut by rw [h0]; decide))) ?_
        refine ROut.trans (br_f rfl) ?_
        refine ROut.trans (br_f rfl) ?_
        exact ROut.no (r_ret _)
    · rw [if_neg hz]
      have hne : (decide (w0 = wGlass) != decide (num = 0)) = true := ne_num' (by rw [decide_eq_true h0, decide_eq_false hz]; decide)
      refine ROut.trans (br_f rfl) ?_
      refine ROut.trans (br_t hne) ?_
      exact ROut.no (r_ret _)
theorem ln_ring (hs : base_Cut x 32 = some ((w0 :: rest, ()), ())) (hr : rest.length ≤ 1048576) (hw : ∀ w ∈ rest, w.length ≤ 1048576) (hp : g.2.2.1.length ≤ 1048576) (hc : g.2.2.2.length ≤ 1048576) (h0 : w0 = wRing) : ROut (ref03xline x num ((g.1, g.2.1), g.2.2.1, g.2.2.2, ()) (g.2.2.1.length : Int) (g.2.2.2.length : Int)) (if num = 0 then none else lnPart g (decide (w0 = wCut)) rest) := by
  have hn : ref03xints (part (w0 :: rest) 1 ((w0 :: rest).length : Int)) = some (outI (numsS rest), ()) := by rw [part_tail]; exact k_ints hr hw
  show ROut (T_ref03xline x num _ _ _).run _
  unfold T_ref03xline
  refine ROut.trans (r_bs (hs)) ?_
  refine ROut.trans (q_of (inB_t' (by omega) (by simp <;> omega))) ?_
  refine ROut.trans (q_of (bnd_t' (by omega) (by simp <;> omega) (Int.le_refl _))) ?_
  refine ROut.trans (br_f (decide_eq_false (show ¬ w0 = wCap by rw [h0]; decide))) ?_
  refine ROut.trans (br_f (decide_eq_false (show ¬ w0 = wDish by rw [h0]; decide))) ?_
  refine ROut.trans (r_bs (hn)) ?_
  cases hq : numsS rest with
  | none =>
    have : (if num = 0 then none else lnPart g (decide (w0 = wCut)) rest) = none := by unfold lnPart; rw [hq]; split <;> rfl
    rw [this]
    refine ROut.trans (br_t rfl) ?_
    exact ROut.no (r_ret _)
  | some ns =>
    by_cases hz : num = 0
    · rw [if_pos hz]
      have hne : (decide (w0 = wGlass) != decide (num = 0)) = true := ne_num' (by rw [decide_eq_false (show ¬ w0 = wGlass by rw [h0]; decide), decide_eq_true hz]; decide)
      refine ROut.trans (br_f rfl) ?_
      refine ROut.trans (br_t hne) ?_
      exact ROut.no (r_ret _)
    · rw [if_neg hz]
      have hne : (decide (w0 = wGlass) != decide (num = 0)) = false := ne_num (by rw [decide_eq_false (show ¬ w0 = wGlass by rw [h0]; decide), decide_eq_false hz])
      by_cases h5 : ns.length = 5
      · obtain ⟨a, b, c, d, e, rfl⟩ := len5 h5
        by_cases h00 : g.2.2.2.length = 0
        · have : lnPart g (decide (w0 = wCut)) rest = some (g.1, g.2.1, g.2.2.1 ++ [(a, b, c, d, e, decide (w0 = wCut))], g.2.2.2) := by unfold lnPart; rw [hq]; exact if_pos h00
          have hcc : decide ((g.2.2.2.length : Int) = 0) = true := decide_eq_true (by omega)
          rw [this]
          refine ROut.trans (br_f rfl) ?_
          refine ROut.trans (br_f hne) ?_
          refine ROut.trans (br_f (decide_eq_false (show ¬ w0 = wGlass by rw [h0]; decide))) ?_
          refine ROut.trans (br_t (decide_eq_true (show w0 = wRing from h0))) ?_
          refine ROut.trans (br_t rfl) ?_
          refine ROut.trans (br_t hcc) ?_
          refine ROut.trans (q_of rfl) ?_
          refine ROut.trans (q_of rfl) ?_
          refine ROut.trans (q_of rfl) ?_
          refine ROut.trans (q_of rfl) ?_
          refine ROut.trans (q_of rfl) ?_
          refine ROut.trans (q_of (decide_eq_true rfl)) ?_
          refine ROut.trans (q_of (app_t' (by simp <;> omega) (by simp <;> omega))) ?_
          refine (r_ret _).trans ?_
          unfold outB
          rw [List.length_append]
          rfl
        · have : lnPart g (decide (w0 = wCut)) rest = none := by unfold lnPart; rw [hq]; exact if_neg h00
          have hcc : decide ((g.2.2.2.length : Int) = 0) = false := decide_eq_false (by omega)
          rw [this]
          refine ROut.trans (br_f rfl) ?_
          refine ROut.trans (br_f hne) ?_
          refine ROut.trans (br_f (decide_eq_false (show ¬ w0 = wGlass by rw [h0]; decide))) ?_
          refine ROut.trans (br_t (decide_eq_true (show w0 = wRing from h0))) ?_
          refine ROut.trans (br_t rfl) ?_
          refine ROut.trans (br_f hcc) ?_
          refine ROut.trans (br_f rfl) ?_
          refine ROut.trans (br_f rfl) ?_
          exact ROut.no (r_ret _)
      · have hd5 : decide ((ns.length : Int) = 5) = false := decide_eq_false (by omega)
        rw [lnPart_no hq h5]
        refine ROut.trans (br_f rfl) ?_
        refine ROut.trans (br_f hne) ?_
        refine ROut.trans (br_f (decide_eq_false (show ¬ w0 = wGlass by rw [h0]; decide))) ?_
        refine ROut.trans (br_t (decide_eq_true (show w0 = wRing from h0))) ?_
        refine ROut.trans (br_f hd5) ?_
        refine ROut.trans (br_f rfl) ?_
        refine ROut.trans (br_f rfl) ?_
        exact ROut.no (r_ret _)
theorem ln_cut (hs : base_Cut x 32 = some ((w0 :: rest, ()), ())) (hr : rest.length ≤ 1048576) (hw : ∀ w ∈ rest, w.length ≤ 1048576) (hp : g.2.2.1.length ≤ 1048576) (hc : g.2.2.2.length ≤ 1048576) (h0 : w0 = wCut) : ROut (ref03xline x num ((g.1, g.2.1), g.2.2.1, g.2.2.2, ()) (g.2.2.1.length : Int) (g.2.2.2.length : Int)) (if num = 0 then none else lnPart g (decide (w0 = wCut)) rest) := by
  have hn : ref03xints (part (w0 :: rest) 1 ((w0 :: rest).length : Int)) = some (outI (numsS rest), ()) := by rw [part_tail]; exact k_ints hr hw
  show ROut (T_ref03xline x num _ _ _).run _
  unfold T_ref03xline
  refine ROut.trans (r_bs (hs)) ?_
  refine ROut.trans (q_of (inB_t' (by omega) (by simp <;> omega))) ?_
  refine ROut.trans (q_of (bnd_t' (by omega) (by simp <;> omega) (Int.le_refl _))) ?_
  refine ROut.trans (br_f (decide_eq_false (show ¬ w0 = wCap by rw [h0]; decide))) ?_
  refine ROut.trans (br_f (decide_eq_false (show ¬ w0 = wDish by rw [h0]; decide))) ?_
  refine ROut.trans (r_bs (hn)) ?_
  cases hq : numsS rest with
  | none =>
    have : (if num = 0 then none else lnPart g (decide (w0 = wCut)) rest) = none := by unfold lnPart; rw [hq]; split <;> rfl
    rw [this]
    refine ROut.trans (br_t rfl) ?_
    exact ROut.no (r_ret _)
  | some ns =>
    by_cases hz : num = 0
    · rw [if_pos hz]
      have hne : (decide (w0 = wGlass) != decide (num = 0)) = true := ne_num' (by rw [decide_eq_false (show ¬ w0 = wGlass by rw [h0]; decide), decide_eq_true hz]; decide)
      refine ROut.trans (br_f rfl) ?_
      refine ROut.trans (br_t hne) ?_
      exact ROut.no (r_ret _)
    · rw [if_neg hz]
      have hne : (decide (w0 = wGlass) != decide (num = 0)) = false := ne_num (by rw [decide_eq_false (show ¬ w0 = wGlass by rw [h0]; decide), decide_eq_false hz])
      by_cases h5 : ns.length = 5
      · obtain ⟨a, b, c, d, e, rfl⟩ := len5 h5
        by_cases h00 : g.2.2.2.length = 0
        · have : lnPart g (decide (w0 = wCut)) rest = some (g.1, g.2.1, g.2.2.1 ++ [(a, b, c, d, e, decide (w0 = wCut))], g.2.2.2) := by unfold lnPart; rw [hq]; exact if_pos h00
          have hcc : decide ((g.2.2.2.length : Int) = 0) = true := decide_eq_true (by omega)
          rw [this]
          refine ROut.trans (br_f rfl) ?_
          refine ROut.trans (br_f hne) ?_
          refine ROut.trans (br_f (decide_eq_false (show ¬ w0 = wGlass by rw [h0]; decide))) ?_
          refine ROut.trans (br_f (decide_eq_false (show ¬ w0 = wRing by rw [h0]; decide))) ?_
          refine ROut.trans (br_t (decide_eq_true (show w0 = wCut from h0))) ?_
          refine ROut.trans (br_t rfl) ?_
          refine ROut.trans (br_t hcc) ?_
          refine ROut.trans (q_of rfl) ?_
          refine ROut.trans (q_of rfl) ?_
          refine ROut.trans (q_of rfl) ?_
          refine ROut.trans (q_of rfl) ?_
          refine ROut.trans (q_of rfl) ?_
          refine ROut.trans (q_of (decide_eq_true rfl)) ?_
          refine ROut.trans (q_of (app_t' (by simp <;> omega) (by simp <;> omega))) ?_
          refine (r_ret _).trans ?_
          unfold outB
          rw [List.length_append]
          rfl
        · have : lnPart g (decide (w0 = wCut)) rest = none := by unfold lnPart; rw [hq]; exact if_neg h00
          have hcc : decide ((g.2.2.2.length : Int) = 0) = false := decide_eq_false (by omega)
          rw [this]
          refine ROut.trans (br_f rfl) ?_
          refine ROut.trans (br_f hne) ?_
          refine ROut.trans (br_f (decide_eq_false (show ¬ w0 = wGlass by rw [h0]; decide))) ?_
          refine ROut.trans (br_f (decide_eq_false (show ¬ w0 = wRing by rw [h0]; decide))) ?_
          refine ROut.trans (br_t (decide_eq_true (show w0 = wCut from h0))) ?_
          refine ROut.trans (br_t rfl) ?_
          refine ROut.trans (br_f hcc) ?_
          refine ROut.trans (br_f rfl) ?_
          refine ROut.trans (br_f rfl) ?_
          exact ROut.no (r_ret _)
      · have hd5 : decide ((ns.length : Int) = 5) = false := decide_eq_false (by omega)
        rw [lnPart_no hq h5]
        refine ROut.trans (br_f rfl) ?_
        refine ROut.trans (br_f hne) ?_
        refine ROut.trans (br_f (decide_eq_false (show ¬ w0 = wGlass by rw [h0]; decide))) ?_
        refine ROut.trans (br_f (decide_eq_false (show ¬ w0 = wRing by rw [h0]; decide))) ?_
        refine ROut.trans (br_t (decide_eq_true (show w0 = wCut from h0))) ?_
        refine ROut.trans (br_f hd5) ?_
        refine ROut.trans (br_f rfl) ?_
        refine ROut.trans (br_f rfl) ?_
        exact ROut.no (r_ret _)
theorem lnCap_len {cut : Bool} (h : rest.length ≠ 4) : lnCap g cut rest = none := by
  unfold lnCap
  split
  · exact absurd rfl h
  · rfl

theorem ln_capN (hs : base_Cut x 32 = some ((w0 :: rest, ()), ())) (h4l : rest.length ≠ 4) (h0 : w0 = wCap) : ROut (ref03xline x num ((g.1, g.2.1), g.2.2.1, g.2.2.2, ()) (g.2.2.1.length : Int) (g.2.2.2.length : Int)) (if num = 0 then none else lnCap g (decide (w0 = wDish)) rest) := by
  have : (if num = 0 then none else lnCap g (decide (w0 = wDish)) rest) = none := by rw [lnCap_len h4l]; split <;> rfl
  rw [this]
  have h4 : (!decide (((part (w0 :: rest) 1 ((w0 :: rest).length : Int)).length : Int) = 4)) = true := by rw [part_tail]; exact nd' (by omega)
  show ROut (T_ref03xline x num _ _ _).run _
  unfold T_ref03xline
  refine ROut.trans (r_bs (hs)) ?_
  refine ROut.trans (q_of (inB_t' (by omega) (by simp <;> omega))) ?_
  refine ROut.trans (q_of (bnd_t' (by omega) (by simp <;> omega) (Int.le_refl _))) ?_
  refine ROut.trans (br_t (decide_eq_true (show w0 = wCap from h0))) ?_
  refine ROut.trans (br_t h4) ?_
  exact ROut.no (r_ret _)
theorem ln_cap {x1 y1 z1 way : List UInt8} (hs : base_Cut x 32 = some ((w0 :: [x1, y1, z1, way], ()), ())) (hw : ∀ w ∈ [x1, y1, z1], w.length ≤ 1048576) (hp : g.2.2.1.length ≤ 1048576) (hc : g.2.2.2.length ≤ 1048576) (h0 : w0 = wCap) : ROut (ref03xline x num ((g.1, g.2.1), g.2.2.1, g.2.2.2, ()) (g.2.2.1.length : Int) (g.2.2.2.length : Int)) (if num = 0 then none else lnCap g (decide (w0 = wDish)) [x1, y1, z1, way]) := by
  have hn : ref03xints (part (part (w0 :: [x1, y1, z1, way]) 1 ((w0 :: [x1, y1, z1, way]).length : Int)) 0 3) = some (outI (numsS [x1, y1, z1]), ()) := (by have := k_ints (l := [x1, y1, z1]) (by simp) hw; exact this)
  show ROut (T_ref03xline x num _ _ _).run _
  unfold T_ref03xline
  refine ROut.trans (r_bs (hs)) ?_
  refine ROut.trans (q_of (inB_t' (by omega) (by simp <;> omega))) ?_
  refine ROut.trans (q_of (bnd_t' (by omega) (by simp <;> omega) (Int.le_refl _))) ?_
  refine ROut.trans (br_t (decide_eq_true (show w0 = wCap from h0))) ?_
  refine ROut.trans (br_f rfl) ?_
  refine ROut.trans (q_of rfl) ?_
  refine ROut.trans (q_of rfl) ?_
  refine ROut.trans (r_bs (hn)) ?_
  cases hq : numsS [x1, y1, z1] with
  | none =>
    have : (if num = 0 then none else lnCap g (decide (w0 = wDish)) [x1, y1, z1, way]) = none := by unfold lnCap; simp only [hq]; split <;> first | rfl | (split <;> rfl)
    rw [this]
    refine ROut.trans (br_t rfl) ?_
    exact ROut.no (r_ret _)
  | some ns =>
    obtain ⟨a, b, c, rfl⟩ := len3 (numsS_len hq)
    have hd2 : decide ((([a, b, c] : List Int).length : Int) = 2) = false := rfl
    have hd5 : decide ((([a, b, c] : List Int).length : Int) = 5) = false := rfl
    by_cases hz : num = 0
    · rw [if_pos hz]
      have hne : (decide (w0 = wGlass) != decide (num = 0)) = true := ne_num' (by rw [decide_eq_false (show ¬ w0 = wGlass by rw [h0]; decide), decide_eq_true hz]; decide)
      refine ROut.trans (br_f rfl) ?_
      refine ROut.trans (br_t hne) ?_
      exact ROut.no (r_ret _)
    · rw [if_neg hz]
      have hne : (decide (w0 = wGlass) != decide (num = 0)) = false := ne_num (by rw [decide_eq_false (show ¬ w0 = wGlass by rw [h0]; decide), decide_eq_false hz])
      by_cases hy : way = wUp
      · have : lnCap g (decide (w0 = wDish)) [x1, y1, z1, way] = some (g.1, g.2.1, g.2.2.1, g.2.2.2 ++ [(a, b, c, decide (way = wUp), decide (w0 = wDish))]) := by
          show (if way = wUp ∨ way = wDown then _ else none) = _
          rw [if_pos (.inl hy), hq]
        rw [this]
        refine ROut.trans (br_f rfl) ?_
        refine ROut.trans (br_f hne) ?_
        refine ROut.trans (br_f (decide_eq_false (show ¬ w0 = wGlass by rw [h0]; decide))) ?_
        refine ROut.trans (br_f (decide_eq_false (show ¬ w0 = wRing by rw [h0]; decide))) ?_
        refine ROut.trans (br_f (decide_eq_false (show ¬ w0 = wCut by rw [h0]; decide))) ?_
        refine ROut.trans (br_t (decide_eq_true (show way = wUp from hy))) ?_
        refine ROut.trans (q_of rfl) ?_
        refine ROut.trans (q_of rfl) ?_
        refine ROut.trans (q_of rfl) ?_
        refine ROut.trans (q_of (decide_eq_true rfl)) ?_
        refine ROut.trans (q_of (app_t' (by simp <;> omega) (by simp <;> omega))) ?_
        refine (r_ret _).trans ?_
        unfold outB
        rw [List.length_append]
        rfl
      have nU := hy; clear hy
      by_cases hy : way = wDown
      · have : lnCap g (decide (w0 = wDish)) [x1, y1, z1, way] = some (g.1, g.2.1, g.2.2.1, g.2.2.2 ++ [(a, b, c, decide (way = wUp), decide (w0 = wDish))]) := by
          show (if way = wUp ∨ way = wDown then _ else none) = _
          rw [if_pos (.inr hy), hq]
        rw [this]
        refine ROut.trans (br_f rfl) ?_
        refine ROut.trans (br_f hne) ?_
        refine ROut.trans (br_f (decide_eq_false (show ¬ w0 = wGlass by rw [h0]; decide))) ?_
        refine ROut.trans (br_f (decide_eq_false (show ¬ w0 = wRing by rw [h0]; decide))) ?_
        refine ROut.trans (br_f (decide_eq_false (show ¬ w0 = wCut by rw [h0]; decide))) ?_
        refine ROut.trans (br_f (decide_eq_false (show ¬ way = wUp from nU))) ?_
        refine ROut.trans (br_t (decide_eq_true (show way = wDown from hy))) ?_
        refine ROut.trans (q_of rfl) ?_
        refine ROut.trans (q_of rfl) ?_
        refine ROut.trans (q_of rfl) ?_
        refine ROut.trans (q_of (decide_eq_true rfl)) ?_
        refine ROut.trans (q_of (app_t' (by simp <;> omega) (by simp <;> omega))) ?_
        refine (r_ret _).trans ?_
        unfold outB
        rw [List.length_append]
        rfl
      have nW := hy; clear hy
      rw [show lnCap g (decide (w0 = wDish)) [x1, y1, z1, way] = none from if_neg (by rintro (h | h); exact nU h; exact nW h)]
      refine ROut.trans (br_f rfl) ?_
      refine ROut.trans (br_f hne) ?_
      refine ROut.trans (br_f (decide_eq_false (show ¬ w0 = wGlass by rw [h0]; decide))) ?_
      refine ROut.trans (br_f (decide_eq_false (show ¬ w0 = wRing by rw [h0]; decide))) ?_
      refine ROut.trans (br_f (decide_eq_false (show ¬ w0 = wCut by rw [h0]; decide))) ?_
      refine ROut.trans (br_f (decide_eq_false (show ¬ way = wUp from nU))) ?_
      refine ROut.trans (br_f (decide_eq_false (show ¬ way = wDown from nW))) ?_
      exact ROut.no (r_ret _)
theorem ln_dishN (hs : base_Cut x 32 = some ((w0 :: rest, ()), ())) (h4l : rest.length ≠ 4) (h0 : w0 = wDish) : ROut (ref03xline x num ((g.1, g.2.1), g.2.2.1, g.2.2.2, ()) (g.2.2.1.length : Int) (g.2.2.2.length : Int)) (if num = 0 then none else lnCap g (decide (w0 = wDish)) rest) := by
  have : (if num = 0 then none else lnCap g (decide (w0 = wDish)) rest) = none := by rw [lnCap_len h4l]; split <;> rfl
  rw [this]
  have h4 : (!decide (((part (w0 :: rest) 1 ((w0 :: rest).length : Int)).length : Int) = 4)) = true := by rw [part_tail]; exact nd' (by omega)
  show ROut (T_ref03xline x num _ _ _).run _
  unfold T_ref03xline
  refine ROut.trans (r_bs (hs)) ?_
  refine ROut.trans (q_of (inB_t' (by omega) (by simp <;> omega))) ?_
  refine ROut.trans (q_of (bnd_t' (by omega) (by simp <;> omega) (Int.le_refl _))) ?_
  refine ROut.trans (br_f (decide_eq_false (show ¬ w0 = wCap by rw [h0]; decide))) ?_
  refine ROut.trans (br_t (decide_eq_true (show w0 = wDish from h0))) ?_
  refine ROut.trans (br_t h4) ?_
  exact ROut.no (r_ret _)
theorem ln_dish {x1 y1 z1 way : List UInt8} (hs : base_Cut x 32 = some ((w0 :: [x1, y1, z1, way], ()), ())) (hw : ∀ w ∈ [x1, y1, z1], w.length ≤ 1048576) (hp : g.2.2.1.length ≤ 1048576) (hc : g.2.2.2.length ≤ 1048576) (h0 : w0 = wDish) : ROut (ref03xline x num ((g.1, g.2.1), g.2.2.1, g.2.2.2, ()) (g.2.2.1.length : Int) (g.2.2.2.length : Int)) (if num = 0 then none else lnCap g (decide (w0 = wDish)) [x1, y1, z1, way]) := by
  have hn : ref03xints (part (part (w0 :: [x1, y1, z1, way]) 1 ((w0 :: [x1, y1, z1, way]).length : Int)) 0 3) = some (outI (numsS [x1, y1, z1]), ()) := (by have := k_ints (l := [x1, y1, z1]) (by simp) hw; exact this)
  show ROut (T_ref03xline x num _ _ _).run _
  unfold T_ref03xline
  refine ROut.trans (r_bs (hs)) ?_
  refine ROut.trans (q_of (inB_t' (by omega) (by simp <;> omega))) ?_
  refine ROut.trans (q_of (bnd_t' (by omega) (by simp <;> omega) (Int.le_refl _))) ?_
  refine ROut.trans (br_f (decide_eq_false (show ¬ w0 = wCap by rw [h0]; decide))) ?_
  refine ROut.trans (br_t (decide_eq_true (show w0 = wDish from h0))) ?_
  refine ROut.trans (br_f rfl) ?_
  refine ROut.trans (q_of rfl) ?_
  refine ROut.trans (q_of rfl) ?_
  refine ROut.trans (r_bs (hn)) ?_
  cases hq : numsS [x1, y1, z1] with
  | none =>
    have : (if num = 0 then none else lnCap g (decide (w0 = wDish)) [x1, y1, z1, way]) = none := by unfold lnCap; simp only [hq]; split <;> first | rfl | (split <;> rfl)
    rw [this]
    refine ROut.trans (br_t rfl) ?_
    exact ROut.no (r_ret _)
  | some ns =>
    obtain ⟨a, b, c, rfl⟩ := len3 (numsS_len hq)
    have hd2 : decide ((([a, b, c] : List Int).length : Int) = 2) = false := rfl
    have hd5 : decide ((([a, b, c] : List Int).length : Int) = 5) = false := rfl
    by_cases hz : num = 0
    · rw [if_pos hz]
      have hne : (decide (w0 = wGlass) != decide (num = 0)) = true := ne_num' (by rw [decide_eq_false (show ¬ w0 = wGlass by rw [h0]; decide), decide_eq_true hz]; decide)
      refine ROut.trans (br_f rfl) ?_
      refine ROut.trans (br_t hne) ?_
      exact ROut.no (r_ret _)
    · rw [if_neg hz]
      have hne : (decide (w0 = wGlass) != decide (num = 0)) = false := ne_num (by rw [decide_eq_false (show ¬ w0 = wGlass by rw [h0]; decide), decide_eq_false hz])
      by_cases hy : way = wUp
      · have : lnCap g (decide (w0 = wDish)) [x1, y1, z1, way] = some (g.1, g.2.1, g.2.2.1, g.2.2.2 ++ [(a, b, c, decide (way = wUp), decide (w0 = wDish))]) := by
          show (if way = wUp ∨ way = wDown then _ else none) = _
          rw [if_pos (.inl hy), hq]
        rw [this]
        refine ROut.trans (br_f rfl) ?_
        refine ROut.trans (br_f hne) ?_
        refine ROut.trans (br_f (decide_eq_false (show ¬ w0 = wGlass by rw [h0]; decide))) ?_
        refine ROut.trans (br_f (decide_eq_false (show ¬ w0 = wRing by rw [h0]; decide))) ?_
        refine ROut.trans (br_f (decide_eq_false (show ¬ w0 = wCut by rw [h0]; decide))) ?_
        refine ROut.trans (br_t (decide_eq_true (show way = wUp from hy))) ?_
        refine ROut.trans (q_of rfl) ?_
        refine ROut.trans (q_of rfl) ?_
        refine ROut.trans (q_of rfl) ?_
        refine ROut.trans (q_of (decide_eq_true rfl)) ?_
        refine ROut.trans (q_of (app_t' (by simp <;> omega) (by simp <;> omega))) ?_
        refine (r_ret _).trans ?_
        unfold outB
        rw [List.length_append]
        rfl
      have nU := hy; clear hy
      by_cases hy : way = wDown
      · have : lnCap g (decide (w0 = wDish)) [x1, y1, z1, way] = some (g.1, g.2.1, g.2.2.1, g.2.2.2 ++ [(a, b, c, decide (way = wUp), decide (w0 = wDish))]) := by
          show (if way = wUp ∨ way = wDown then _ else none) = _
          rw [if_pos (.inr hy), hq]
        rw [this]
        refine ROut.trans (br_f rfl) ?_
        refine ROut.trans (br_f hne) ?_
        refine ROut.trans (br_f (decide_eq_false (show ¬ w0 = wGlass by rw [h0]; decide))) ?_
        refine ROut.trans (br_f (decide_eq_false (show ¬ w0 = wRing by rw [h0]; decide))) ?_
        refine ROut.trans (br_f (decide_eq_false (show ¬ w0 = wCut by rw [h0]; decide))) ?_
        refine ROut.trans (br_f (decide_eq_false (show ¬ way = wUp from nU))) ?_
        refine ROut.trans (br_t (decide_eq_true (show way = wDown from hy))) ?_
        refine ROut.trans (q_of rfl) ?_
        refine ROut.trans (q_of rfl) ?_
        refine ROut.trans (q_of rfl) ?_
        refine ROut.trans (q_of (decide_eq_true rfl)) ?_
        refine ROut.trans (q_of (app_t' (by simp <;> omega) (by simp <;> omega))) ?_
        refine (r_ret _).trans ?_
        unfold outB
        rw [List.length_append]
        rfl
      have nW := hy; clear hy
      rw [show lnCap g (decide (w0 = wDish)) [x1, y1, z1, way] = none from if_neg (by rintro (h | h); exact nU h; exact nW h)]
      refine ROut.trans (br_f rfl) ?_
      refine ROut.trans (br_f hne) ?_
      refine ROut.trans (br_f (decide_eq_false (show ¬ w0 = wGlass by rw [h0]; decide))) ?_
      refine ROut.trans (br_f (decide_eq_false (show ¬ w0 = wRing by rw [h0]; decide))) ?_
      refine ROut.trans (br_f (decide_eq_false (show ¬ w0 = wCut by rw [h0]; decide))) ?_
      refine ROut.trans (br_f (decide_eq_false (show ¬ way = wUp from nU))) ?_
      refine ROut.trans (br_f (decide_eq_false (show ¬ way = wDown from nW))) ?_
      exact ROut.no (r_ret _)
theorem ln_other (hs : base_Cut x 32 = some ((w0 :: rest, ()), ())) (hr : rest.length ≤ 1048576) (hw : ∀ w ∈ rest, w.length ≤ 1048576) (hp : g.2.2.1.length ≤ 1048576) (hc : g.2.2.2.length ≤ 1048576) (nG : ¬ w0 = wGlass) (nR : ¬ w0 = wRing) (nC : ¬ w0 = wCut) (nP : ¬ w0 = wCap) (nD : ¬ w0 = wDish) : ROut (ref03xline x num ((g.1, g.2.1), g.2.2.1, g.2.2.2, ()) (g.2.2.1.length : Int) (g.2.2.2.length : Int)) none := by
  have hn : ref03xints (part (w0 :: rest) 1 ((w0 :: rest).length : Int)) = some (outI (numsS rest), ()) := by rw [part_tail]; exact k_ints hr hw
  show ROut (T_ref03xline x num _ _ _).run _
  unfold T_ref03xline
  refine ROut.trans (r_bs (hs)) ?_
  refine ROut.trans (q_of (inB_t' (by omega) (by simp <;> omega))) ?_
  refine ROut.trans (q_of (bnd_t' (by omega) (by simp <;> omega) (Int.le_refl _))) ?_
  refine ROut.trans (br_f (decide_eq_false (show ¬ w0 = wCap from nP))) ?_
  refine ROut.trans (br_f (decide_eq_false (show ¬ w0 = wDish from nD))) ?_
  refine ROut.trans (r_bs (hn)) ?_
  cases hq : numsS rest with
  | none =>
    refine ROut.trans (br_t rfl) ?_
    exact ROut.no (r_ret _)
  | some ns =>
    by_cases hz : num = 0
    · have hne : (decide (w0 = wGlass) != decide (num = 0)) = true := ne_num' (by rw [decide_eq_false nG, decide_eq_true hz]; decide)
      refine ROut.trans (br_f rfl) ?_
      refine ROut.trans (br_t hne) ?_
      exact ROut.no (r_ret _)
    · have hne : (decide (w0 = wGlass) != decide (num = 0)) = false := ne_num (by rw [decide_eq_false nG, decide_eq_false hz])
      refine ROut.trans (br_f rfl) ?_
      refine ROut.trans (br_f hne) ?_
      refine ROut.trans (br_f (decide_eq_false (show ¬ w0 = wGlass from nG))) ?_
      refine ROut.trans (br_f (decide_eq_false (show ¬ w0 = wRing from nR))) ?_
      refine ROut.trans (br_f (decide_eq_false (show ¬ w0 = wCut from nC))) ?_
      refine ROut.trans (br_f rfl) ?_
      refine ROut.trans (br_f rfl) ?_
      exact ROut.no (r_ret _)
theorem k_line (hs : base_Cut x 32 = some ((w0 :: rest, ()), ())) (hr : rest.length ≤ 1048576) (hw : ∀ w ∈ rest, w.length ≤ 1048576) (hp : g.2.2.1.length ≤ 1048576) (hc : g.2.2.2.length ≤ 1048576) : ROut (ref03xline x num ((g.1, g.2.1), g.2.2.1, g.2.2.2, ()) (g.2.2.1.length : Int) (g.2.2.2.length : Int)) (lineW (decide (num = 0)) g w0 rest) := by
  by_cases hz : num = 0
  · rw [decide_eq_true hz]
    show ROut (ref03xline x num ((g.1, g.2.1), g.2.2.1, g.2.2.2, ()) (g.2.2.1.length : Int) (g.2.2.2.length : Int)) (if w0 = wGlass then (if true = true then lnGlass g rest else none) else if true = true then none else _)
    rw [if_pos rfl, if_pos rfl]
    by_cases hG : w0 = wGlass
    · have h := ln_glass (num := num) hs hr hw hp hc hG; rw [if_pos hz] at h; rw [if_pos hG]; exact h
    rw [if_neg hG]
    by_cases hR : w0 = wRing
    · have h := ln_ring (num := num) hs hr hw hp hc hR; rw [if_pos hz] at h; exact h
    by_cases hC : w0 = wCut
    · have h := ln_cut (num := num) hs hr hw hp hc hC; rw [if_pos hz] at h; exact h
    by_cases h4 : rest.length = 4
    · match rest, h4, hs, hw with
      | [x1, y1, z1, way], _, hs, hw =>
        have hw' : ∀ w ∈ [x1, y1, z1], w.length ≤ 1048576 := fun w h => hw w (by simp at h ⊢; rcases h with h | h | h <;> simp [h])
        by_cases hP : w0 = wCap
        · have h := ln_cap (num := num) hs hw' hp hc hP; rw [if_pos hz] at h; exact h
        by_cases hD : w0 = wDish
        · have h := ln_dish (num := num) hs hw' hp hc hD; rw [if_pos hz] at h; exact h
        exact ln_other (num := num) hs hr hw hp hc hG hR hC hP hD
    · by_cases hP : w0 = wCap
      · have h := ln_capN (g := g) (num := num) hs h4 hP; rw [if_pos hz] at h; exact h
      by_cases hD : w0 = wDish
      · have h := ln_dishN (g := g) (num := num) hs h4 hD; rw [if_pos hz] at h; exact h
      exact ln_other (num := num) hs hr hw hp hc hG hR hC hP hD
  · rw [decide_eq_false hz]
    show ROut (ref03xline x num ((g.1, g.2.1), g.2.2.1, g.2.2.2, ()) (g.2.2.1.length : Int) (g.2.2.2.length : Int)) (if w0 = wGlass then (if false = true then lnGlass g rest else none) else if false = true then none else _)
    rw [if_neg (show ¬ false = true by decide), if_neg (show ¬ false = true by decide)]
    by_cases hG : w0 = wGlass
    · have h := ln_glass (num := num) hs hr hw hp hc hG; rw [if_neg hz] at h; rw [if_pos hG]; exact h
    rw [if_neg hG]
    by_cases hR : w0 = wRing
    · have h := ln_ring (num := num) hs hr hw hp hc hR; rw [if_neg hz] at h; rw [if_pos (.inl hR)]; exact h
    by_cases hC : w0 = wCut
    · have h := ln_cut (num := num) hs hr hw hp hc hC; rw [if_neg hz] at h; rw [if_pos (.inr hC)]; exact h
    rw [if_neg (by rintro (h | h); exact hR h; exact hC h)]
    by_cases hP : w0 = wCap
    · rw [if_pos (.inl hP)]
      by_cases h4 : rest.length = 4
      · match rest, h4, hs, hw with
        | [x1, y1, z1, way], _, hs, hw =>
          have h := ln_cap (g := g) (num := num) hs (fun w h => hw w (by simp at h ⊢; rcases h with h | h | h <;> simp [h])) hp hc hP; rw [if_neg hz] at h; exact h
      · have h := ln_capN (g := g) (num := num) hs h4 hP; rw [if_neg hz] at h; exact h
    by_cases hD : w0 = wDish
    · rw [if_pos (.inr hD)]
      by_cases h4 : rest.length = 4
      · match rest, h4, hs, hw with
        | [x1, y1, z1, way], _, hs, hw =>
          have h := ln_dish (g := g) (num := num) hs (fun w h => hw w (by simp at h ⊢; rcases h with h | h | h <;> simp [h])) hp hc hD; rw [if_neg hz] at h; exact h
      · have h := ln_dishN (g := g) (num := num) hs h4 hD; rw [if_neg hz] at h; exact h
    rw [if_neg (by rintro (h | h); exact hP h; exact hD h)]
    exact ln_other (num := num) hs hr hw hp hc hG hR hC hP hD
end
end Go.Ab
