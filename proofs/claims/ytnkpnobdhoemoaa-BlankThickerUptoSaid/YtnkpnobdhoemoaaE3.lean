/- BlankThicker answers true. -/
import Derived.Test.YtnkpnobdhoemoaaE1
import Derived.Test.YtnkpnobdhoemoaaQLBlankThicker
namespace Go.Ab
open Go
set_option maxRecDepth 1000000
set_option maxHeartbeats 1000000
set_option linter.unusedVariables false
set_option linter.unusedSimpArgs false

/-- The same with a thicker blank. -/
def thk (a : Ann) (t : Int) : Ann := (t, a.2.1, a.2.2.1, a.2.2.2)
theorem thk_E {a : Ann} {t : Int} (h : annE a = 0) (h1 : 1 ≤ t) (h2 : t ≤ 500) : annE (thk a t) = 0 := by
  have ha := an_of h
  unfold annE at h ⊢
  rw [if_pos ha.th] at h
  rw [if_pos ⟨h1, h2⟩]
  exact h
theorem thk_lm {a : Ann} {t : Int} (h : An a) (h' : An (thk a t)) (ht : a.1 ≤ t) {i : Int} (h0 : 0 ≤ i) (hi : i < a.2.2.1.length) : lm a i ≤ lm (thk a t) i := by
  have h1 := h.th
  have h2 := h.fa
  have h3 := h.work3
  have h4 := h.at h0 hi
  have n1 := Int.mul_le_mul_of_nonneg_left ht h2.1
  have n2 := Int.mul_le_mul n1 ht (by omega) (Int.mul_nonneg h2.1 (by omega))
  have n3 := Int.mul_le_mul_of_nonneg_right n2 (show 0 ≤ (gi a.2.2.1 i).1 by omega)
  have w : work a i ≤ work (thk a t) i := n3
  have d := Int.ediv_le_ediv (show 0 < (gi a.2.2.1 i).2.1 by omega) (Int.neg_le_neg w)
  have e1 : lm a i = max 1 (-(-(work a i) / (gi a.2.2.1 i).2.1)) := rfl
  have e2 : lm (thk a t) i = max 1 (-(-(work (thk a t) i) / (gi a.2.2.1 i).2.1)) := rfl
  omega
theorem thk_Fs {a : Ann} {t : Int} (h : An a) (h' : An (thk a t)) (ht : a.1 ≤ t) {T : Nat → Int} (F : Fs (thk a t) T) : Fs a T := fun b hb => by
  rcases sysL_mem.1 hb with ⟨i, hi, e⟩ | ⟨i, hi, e | e⟩ | ⟨i, hi, e⟩
  · exact F b (sysL_mem.2 (.inl ⟨i, hi, e⟩))
  · exact F b (sysL_mem.2 (.inr (.inl ⟨i, hi, .inl e⟩)))
  · have l := thk_lm h h' ht (i := (i : Int)) (by omega) (by omega)
    have f := F ((i : Int) + 1, (i : Int), -lm (thk a t) (i : Int)) (sysL_mem.2 (.inr (.inl ⟨i, hi, .inr rfl⟩)))
    subst e
    dsimp only at f ⊢
    omega
  · exact F b (sysL_mem.2 (.inr (.inr ⟨i, hi, e⟩)))

theorem k_BlankThicker {a : (Int × (Int × (List ((Int × (Int × Int))) × List ((Int × (Int × Int))))))} {more : Int} (b0 : bulkT (.pair (.int .i64) (.pair (.int .i64) (.pair (.list (.pair (.int .i64) (.pair (.int .i64) (.int .i64)))) (.list (.pair (.int .i64) (.pair (.int .i64) (.int .i64))))))) a ≤ 1048576) (w0 : wfT (.pair (.int .i64) (.pair (.int .i64) (.pair (.list (.pair (.int .i64) (.pair (.int .i64) (.int .i64)))) (.list (.pair (.int .i64) (.pair (.int .i64) (.int .i64))))))) a) (b1 : bulkT (.int .i64) more ≤ 1048576) (w1 : wfT (.int .i64) more) : law03xBlankThicker a more = some ((true, ()), ()) := by
  simp only [law03xBlankThicker, T_law03xBlankThicker, if_true]
  rw [r_bind, awake_ok, Option.bind_some]
  refine (br_f rfl).trans ?_
  obtain ⟨b, hf, hb⟩ := k_Light a
  refine (r_bs hf).trans ?_
  cases b with
  | false => exact (br_t rfl).trans (r_ret _)
  | true =>
    obtain ⟨l1, l2⟩ := hb rfl
    have o := k_own l1 l2
    refine (br_f rfl).trans ?_
    refine (r_bs (k_Within _ _ _)).trans ?_
    by_cases hm : 0 ≤ more ∧ more ≤ 100
    · refine (br_f (nd hm)).trans ?_
      refine (r_bs o).trans ?_
      by_cases ht : min 500 (IntKind.i64.wrap (a.1 + more)) < a.1
      · exact (br_t (decide_eq_true ht)).trans (r_ret _)
      · refine (br_f (decide_eq_false ht)).trans ?_
        refine (r_bs o).trans ?_
        refine (r_bs (k_CheckAnnealing a)).trans ?_
        by_cases h0 : annE a = 0
        · have h := an_of h0
          have hl := h.len
          have hth := h.th
          refine (br_f (nd h0)).trans ?_
          refine (br_f (decide_eq_false (by omega))).trans ?_
          rw [r_iter]
          generalize hT : min 500 (IntKind.i64.wrap (a.1 + more)) = t at ht
          have ht' : a.1 ≤ t := by omega
          have h0' := thk_E h0 (t := t) (by omega) (by omega)
          have h' := an_of h0'
          have o' : law03xown (thk a t) = some ((thk a t, ()), ()) := k_own (a := thk a t) l1 l2
          refine iter_eq (fun k y => y = ((k : Int), ())) _ a.2.2.1.length (by omega) ?_ rfl
          rintro k y hk rfl
          dsimp only
          unfold T_law03xBlankThicker_l6
          rw [show (if true = true then min 500 (IntKind.i64.wrap (a.1 + more)) else max 500 (IntKind.i64.wrap (a.1 + more))) = t from (if_pos rfl).trans hT]
          by_cases e : k < a.2.2.1.length
          · left
            have E1 : atE a (k : Int) = 0 := by unfold atE; rw [if_pos h0, if_pos (by omega)]
            have E2 : atE (thk a t) (k : Int) = 0 := by unfold atE; rw [if_pos h0', if_pos (by show _ ∧ (k : Int) ≤ (a.2.2.1.length : Int) - 1; omega)]
            have l := thk_lm h h' ht' (i := (k : Int)) (by omega) (by omega)
            refine ⟨(((k + 1 : Nat) : Int), ()), ?_, e, rfl⟩
            refine (br_t (decide_eq_true (by omega))).trans ?_
            refine (r_bs o).trans ?_
            refine (r_bs (k_LeastMinutes a _)).trans ?_
            refine (r_bs o').trans ?_
            refine (r_bs (k_LeastMinutes (thk a t) _)).trans ?_
            refine (br_f (nd E1)).trans ?_
            refine (br_f (nd E2)).trans ?_
            dsimp only
            have hlt : ¬ lm (thk a t) (k : Int) < lm a (k : Int) := by omega
            refine (br_f (decide_eq_false (by rw [if_pos E1, if_pos E2]; exact hlt))).trans ?_
            rw [w64' (x := (k : Int) + 1) (by omega) (by omega)]
            exact r_ret _
          · right
            refine (br_f (decide_eq_false (by omega))).trans ?_
            obtain ⟨s, c, er, k1, o1⟩ := k_Earliest h0
            obtain ⟨s', c', er', k2, o2⟩ := k_Earliest h0'
            refine (r_bs o).trans ?_
            refine (r_bs k1).trans ?_
            refine (r_bs o').trans ?_
            refine (r_bs k2).trans ?_
            rcases o2 with ⟨rfl, rfl, q1, q2, q3⟩ | ⟨rfl, rfl, q1⟩
            · have q1 : s'.length = a.2.2.1.length + 1 := q1
              have q2' := thk_Fs h h' ht' q2
              rcases o1 with ⟨rfl, rfl, p1, p2, p3⟩ | ⟨_, _, p1⟩
              · refine (br_f rfl).trans ?_
                refine (br_f rfl).trans ?_
                refine (br_f (nd (by dsimp only; omega))).trans ?_
                rw [r_iter]
                refine iter_eq (fun k y => y = ((k : Int), ())) _ s.length (by omega) ?_ rfl
                rintro k y hk rfl
                dsimp only
                unfold T_law03xBlankThicker_l15
                by_cases e : k < s.length
                · left
                  have le := p3 _ q2' k (by omega)
                  refine ⟨(((k + 1 : Nat) : Int), ()), ?_, e, rfl⟩
                  refine (br_t (decide_eq_true (by dsimp only; omega))).trans ?_
                  refine (q_of (inB_t' (by omega) (by dsimp only; omega))).trans ?_
                  refine (q_of (inB_t' (by omega) (by dsimp only; omega))).trans ?_
                  refine (br_f (decide_eq_false (by dsimp only; omega))).trans ?_
                  rw [w64' (x := (k : Int) + 1) (by omega) (by omega)]
                  exact r_ret _
                · right
                  refine (br_f (decide_eq_false (by dsimp only; omega))).trans ?_
                  exact r_ret _
              · exact absurd (cc_none p1 q2') id
            · refine (br_t rfl).trans ?_
              exact r_ret _
        · exact (br_t (nd' h0)).trans (r_ret _)
    · exact (br_t (nd' hm)).trans (r_ret _)
end Go.Ab
