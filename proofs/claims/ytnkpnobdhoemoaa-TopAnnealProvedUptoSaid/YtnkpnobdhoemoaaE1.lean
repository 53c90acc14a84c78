/- BlankSchedules answers true. -/
import Derived.Test.YtnkpnobdhoemoaaD5
import Derived.Test.YtnkpnobdhoemoaaQLBlankSchedules
import Derived.Test.YtnkpnobdhoemoaaR1
namespace Go.Ab
open Go
set_option maxRecDepth 1000000
set_option maxHeartbeats 1000000
set_option linter.unusedVariables false
set_option linter.unusedSimpArgs false

theorem k_CopyInts {l : List Int} (h : l.length ≤ 1000000) : base_CopyInts l = some ((l, ()), ()) := by
  simp only [base_CopyInts, T_base_CopyInts]
  exact (q_of (app_t' (by omega) (by omega))).trans (r_ret _)
theorem k_Ints {l : List Int} (h : l.length ≤ 1000000) : base_Ints l l = some ((true, ()), ()) := by
  show (T_base_Ints l l).run = _
  unfold T_base_Ints
  refine (br_f (nd rfl)).trans ?_
  rw [r_iter]
  refine iter_eq (fun k y => y = ((k : Int), ())) _ l.length (by omega) ?_ rfl
  rintro k y hk rfl
  dsimp only
  unfold T_base_Ints_l0
  by_cases e : k < l.length
  · left
    refine ⟨(((k + 1 : Nat) : Int), ()), ?_, e, rfl⟩
    refine (br_t (decide_eq_true (by omega))).trans ?_
    refine (q_of (inB_t' (by omega) (by omega))).trans ?_
    refine (q_of (inB_t' (by omega) (by omega))).trans ?_
    refine (br_f (nd rfl)).trans ?_
    rw [w64' (x := (k : Int) + 1) (by omega) (by omega)]
    exact r_ret _
  · right
    refine (br_f (decide_eq_false (by omega))).trans ?_
    exact r_ret _
theorem gi_ext {l m : List Int} (h : l.length = m.length) (e : ∀ x : Nat, x < l.length → gi l (x : Int) = gi m (x : Int)) : l = m := by
  refine List.ext_getElem h fun i h1 h2 => ?_
  have := e i h1
  rw [gi_nat h1, gi_nat h2] at this
  exact this

theorem k_BlankSchedules {a : (Int × (Int × (List ((Int × (Int × Int))) × List ((Int × (Int × Int))))))} (b0 : bulkT (.pair (.int .i64) (.pair (.int .i64) (.pair (.list (.pair (.int .i64) (.pair (.int .i64) (.int .i64)))) (.list (.pair (.int .i64) (.pair (.int .i64) (.int .i64))))))) a ≤ 1048576) (w0 : wfT (.pair (.int .i64) (.pair (.int .i64) (.pair (.list (.pair (.int .i64) (.pair (.int .i64) (.int .i64)))) (.list (.pair (.int .i64) (.pair (.int .i64) (.int .i64))))))) a) : law03xBlankSchedules a = some ((true, ()), ()) := by
  simp only [law03xBlankSchedules, T_law03xBlankSchedules]
  rw [r_bind, awake_ok, Option.bind_some]
  refine (br_f rfl).trans ?_
  obtain ⟨b, hf, hb⟩ := k_Light a
  refine (r_bs hf).trans ?_
  cases b with
  | false => exact (br_t rfl).trans (r_ret _)
  | true =>
    obtain ⟨l1, l2⟩ := hb rfl
    have o := k_own l1 l2
    refine (br_f rfl).trans ?_
    refine (r_bs o).trans ?_
    by_cases h0 : annE a = 0
    · have h := an_of h0
      have hl := h.len
      obtain ⟨t, c, er, k1, o1⟩ := k_Earliest h0
      obtain ⟨t', ok, k2, o2⟩ := k_rEarliest h
      refine (r_bs k1).trans ?_
      refine (r_bs (k_rCheckAnnealing a)).trans ?_
      refine (br_f (nd h0)).trans ?_
      refine (r_bs k2).trans ?_
      rcases o2 with ⟨rfl, p1, p2, p3⟩ | ⟨rfl, p1, p2⟩
      · rcases o1 with ⟨rfl, rfl, q1, q2, q3⟩ | ⟨_, _, q1⟩
        · have e : t = t' := gi_ext (by omega) fun x hx => Int.le_antisymm (q3 _ p2 x (by omega)) (p3 _ q2 x (by omega))
          subst e
          refine (br_t rfl).trans ?_
          refine (br_t rfl).trans ?_
          refine (br_t rfl).trans ?_
          refine (r_bs (k_Ints (l := t) (by omega))).trans ?_
          exact r_ret _
        · exact absurd (cc_none q1 p2) id
      · rcases o1 with ⟨_, _, _, q2, _⟩ | ⟨rfl, rfl, q1⟩
        · exact absurd q2 (p2 _)
        · have hc := (ccE_0 q1).1
          refine (br_f rfl).trans ?_
          refine (br_f rfl).trans ?_
          refine (br_f rfl).trans ?_
          refine (r_bs (k_rCheckCircle h c)).trans ?_
          refine (r_bs o).trans ?_
          refine (r_bs (k_CopyInts (l := c) (by omega))).trans ?_
          refine (r_bs (k_CheckCircle a c)).trans ?_
          rw [if_pos h0]
          refine (br_t (decide_eq_true q1)).trans ?_
          refine (br_t (decide_eq_true q1)).trans ?_
          refine (r_ret _).trans ?_
          simp
    · refine (r_bs (k_Earliest_E h0)).trans ?_
      refine (r_bs (k_rCheckAnnealing a)).trans ?_
      refine (br_t (nd' h0)).trans ?_
      refine (br_t (decide_eq_true rfl)).trans ?_
      refine (r_ret _).trans ?_
      rfl
end Go.Ab
