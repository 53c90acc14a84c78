/- BlankTexts answers true. -/
import Derived.Test.YtlihngoejfmheaaGreatDoorM8
namespace Go.Ab
open Go
set_option maxRecDepth 1000000
set_option maxHeartbeats 4000000
set_option linter.unusedVariables false
set_option linter.unusedSimpArgs false

theorem k_Few (g : Gla) : ∃ b : Bool, law03xFew g = some ((b, ()), ()) ∧ (b = true → g.2.2.1.length ≤ 43 ∧ g.2.2.2.length ≤ 7) := by
  simp only [law03xFew, T_law03xFew]
  by_cases h1 : g.2.2.1.length ≤ 8
  · refine ⟨_, (br_t (decide_eq_true (by omega))).trans (r_ret _), fun h => ?_⟩
    have := of_decide_eq_true h
    omega
  · by_cases h2 : 40 < g.2.2.1.length
    · by_cases h3 : g.2.2.1.length ≤ 43
      · refine ⟨_, (br_f (decide_eq_false (by omega))).trans ((br_t (decide_eq_true (by omega))).trans ((br_t (decide_eq_true (by omega))).trans (r_ret _))), fun h => ?_⟩
        have := of_decide_eq_true h
        omega
      · exact ⟨false, (br_f (decide_eq_false (by omega))).trans ((br_t (decide_eq_true (by omega))).trans ((br_f (decide_eq_false (by omega))).trans (r_ret _))), fun h => by cases h⟩
    · exact ⟨false, (br_f (decide_eq_false (by omega))).trans ((br_f (decide_eq_false (by omega))).trans (r_ret _)), fun h => by cases h⟩

theorem k_BlankTexts {g : (Int × (Int × (List ((Int × (Int × (Int × (Int × (Int × Bool)))))) × List ((Int × (Int × (Int × (Bool × Bool))))))))} {s : List UInt8} (b0 : bulkT (.pair (.int .i64) (.pair (.int .i64) (.pair (.list (.pair (.int .i64) (.pair (.int .i64) (.pair (.int .i64) (.pair (.int .i64) (.pair (.int .i64) .bool)))))) (.list (.pair (.int .i64) (.pair (.int .i64) (.pair (.int .i64) (.pair .bool .bool)))))))) g ≤ 1048576) (w0 : wfT (.pair (.int .i64) (.pair (.int .i64) (.pair (.list (.pair (.int .i64) (.pair (.int .i64) (.pair (.int .i64) (.pair (.int .i64) (.pair (.int .i64) .bool)))))) (.list (.pair (.int .i64) (.pair (.int .i64) (.pair (.int .i64) (.pair .bool .bool)))))))) g) (b1 : bulkT .str s ≤ 1048576) (w1 : wfT .str s) : law03xBlankTexts g s = some ((true, ()), ()) := by
  have b1' : s.length ≤ 1048576 := by
    have h := b1
    simp only [bulkT] at h
    omega
  show (T_law03xBlankTexts g s).run = _
  unfold T_law03xBlankTexts
  refine (r_bs awake_ok).trans ?_
  refine (br_f rfl).trans ?_
  obtain ⟨b, hb, hb2⟩ := k_Few g
  refine (r_bs hb).trans ?_
  cases b with
  | false => exact (br_t rfl).trans (r_ret _)
  | true =>
  obtain ⟨hf1, hf2⟩ := hb2 rfl
  refine (br_f rfl).trans ?_
  by_cases h5 : (500 : Int) < (s.length : Int)
  · refine (br_t (decide_eq_true h5)).trans ?_
    by_cases h6 : (s.length : Int) ≤ 60000
    · exact (br_t (decide_eq_true h6)).trans (r_ret _)
    refine (br_f (decide_eq_false h6)).trans ?_
    by_cases h7 : (60005 : Int) < (s.length : Int)
    · exact (br_t (decide_eq_true h7)).trans (r_ret _)
    refine (br_f (decide_eq_false h7)).trans ?_
    refine (r_bs (k_Parse s b1')).trans ?_
    refine (r_bs (k_rParse s b1')).trans ?_
    refine (br_f (nd rfl)).trans ?_
    refine (br_f (nd rfl)).trans ?_
    refine (r_bs (k_Same (parS s).1 (parS_len s).1 (parS_len s).2)).trans ?_
    refine (br_f rfl).trans ?_
    refine (r_bs (k_copied (g := g) hf1 hf2)).trans ?_
    by_cases hg : glE g = 0
    · refine (r_bs (k_Print (g := g) hg)).trans ?_
      refine (r_bs (k_rCheckGlass g)).trans ?_
      refine (br_f (nd hg)).trans ?_
      have S := smG hg
      have hl := prS_len S
      refine (r_bs (k_Parse (prS g) (by omega))).trans ?_
      rw [parS_back hg]
      refine (br_t (decide_eq_true rfl)).trans ?_
      refine (r_bs (k_rPrint S)).trans ?_
      refine (br_t (decide_eq_true rfl)).trans ?_
      refine (br_t (decide_eq_true rfl)).trans ?_
      refine (br_t (decide_eq_true rfl)).trans ?_
      refine (r_bs (k_Same g (by omega) (by omega))).trans ?_
      exact r_ret _
    · refine (r_bs (k_Print_err (g := g) hg)).trans ?_
      refine (r_bs (k_rCheckGlass g)).trans ?_
      refine (br_t (nd' hg)).trans ?_
      refine (br_t (decide_eq_true rfl)).trans ?_
      exact (r_ret _).trans (by rfl)
  · refine (br_f (decide_eq_false h5)).trans ?_
    by_cases h7 : (60005 : Int) < (s.length : Int)
    · exact (br_t (decide_eq_true h7)).trans (r_ret _)
    refine (br_f (decide_eq_false h7)).trans ?_
    refine (r_bs (k_Parse s b1')).trans ?_
    refine (r_bs (k_rParse s b1')).trans ?_
    refine (br_f (nd rfl)).trans ?_
    refine (br_f (nd rfl)).trans ?_
    refine (r_bs (k_Same (parS s).1 (parS_len s).1 (parS_len s).2)).trans ?_
    refine (br_f rfl).trans ?_
    refine (r_bs (k_copied (g := g) hf1 hf2)).trans ?_
    by_cases hg : glE g = 0
    · refine (r_bs (k_Print (g := g) hg)).trans ?_
      refine (r_bs (k_rCheckGlass g)).trans ?_
      refine (br_f (nd hg)).trans ?_
      have S := smG hg
      have hl := prS_len S
      refine (r_bs (k_Parse (prS g) (by omega))).trans ?_
      rw [parS_back hg]
      refine (br_t (decide_eq_true rfl)).trans ?_
      refine (r_bs (k_rPrint S)).trans ?_
      refine (br_t (decide_eq_true rfl)).trans ?_
      refine (br_t (decide_eq_true rfl)).trans ?_
      refine (br_t (decide_eq_true rfl)).trans ?_
      refine (r_bs (k_Same g (by omega) (by omega))).trans ?_
      exact r_ret _
    · refine (r_bs (k_Print_err (g := g) hg)).trans ?_
      refine (r_bs (k_rCheckGlass g)).trans ?_
      refine (br_t (nd' hg)).trans ?_
      refine (br_t (decide_eq_true rfl)).trans ?_
      exact (r_ret _).trans (by rfl)
end Go.Ab
