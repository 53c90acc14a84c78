/- CoatTexts answers true. -/
import Derived.Test.YthhidmnlhocigaaGreatDoorV3
import Derived.Test.YthhidmnlhocigaaGreatDoorQLCoatTexts
namespace Go.Ab
open Go Go.Proofs
set_option maxRecDepth 1000000
set_option maxHeartbeats 4000000
set_option linter.unusedVariables false
set_option linter.unusedSimpArgs false

theorem brief_it {r : List Lay} (hr : r.length ≤ 43) : ∃ b : Bool, iterF (fun q_ : Int × Unit => (T_law08xbrief_l0 r q_.1).run) FUEL (0, ()) = some ((b, ()), ()) ∧ (b = true → ∀ x ∈ r, x.1.length ≤ 20) := by
  obtain ⟨res, h1, h2⟩ := iter_post (b := fun q_ : Int × Unit => (T_law08xbrief_l0 r q_.1).run) (fun k y => y = ((k : Int), ()) ∧ ∀ j : Nat, (h : j < r.length) → j < k → r[j].1.length ≤ 20) (fun res : (Bool × Unit) × Unit => res.1.1 = true → ∀ x ∈ r, x.1.length ≤ 20) r.length (by omega)
    (fun k y hk hI => by
      obtain ⟨rfl, hI⟩ := hI
      dsimp only
      unfold T_law08xbrief_l0
      by_cases e : k < r.length
      · have eg : gi r (k : Int) = r[k] := gi_nat e
        by_cases h : r[k].1.length ≤ 20
        · left
          refine ⟨(((k + 1 : Nat) : Int), ()), ?_, e, rfl, fun j hj hlt => ?_⟩
          · refine (br_t (decide_eq_true (by omega))).trans ?_
            refine (q_of (inB_t' (by omega) (by omega))).trans ?_
            refine (br_f (decide_eq_false (by rw [eg]; omega))).trans ?_
            rw [w1 k (by omega)]
            exact r_ret _
          · by_cases ej : j = k
            · subst ej; exact h
            · exact hI j hj (by omega)
        · right
          refine ⟨((false, ()), ()), ?_, fun h => (by cases h)⟩
          refine (br_t (decide_eq_true (by omega))).trans ?_
          refine (q_of (inB_t' (by omega) (by omega))).trans ?_
          refine (br_t (decide_eq_true (by rw [eg]; omega))).trans ?_
          exact r_ret _
      · right
        refine ⟨((true, ()), ()), ?_, fun _ x hx => ?_⟩
        · refine (br_f (decide_eq_false (by omega))).trans ?_
          exact r_ret _
        · obtain ⟨i, hi, rfl⟩ := List.getElem_of_mem hx
          exact hI i hi (by omega)) (x0 := (0, ())) ⟨rfl, fun j _ h => absurd h (by omega)⟩
  obtain ⟨⟨b, u⟩, u'⟩ := res
  exact ⟨b, h1, h2⟩
theorem k_brief (r : List Lay) : ∃ b : Bool, law08xbrief r = some ((b, ()), ()) ∧ (b = true → r.length ≤ 43 ∧ ∀ x ∈ r, x.1.length ≤ 20) := by
  show ∃ b : Bool, (T_law08xbrief r).run = _ ∧ _
  unfold T_law08xbrief
  by_cases h1 : 8 < r.length
  · by_cases h2 : r.length ≤ 40
    · exact ⟨false, (br_t (decide_eq_true (by omega))).trans ((br_t (decide_eq_true (by omega))).trans (r_ret _)), fun h => by cases h⟩
    · by_cases h3 : 43 < r.length
      · exact ⟨false, (br_t (decide_eq_true (by omega))).trans ((br_f (decide_eq_false (by omega))).trans ((br_t (decide_eq_true (by omega))).trans (r_ret _))), fun h => by cases h⟩
      · obtain ⟨b, q1, q2⟩ := brief_it (r := r) (by omega)
        exact ⟨b, (br_t (decide_eq_true (by omega))).trans ((br_f (decide_eq_false (by omega))).trans ((br_f (decide_eq_false (by omega))).trans (by rw [r_iter]; exact q1))), fun h => ⟨by omega, q2 h⟩⟩
  · obtain ⟨b, q1, q2⟩ := brief_it (r := r) (by omega)
    exact ⟨b, (br_f (decide_eq_false (by omega))).trans ((br_f (decide_eq_false (by omega))).trans (by rw [r_iter]; exact q1)), fun h => ⟨by omega, q2 h⟩⟩

theorem k_CoatTexts {x : (List UInt8 × (Int × Int))} {r : List ((List UInt8 × Int))} {s : List UInt8} (b0 : bulkT (.pair .str (.pair (.int .i64) (.int .i64))) x ≤ 1048576) (w0 : wfT (.pair .str (.pair (.int .i64) (.int .i64))) x) (b1 : bulkT (.list (.pair .str (.int .i64))) r ≤ 1048576) (w1 : wfT (.list (.pair .str (.int .i64))) r) (b2 : bulkT .str s ≤ 1048576) (w2 : wfT .str s) : law08xCoatTexts x r s = some ((true, ()), ()) := by
  have b1' : s.length ≤ 1048576 := by
    have h := b2
    simp only [bulkT] at h
    omega
  have x1 : -9223372036854775808 ≤ x.2.1 ∧ x.2.1 ≤ 9223372036854775807 := w0.2.1
  have x2 : -9223372036854775808 ≤ x.2.2 ∧ x.2.2 ≤ 9223372036854775807 := w0.2.2
  show (T_law08xCoatTexts x r s).run = _
  unfold T_law08xCoatTexts
  refine (r_bs awake_ok).trans ?_
  refine (br_f rfl).trans ?_
  obtain ⟨b, hb, hb2⟩ := k_brief r
  refine (r_bs hb).trans ?_
  cases b with
  | false => exact (br_t rfl).trans (r_ret _)
  | true =>
  obtain ⟨hf1, hf2⟩ := hb2 rfl
  have hnl : NmL r := fun y hy => by have := hf2 y hy; omega
  refine (br_f rfl).trans ?_
  by_cases h20 : (20 : Int) < (x.1.length : Int)
  · exact (br_t (decide_eq_true h20)).trans (r_ret _)
  refine (br_f (decide_eq_false h20)).trans ?_
  by_cases h5 : (400 : Int) < (s.length : Int)
  · refine (br_t (decide_eq_true h5)).trans ?_
    by_cases h6 : (s.length : Int) ≤ 60000
    · exact (br_t (decide_eq_true h6)).trans (r_ret _)
    refine (br_f (decide_eq_false h6)).trans ?_
    by_cases h7 : (60100 : Int) < (s.length : Int)
    · exact (br_t (decide_eq_true h7)).trans (r_ret _)
    refine (br_f (decide_eq_false h7)).trans ?_
    refine (r_bs (k_FormatCoating (x := x) (by omega) x1 x2)).trans ?_
    refine (r_bs (k_ParseCoating b1')).trans ?_
    refine (r_bs (k_rParseCoating b1')).trans ?_
    refine (r_bs (k_rFormatCoating (x := x) (by omega) x1 x2)).trans ?_
    refine (br_f (nd rfl)).trans ?_
    refine (br_f (nd rfl)).trans ?_
    refine (br_f (by simp)).trans ?_
    refine (r_bs (k_rCheckEvent (x := x) (by omega))).trans ?_
    by_cases he : evE x = 0
    · refine (br_t (decide_eq_true he)).trans ?_
      refine (r_bs (show coat_ParseCoating (fcT x) = some ((x, 0, ()), ()) by rw [k_ParseCoating (fcT_len he), pcS_back he])).trans ?_
      refine (br_f (nd rfl)).trans ?_
      refine (br_f (by simp)).trans ?_
      refine (r_bs (k_layers (r := r) (by omega))).trans ?_
      by_cases hg : layE r = 0
      · refine (r_bs (k_Print hg)).trans ?_
        refine (r_bs (k_rCheckPrinted (l := r) (by omega) hnl)).trans ?_
        refine (br_f (nd hg)).trans ?_
        have hpl := (okL hg).len
        refine (r_bs (show coat_Parse (layTs r) = some ((r, 0, 0, ()), ()) by rw [k_Parse (layTs r) (by omega), parS_back hg])).trans ?_
        refine (br_f (nd rfl)).trans ?_
        refine (r_bs (k_rPrint hg)).trans ?_
        refine (br_f (nd rfl)).trans ?_
        refine (br_f (nd rfl)).trans ?_
        refine (br_f (nd rfl)).trans ?_
        refine (r_bs (k_same r (by omega))).trans ?_
        refine (br_f rfl).trans ?_
        refine (r_bs (k_Parse s b1')).trans ?_
        refine (r_bs (k_rParse s b1')).trans ?_
        refine (br_t (decide_eq_true rfl)).trans ?_
        refine (br_t (decide_eq_true rfl)).trans ?_
        refine (r_bs (k_same (parS s).1 (by have := parS_len s; omega))).trans ?_
        exact r_ret _
      · refine (r_bs (k_Print_err (l := r) (by omega) hnl hg)).trans ?_
        refine (r_bs (k_rCheckPrinted (l := r) (by omega) hnl)).trans ?_
        refine (br_t (nd' hg)).trans ?_
        refine (br_f (nd rfl)).trans ?_
        refine (br_f (nd rfl)).trans ?_
        refine (r_bs (k_Parse s b1')).trans ?_
        refine (r_bs (k_rParse s b1')).trans ?_
        refine (br_t (decide_eq_true rfl)).trans ?_
        refine (br_t (decide_eq_true rfl)).trans ?_
        refine (r_bs (k_same (parS s).1 (by have := parS_len s; omega))).trans ?_
        exact r_ret _
    · refine (br_f (decide_eq_false he)).trans ?_
      refine (r_bs (k_layers (r := r) (by omega))).trans ?_
      by_cases hg : layE r = 0
      · refine (r_bs (k_Print hg)).trans ?_
        refine (r_bs (k_rCheckPrinted (l := r) (by omega) hnl)).trans ?_
        refine (br_f (nd hg)).trans ?_
        have hpl := (okL hg).len
        refine (r_bs (show coat_Parse (layTs r) = some ((r, 0, 0, ()), ()) by rw [k_Parse (layTs r) (by omega), parS_back hg])).trans ?_
        refine (br_f (nd rfl)).trans ?_
        refine (r_bs (k_rPrint hg)).trans ?_
        refine (br_f (nd rfl)).trans ?_
        refine (br_f (nd rfl)).trans ?_
        refine (br_f (nd rfl)).trans ?_
        refine (r_bs (k_same r (by omega))).trans ?_
        refine (br_f rfl).trans ?_
        refine (r_bs (k_Parse s b1')).trans ?_
        refine (r_bs (k_rParse s b1')).trans ?_
        refine (br_t (decide_eq_true rfl)).trans ?_
        refine (br_t (decide_eq_true rfl)).trans ?_
        refine (r_bs (k_same (parS s).1 (by have := parS_len s; omega))).trans ?_
        exact r_ret _
      · refine (r_bs (k_Print_err (l := r) (by omega) hnl hg)).trans ?_
        refine (r_bs (k_rCheckPrinted (l := r) (by omega) hnl)).trans ?_
        refine (br_t (nd' hg)).trans ?_
        refine (br_f (nd rfl)).trans ?_
        refine (br_f (nd rfl)).trans ?_
        refine (r_bs (k_Parse s b1')).trans ?_
        refine (r_bs (k_rParse s b1')).trans ?_
        refine (br_t (decide_eq_true rfl)).trans ?_
        refine (br_t (decide_eq_true rfl)).trans ?_
        refine (r_bs (k_same (parS s).1 (by have := parS_len s; omega))).trans ?_
        exact r_ret _
  · refine (br_f (decide_eq_false h5)).trans ?_
    by_cases h7 : (60100 : Int) < (s.length : Int)
    · exact (br_t (decide_eq_true h7)).trans (r_ret _)
    refine (br_f (decide_eq_false h7)).trans ?_
    refine (r_bs (k_FormatCoating (x := x) (by omega) x1 x2)).trans ?_
    refine (r_bs (k_ParseCoating b1')).trans ?_
    refine (r_bs (k_rParseCoating b1')).trans ?_
    refine (r_bs (k_rFormatCoating (x := x) (by omega) x1 x2)).trans ?_
    refine (br_f (nd rfl)).trans ?_
    refine (br_f (nd rfl)).trans ?_
    refine (br_f (by simp)).trans ?_
    refine (r_bs (k_rCheckEvent (x := x) (by omega))).trans ?_
    by_cases he : evE x = 0
    · refine (br_t (decide_eq_true he)).trans ?_
      refine (r_bs (show coat_ParseCoating (fcT x) = some ((x, 0, ()), ()) by rw [k_ParseCoating (fcT_len he), pcS_back he])).trans ?_
      refine (br_f (nd rfl)).trans ?_
      refine (br_f (by simp)).trans ?_
      refine (r_bs (k_layers (r := r) (by omega))).trans ?_
      by_cases hg : layE r = 0
      · refine (r_bs (k_Print hg)).trans ?_
        refine (r_bs (k_rCheckPrinted (l := r) (by omega) hnl)).trans ?_
        refine (br_f (nd hg)).trans ?_
        have hpl := (okL hg).len
        refine (r_bs (show coat_Parse (layTs r) = some ((r, 0, 0, ()), ()) by rw [k_Parse (layTs r) (by omega), parS_back hg])).trans ?_
        refine (br_f (nd rfl)).trans ?_
        refine (r_bs (k_rPrint hg)).trans ?_
        refine (br_f (nd rfl)).trans ?_
        refine (br_f (nd rfl)).trans ?_
        refine (br_f (nd rfl)).trans ?_
        refine (r_bs (k_same r (by omega))).trans ?_
        refine (br_f rfl).trans ?_
        refine (r_bs (k_Parse s b1')).trans ?_
        refine (r_bs (k_rParse s b1')).trans ?_
        refine (br_t (decide_eq_true rfl)).trans ?_
        refine (br_t (decide_eq_true rfl)).trans ?_
        refine (r_bs (k_same (parS s).1 (by have := parS_len s; omega))).trans ?_
        exact r_ret _
      · refine (r_bs (k_Print_err (l := r) (by omega) hnl hg)).trans ?_
        refine (r_bs (k_rCheckPrinted (l := r) (by omega) hnl)).trans ?_
        refine (br_t (nd' hg)).trans ?_
        refine (br_f (nd rfl)).trans ?_
        refine (br_f (nd rfl)).trans ?_
        refine (r_bs (k_Parse s b1')).trans ?_
        refine (r_bs (k_rParse s b1')).trans ?_
        refine (br_t (decide_eq_true rfl)).trans ?_
        refine (br_t (decide_eq_true rfl)).trans ?_
        refine (r_bs (k_same (parS s).1 (by have := parS_len s; omega))).trans ?_
        exact r_ret _
    · refine (br_f (decide_eq_false he)).trans ?_
      refine (r_bs (k_layers (r := r) (by omega))).trans ?_
      by_cases hg : layE r = 0
      · refine (r_bs (k_Print hg)).trans ?_
        refine (r_bs (k_rCheckPrinted (l := r) (by omega) hnl)).trans ?_
        refine (br_f (nd hg)).trans ?_
        have hpl := (okL hg).len
        refine (r_bs (show coat_Parse (layTs r) = some ((r, 0, 0, ()), ()) by rw [k_Parse (layTs r) (by omega), parS_back hg])).trans ?_
        refine (br_f (nd rfl)).trans ?_
        refine (r_bs (k_rPrint hg)).trans ?_
        refine (br_f (nd rfl)).trans ?_
        refine (br_f (nd rfl)).trans ?_
        refine (br_f (nd rfl)).trans ?_
        refine (r_bs (k_same r (by omega))).trans ?_
        refine (br_f rfl).trans ?_
        refine (r_bs (k_Parse s b1')).trans ?_
        refine (r_bs (k_rParse s b1')).trans ?_
        refine (br_t (decide_eq_true rfl)).trans ?_
        refine (br_t (decide_eq_true rfl)).trans ?_
        refine (r_bs (k_same (parS s).1 (by have := parS_len s; omega))).trans ?_
        exact r_ret _
      · refine (r_bs (k_Print_err (l := r) (by omega) hnl hg)).trans ?_
        refine (r_bs (k_rCheckPrinted (l := r) (by omega) hnl)).trans ?_
        refine (br_t (nd' hg)).trans ?_
        refine (br_f (nd rfl)).trans ?_
        refine (br_f (nd rfl)).trans ?_
        refine (r_bs (k_Parse s b1')).trans ?_
        refine (r_bs (k_rParse s b1')).trans ?_
        refine (br_t (decide_eq_true rfl)).trans ?_
        refine (br_t (decide_eq_true rfl)).trans ?_
        refine (r_bs (k_same (parS s).1 (by have := parS_len s; omega))).trans ?_
        exact r_ret _
end Go.Ab
