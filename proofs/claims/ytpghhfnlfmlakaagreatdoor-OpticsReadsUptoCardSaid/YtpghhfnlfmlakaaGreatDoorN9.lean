/- A line of a design. -/
import Derived.Test.YtpghhfnlfmlakaaGreatDoorN8
namespace Go.Ab
open Go
set_option maxRecDepth 1000000
set_option maxHeartbeats 4000000
set_option linter.unusedVariables false
set_option linter.unusedSimpArgs false

abbrev Dsg := List UInt8 × List Srf
abbrev had0 : Had := (false, false, false, false)
/-- A mirror of a name, as nothing is said of it. -/
abbrev srf0 (n : List UInt8) : Srf := (n, ((0, (0, 1)), (0, 0)))
/-- The first line of a design: the column and the error, or the design's name. -/
def hdL (ws : List Wd) : (Int × Int) ⊕ List UInt8 := match ws with
  | [] => .inl (0, 7)
  | [w0] => if w0.1 = [100, 101, 115, 105, 103, 110] then .inl (endS ws, 6) else .inl (w0.2, 7)
  | [w0, w1] => if w0.1 = [100, 101, 115, 105, 103, 110] then (if nameB w1.1 = true then .inr w1.1 else .inl (w1.2, 4)) else .inl (w0.2, 7)
  | w0 :: w1 :: w2 :: _ => if w0.1 = [100, 101, 115, 105, 103, 110] then (if nameB w1.1 = true then .inl (w2.2, 7) else .inl (w1.2, 4)) else .inl (w0.2, 7)
/-- A further line: the column and the error, or the surface. -/
def mrL (l : List Srf) (ws : List Wd) : (Int × Int) ⊕ Srf := match ws with
  | [] => .inl (0, 7)
  | [w0] => if w0.1 = [109, 105, 114, 114, 111, 114] then (if l.length = 12 then .inl (w0.2, 8) else .inl (endS ws, 6)) else .inl (w0.2, 7)
  | w0 :: w1 :: r => if w0.1 = [109, 105, 114, 114, 111, 114] then (if l.length = 12 then .inl (w0.2, 8) else if nameB w1.1 = true then (if namedB l w1.1 = true then .inl (w1.2, 5) else
      match pairsS (endS ws) had0 (srf0 w1.1) r with
      | .inl x => .inl x
      | .inr s => if srfE s = 0 then .inr s else .inl (w0.2, srfE s)) else .inl (w1.2, 4)) else .inl (w0.2, 7)
theorem pairsS_err (e : Int) : ∀ (ws : List Wd) (h : Had) (s : Srf) (c er : Int), pairsS e h s ws = .inl (c, er) → er ≠ 0
  | [], h, s, c, er, hp => by
    unfold pairsS at hp
    split at hp
    · cases hp
    · injection hp with hp; injection hp with _ hp; omega
  | [k], h, s, c, er, hp => by
    unfold pairsS at hp
    split at hp
    · injection hp with hp; injection hp with _ hp; omega
    · split at hp <;> (injection hp with hp; injection hp with _ hp; omega)
  | k :: v :: r, h, s, c, er, hp => by
    unfold pairsS at hp
    split at hp
    · injection hp with hp; injection hp with _ hp; omega
    · split at hp
      · injection hp with hp; injection hp with _ hp; omega
      · split at hp
        · injection hp with hp; injection hp with _ hp; omega
        · exact pairsS_err e r _ _ _ _ hp
theorem end_w {ws : List Wd} (hw : WB ws) (h : 0 < ws.length) : IntKind.i64.wrap ((gi ws (IntKind.i64.wrap ((ws.length : Int) - 1))).2 + ((gi ws (IntKind.i64.wrap ((ws.length : Int) - 1))).1.length : Int)) = endS ws := by
  have hlen := hw.1
  have e1 : IntKind.i64.wrap ((ws.length : Int) - 1) = ((ws.length - 1 : Nat) : Int) := by rw [w64' (by omega) (by omega)]; omega
  have e : gi ws ((ws.length - 1 : Nat) : Int) = ws[ws.length - 1] := gi_nat (by omega)
  have hb := hw.2 ws[ws.length - 1] (List.getElem_mem (by omega))
  rw [e1, e, endS_at h, w64' (by omega) (by omega)]
theorem end_in {ws : List Wd} (hw : WB ws) (h : 0 < ws.length) : inB (IntKind.i64.wrap ((ws.length : Int) - 1)) ws.length = true := by
  have hlen := hw.1
  have e1 : IntKind.i64.wrap ((ws.length : Int) - 1) = ((ws.length - 1 : Nat) : Int) := by rw [w64' (by omega) (by omega)]; omega
  rw [e1]
  exact inB_t' (by omega) (by omega)

/-! ### The reference's line -/

theorem k_line1 {ws : List Wd} (hw : WB ws) (h0 : ws ≠ []) : ∃ c er d, ref02xline ws true (([] : List UInt8), (([] : List Srf), ())) 0 = some ((c, (er, ())), (d, ((0 : Int), ()))) ∧
    match hdL ws with
    | .inl (c', e') => c = c' ∧ er = e' ∧ e' ≠ 0
    | .inr n => er = 0 ∧ d = (n, ([], ())) := by
  show ∃ c er d, (T_ref02xline ws true (([] : List UInt8), (([] : List Srf), ())) 0).run = _ ∧ _
  have hin := end_in hw (List.length_pos_iff.2 h0)
  have hend := end_w hw (List.length_pos_iff.2 h0)
  unfold T_ref02xline
  rw [hend]
  match ws, hw, h0, hin with
  | [w0], hw, h0, hin =>
    by_cases hk : w0.1 = [100, 101, 115, 105, 103, 110]
    · refine ⟨endS [w0], 6, ([], ([], ())), ?_, ?_⟩
      rotate_left
      · simp only [hdL]; rw [if_pos hk]; exact ⟨rfl, rfl, by decide⟩
      refine (q_of hin).trans ?_
      refine (q_of hin).trans ?_
      refine (br_t rfl).trans ?_
      refine (q_of rfl).trans ?_
      refine (br_f (nd hk)).trans ?_
      refine (br_f rfl).trans ?_
      refine (br_f rfl).trans ?_
      refine (br_t rfl).trans ?_
      exact r_ret _
    · refine ⟨w0.2, 7, ([], ([], ())), ?_, ?_⟩
      rotate_left
      · simp only [hdL]; rw [if_neg hk]; exact ⟨rfl, rfl, by decide⟩
      refine (q_of hin).trans ?_
      refine (q_of hin).trans ?_
      refine (br_t rfl).trans ?_
      refine (q_of rfl).trans ?_
      refine (br_t (nd' hk)).trans ?_
      refine (q_of rfl).trans ?_
      exact r_ret _
  | [w0, w1], hw, h0, hin =>
    have hn := (hw.2 w1 (by simp)).2
    by_cases hk : w0.1 = [100, 101, 115, 105, 103, 110]
    · cases hb : nameB w1.1 with
      | true =>
        refine ⟨0, 0, (w1.1, ([], ())), ?_, ?_⟩
        rotate_left
        · simp only [hdL]; rw [if_pos hk, if_pos hb]; exact ⟨trivial, rfl⟩
        refine (q_of hin).trans ?_
        refine (q_of hin).trans ?_
        refine (br_t rfl).trans ?_
        refine (q_of rfl).trans ?_
        refine (br_f (nd hk)).trans ?_
        refine (br_f rfl).trans ?_
        refine (br_f rfl).trans ?_
        refine (br_f rfl).trans ?_
        refine (q_of rfl).trans ?_
        refine (r_bs (k_rIsName hn)).trans ?_
        refine (br_f (by rw [hb]; rfl)).trans ?_
        refine (br_t rfl).trans ?_
        refine (q_of rfl).trans ?_
        refine (br_f rfl).trans ?_
        exact r_ret _
      | false =>
        refine ⟨w1.2, 4, ([], ([], ())), ?_, ?_⟩
        rotate_left
        · simp only [hdL]; rw [if_pos hk, if_neg (by rw [hb]; decide)]; exact ⟨rfl, rfl, by decide⟩
        refine (q_of hin).trans ?_
        refine (q_of hin).trans ?_
        refine (br_t rfl).trans ?_
        refine (q_of rfl).trans ?_
        refine (br_f (nd hk)).trans ?_
        refine (br_f rfl).trans ?_
        refine (br_f rfl).trans ?_
        refine (br_f rfl).trans ?_
        refine (q_of rfl).trans ?_
        refine (r_bs (k_rIsName hn)).trans ?_
        refine (br_t (by rw [hb]; rfl)).trans ?_
        refine (q_of rfl).trans ?_
        exact r_ret _
    · refine ⟨w0.2, 7, ([], ([], ())), ?_, ?_⟩
      rotate_left
      · simp only [hdL]; rw [if_neg hk]; exact ⟨rfl, rfl, by decide⟩
      refine (q_of hin).trans ?_
      refine (q_of hin).trans ?_
      refine (br_t rfl).trans ?_
      refine (q_of rfl).trans ?_
      refine (br_t (nd' hk)).trans ?_
      refine (q_of rfl).trans ?_
      exact r_ret _
  | w0 :: w1 :: w2 :: r, hw, h0, hin =>
    have hn := (hw.2 w1 (by simp)).2
    have i0 : inB 0 (w0 :: w1 :: w2 :: r).length = true := inB_t' (by omega) (by simp; omega)
    have i1 : inB 1 (w0 :: w1 :: w2 :: r).length = true := inB_t' (by omega) (by simp; omega)
    have i2 : inB 2 (w0 :: w1 :: w2 :: r).length = true := inB_t' (by omega) (by simp; omega)
    have n1 : decide (((w0 :: w1 :: w2 :: r).length : Int) = 1) = false := decide_eq_false (by simp; omega)
    have n2 : decide ((2 : Int) < ((w0 :: w1 :: w2 :: r).length : Int)) = true := decide_eq_true (by simp; omega)
    by_cases hk : w0.1 = [100, 101, 115, 105, 103, 110]
    · cases hb : nameB w1.1 with
      | true =>
        refine ⟨w2.2, 7, (w1.1, ([], ())), ?_, ?_⟩
        rotate_left
        · simp only [hdL]; rw [if_pos hk, if_pos hb]; exact ⟨rfl, rfl, by decide⟩
        refine (q_of hin).trans ?_
        refine (q_of hin).trans ?_
        refine (br_t rfl).trans ?_
        refine (q_of i0).trans ?_
        refine (br_f (nd hk)).trans ?_
        refine (br_f rfl).trans ?_
        refine (br_f rfl).trans ?_
        refine (br_f n1).trans ?_
        refine (q_of i1).trans ?_
        refine (r_bs (k_rIsName hn)).trans ?_
        refine (br_f (by rw [hb]; rfl)).trans ?_
        refine (br_t rfl).trans ?_
        refine (q_of i1).trans ?_
        refine (br_t n2).trans ?_
        refine (q_of i2).trans ?_
        exact r_ret _
      | false =>
        refine ⟨w1.2, 4, ([], ([], ())), ?_, ?_⟩
        rotate_left
        · simp only [hdL]; rw [if_pos hk, if_neg (by rw [hb]; decide)]; exact ⟨rfl, rfl, by decide⟩
        refine (q_of hin).trans ?_
        refine (q_of hin).trans ?_
        refine (br_t rfl).trans ?_
        refine (q_of i0).trans ?_
        refine (br_f (nd hk)).trans ?_
        refine (br_f rfl).trans ?_
        refine (br_f rfl).trans ?_
        refine (br_f n1).trans ?_
        refine (q_of i1).trans ?_
        refine (r_bs (k_rIsName hn)).trans ?_
        refine (br_t (by rw [hb]; rfl)).trans ?_
        refine (q_of i1).trans ?_
        exact r_ret _
    · refine ⟨w0.2, 7, ([], ([], ())), ?_, ?_⟩
      rotate_left
      · simp only [hdL]; rw [if_neg hk]; exact ⟨rfl, rfl, by decide⟩
      refine (q_of hin).trans ?_
      refine (q_of hin).trans ?_
      refine (br_t rfl).trans ?_
      refine (q_of i0).trans ?_
      refine (br_t (nd' hk)).trans ?_
      refine (q_of i0).trans ?_
      exact r_ret _
theorem k_line2 {ws : List Wd} {nm : List UInt8} {l : List Srf} (hw : WB ws) (h0 : ws ≠ []) (hl : l.length ≤ 12) : ∃ c er d n, ref02xline ws false (nm, (l, ())) (l.length : Int) = some ((c, (er, ())), (d, (n, ()))) ∧
    match mrL l ws with
    | .inl (c', e') => c = c' ∧ er = e' ∧ e' ≠ 0
    | .inr s => er = 0 ∧ d = (nm, (l ++ [s], ())) ∧ n = ((l ++ [s]).length : Int) := by
  show ∃ c er d n, (T_ref02xline ws false (nm, (l, ())) (l.length : Int)).run = _ ∧ _
  have hin := end_in hw (List.length_pos_iff.2 h0)
  have hend := end_w hw (List.length_pos_iff.2 h0)
  unfold T_ref02xline
  rw [hend]
  match ws, hw, h0, hin with
  | [w0], hw, h0, hin =>
    by_cases hk : w0.1 = [109, 105, 114, 114, 111, 114]
    · by_cases h12 : l.length = 12
      · refine ⟨w0.2, 8, (nm, (l, ())), (l.length : Int), ?_, ?_⟩
        rotate_left
        · simp only [mrL]; rw [if_pos hk, if_pos h12]; exact ⟨rfl, rfl, by decide⟩
        refine (q_of hin).trans ?_
        refine (q_of hin).trans ?_
        refine (br_f rfl).trans ?_
        refine (br_t rfl).trans ?_
        refine (q_of rfl).trans ?_
        refine (br_f (nd hk)).trans ?_
        refine (br_t (decide_eq_true (by show ((l.length : Int) = 12); omega))).trans ?_
        refine (q_of rfl).trans ?_
        exact r_ret _
      · refine ⟨endS [w0], 6, (nm, (l, ())), (l.length : Int), ?_, ?_⟩
        rotate_left
        · simp only [mrL]; rw [if_pos hk, if_neg h12]; exact ⟨rfl, rfl, by decide⟩
        refine (q_of hin).trans ?_
        refine (q_of hin).trans ?_
        refine (br_f rfl).trans ?_
        refine (br_t rfl).trans ?_
        refine (q_of rfl).trans ?_
        refine (br_f (nd hk)).trans ?_
        refine (br_f (decide_eq_false (by show ¬ ((l.length : Int) = 12); omega))).trans ?_
        refine (br_t rfl).trans ?_
        exact r_ret _
    · refine ⟨w0.2, 7, (nm, (l, ())), (l.length : Int), ?_, ?_⟩
      rotate_left
      · simp only [mrL]; rw [if_neg hk]; exact ⟨rfl, rfl, by decide⟩
      refine (q_of hin).trans ?_
      refine (q_of hin).trans ?_
      refine (br_f rfl).trans ?_
      refine (br_t rfl).trans ?_
      refine (q_of rfl).trans ?_
      refine (br_t (nd' hk)).trans ?_
      refine (q_of rfl).trans ?_
      exact r_ret _
  | w0 :: w1 :: r, hw, h0, hin =>
    have hn := (hw.2 w1 (by simp)).2
    have i0 : inB 0 (w0 :: w1 :: r).length = true := inB_t' (by omega) (by simp; omega)
    have i1 : inB 1 (w0 :: w1 :: r).length = true := inB_t' (by omega) (by simp; omega)
    have n1 : decide (((w0 :: w1 :: r).length : Int) = 1) = false := decide_eq_false (by simp only [List.length_cons]; omega)
    by_cases hk : w0.1 = [109, 105, 114, 114, 111, 114]
    case neg =>
      refine ⟨w0.2, 7, (nm, (l, ())), (l.length : Int), ?_, ?_⟩
      rotate_left
      · simp only [mrL]; rw [if_neg hk]; exact ⟨rfl, rfl, by decide⟩
      refine (q_of hin).trans ?_
      refine (q_of hin).trans ?_
      refine (br_f rfl).trans ?_
      refine (br_t rfl).trans ?_
      refine (q_of i0).trans ?_
      refine (br_t (nd' hk)).trans ?_
      refine (q_of i0).trans ?_
      exact r_ret _
    by_cases h12 : l.length = 12
    · refine ⟨w0.2, 8, (nm, (l, ())), (l.length : Int), ?_, ?_⟩
      rotate_left
      · simp only [mrL]; rw [if_pos hk, if_pos h12]; exact ⟨rfl, rfl, by decide⟩
      refine (q_of hin).trans ?_
      refine (q_of hin).trans ?_
      refine (br_f rfl).trans ?_
      refine (br_t rfl).trans ?_
      refine (q_of i0).trans ?_
      refine (br_f (nd hk)).trans ?_
      refine (br_t (decide_eq_true (by show ((l.length : Int) = 12); omega))).trans ?_
      refine (q_of i0).trans ?_
      exact r_ret _
    have d12 : decide ((l.length : Int) = 12) = false := decide_eq_false (by omega)
    cases hb : nameB w1.1 with
    | false =>
      refine ⟨w1.2, 4, (nm, (l, ())), (l.length : Int), ?_, ?_⟩
      rotate_left
      · simp only [mrL]; rw [if_pos hk, if_neg h12, if_neg (by rw [hb]; decide)]; exact ⟨rfl, rfl, by decide⟩
      refine (q_of hin).trans ?_
      refine (q_of hin).trans ?_
      refine (br_f rfl).trans ?_
      refine (br_t rfl).trans ?_
      refine (q_of i0).trans ?_
      refine (br_f (nd hk)).trans ?_
      refine (br_f d12).trans ?_
      refine (br_f n1).trans ?_
      refine (q_of i1).trans ?_
      refine (r_bs (k_rIsName hn)).trans ?_
      refine (br_t (by rw [hb]; rfl)).trans ?_
      refine (q_of i1).trans ?_
      exact r_ret _
    | true =>
      cases hnm : namedB l w1.1 with
      | true =>
        refine ⟨w1.2, 5, (nm, (l, ())), (l.length : Int), ?_, ?_⟩
        rotate_left
        · simp only [mrL]; rw [if_pos hk, if_neg h12, if_pos hb, if_pos hnm]; exact ⟨rfl, rfl, by decide⟩
        refine (q_of hin).trans ?_
        refine (q_of hin).trans ?_
        refine (br_f rfl).trans ?_
        refine (br_t rfl).trans ?_
        refine (q_of i0).trans ?_
        refine (br_f (nd hk)).trans ?_
        refine (br_f d12).trans ?_
        refine (br_f n1).trans ?_
        refine (q_of i1).trans ?_
        refine (r_bs (k_rIsName hn)).trans ?_
        refine (br_f (by rw [hb]; rfl)).trans ?_
        refine (br_f rfl).trans ?_
        refine (q_of i1).trans ?_
        refine (r_bs (k_rnamed (l := l) (by omega))).trans ?_
        refine (br_t hnm).trans ?_
        refine (q_of i1).trans ?_
        exact r_ret _
      | false =>
        obtain ⟨x, c, er, km, pm⟩ := k_mirror (e := endS (w0 :: w1 :: r)) hw (by simp)
        refine ⟨c, er, (nm, (l ++ [x], ())), ((l ++ [x]).length : Int), ?_, ?_⟩
        · refine (q_of hin).trans ?_
          refine (q_of hin).trans ?_
          refine (br_f rfl).trans ?_
          refine (br_t rfl).trans ?_
          refine (q_of i0).trans ?_
          refine (br_f (nd hk)).trans ?_
          refine (br_f d12).trans ?_
          refine (br_f n1).trans ?_
          refine (q_of i1).trans ?_
          refine (r_bs (k_rIsName hn)).trans ?_
          refine (br_f (by rw [hb]; rfl)).trans ?_
          refine (br_f rfl).trans ?_
          refine (q_of i1).trans ?_
          refine (r_bs (k_rnamed (l := l) (by omega))).trans ?_
          refine (br_f hnm).trans ?_
          refine (r_bs km).trans ?_
          refine (q_of (decide_eq_true (Int.toNat_natCast l.length))).trans ?_
          refine (q_of (app_t' (by simp; omega) (by simp; omega))).trans ?_
          refine (r_ret _).trans ?_
          rw [List.length_append]
        · simp only [mrL]
          rw [if_pos hk, if_neg h12, if_pos hb, if_neg (by rw [hnm]; decide)]
          have pm' : PostM w0.2 (pairsS (endS (w0 :: w1 :: r)) had0 (srf0 w1.1) r) x c er := pm
          cases hp : pairsS (endS (w0 :: w1 :: r)) had0 (srf0 w1.1) r with
          | inl y =>
            obtain ⟨cy, ey⟩ := y
            rw [hp] at pm'
            exact ⟨pm'.1, pm'.2, pairsS_err _ _ _ _ _ _ hp⟩
          | inr s =>
            rw [hp] at pm'
            obtain ⟨rfl, rfl, rfl⟩ := pm'
            simp only
            by_cases hs : srfE x = 0
            · rw [if_pos hs]; exact ⟨hs, rfl, rfl⟩
            · rw [if_neg hs]; exact ⟨rfl, rfl, hs⟩
end Go.Ab
