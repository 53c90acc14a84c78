/- A line of a design, in the program. -/
import Derived.Test.YtpghhfnlfmlakaaGreatDoorN9
namespace Go.Ab
open Go
set_option maxRecDepth 1000000
set_option maxHeartbeats 4000000
set_option linter.unusedVariables false
set_option linter.unusedSimpArgs false

theorem k_read1 {ln : Int} {ws : List Wd} (hw : WB ws) (h0 : ws ≠ []) : ∃ f d, optics_row_read (ln, ws) true (([] : List UInt8), (([] : List Srf), ())) 0 = some ((f, ()), (d, ((0 : Int), ()))) ∧
    match hdL ws with
    | .inl (c, e) => f = (true, ((ln, c), e))
    | .inr n => f.1 = false ∧ d = (n, ([], ())) := by
  show ∃ f d, (T_optics_row_read (ln, ws) true (([] : List UInt8), (([] : List Srf), ())) 0).run = _ ∧ _
  unfold T_optics_row_read
  match ws, hw, h0 with
  | [w0], hw, h0 =>
    have t0 : optics_row_text (ln, [w0]) 0 = some ((w0.1, ()), ()) := k_text_in (i := 0) (by simp)
    have a0 : optics_row_at (ln, [w0]) 0 = some (((ln, w0.2), ()), ()) := k_at_in (i := 0) (by simp)
    have a1 : optics_row_at (ln, [w0]) 1 = some (((ln, endS [w0]), ()), ()) := k_at_end (i := 1) hw (by simp) (by simp)
    by_cases hk : w0.1 = [100, 101, 115, 105, 103, 110]
    · refine ⟨(true, ((ln, endS [w0]), 6)), ([], ([], ())), ?_, ?_⟩
      · refine (br_t rfl).trans ?_
        refine (r_bs t0).trans ?_
        refine (br_f (nd hk)).trans ?_
        refine (br_f rfl).trans ?_
        refine (br_t rfl).trans ?_
        refine (r_bs a1).trans ?_
        exact r_ret _
      · simp only [hdL]; rw [if_pos hk]
    · refine ⟨(true, ((ln, w0.2), 7)), ([], ([], ())), ?_, ?_⟩
      · refine (br_t rfl).trans ?_
        refine (r_bs t0).trans ?_
        refine (br_t (nd' hk)).trans ?_
        refine (r_bs a0).trans ?_
        exact r_ret _
      · simp only [hdL]; rw [if_neg hk]
  | w0 :: w1 :: r, hw, h0 =>
    have hn := (hw.2 w1 (by simp)).2
    have t0 : optics_row_text (ln, w0 :: w1 :: r) 0 = some ((w0.1, ()), ()) := k_text_in (i := 0) (by simp)
    have a0 : optics_row_at (ln, w0 :: w1 :: r) 0 = some (((ln, w0.2), ()), ()) := k_at_in (i := 0) (by simp)
    have t1 : optics_row_text (ln, w0 :: w1 :: r) 1 = some ((w1.1, ()), ()) := k_text_in (i := 1) (by simp)
    have a1 : optics_row_at (ln, w0 :: w1 :: r) 1 = some (((ln, w1.2), ()), ()) := k_at_in (i := 1) (by simp)
    have n1 : decide (((w0 :: w1 :: r).length : Int) = 1) = false := decide_eq_false (by simp only [List.length_cons]; omega)
    by_cases hk : w0.1 = [100, 101, 115, 105, 103, 110]
    case neg =>
      refine ⟨(true, ((ln, w0.2), 7)), ([], ([], ())), ?_, ?_⟩
      · refine (br_t rfl).trans ?_
        refine (r_bs t0).trans ?_
        refine (br_t (nd' hk)).trans ?_
        refine (r_bs a0).trans ?_
        exact r_ret _
      · cases r <;> (simp only [hdL]; rw [if_neg hk])
    cases hb : nameB w1.1 with
    | false =>
      refine ⟨(true, ((ln, w1.2), 4)), ([], ([], ())), ?_, ?_⟩
      · refine (br_t rfl).trans ?_
        refine (r_bs t0).trans ?_
        refine (br_f (nd hk)).trans ?_
        refine (br_f rfl).trans ?_
        refine (br_f n1).trans ?_
        refine (r_bs t1).trans ?_
        refine (br_t rfl).trans ?_
        refine (r_bs (k_isName hn)).trans ?_
        refine (br_t (by rw [hb]; rfl)).trans ?_
        refine (r_bs a1).trans ?_
        exact r_ret _
      · cases r <;> (simp only [hdL]; rw [if_pos hk, if_neg (by rw [hb]; decide)])
    | true =>
      match r, t0, t1, n1 with
      | [], t0, t1, n1 =>
        refine ⟨(false, (((Ty.int .i64).pair (Ty.int .i64)).pair (Ty.int .i64)).d), (w1.1, ([], ())), ?_, ?_⟩
        · refine (br_t rfl).trans ?_
          refine (r_bs t0).trans ?_
          refine (br_f (nd hk)).trans ?_
          refine (br_f rfl).trans ?_
          refine (br_f n1).trans ?_
          refine (r_bs t1).trans ?_
          refine (br_t rfl).trans ?_
          refine (r_bs (k_isName hn)).trans ?_
          refine (br_f (by rw [hb]; rfl)).trans ?_
          refine (br_f rfl).trans ?_
          exact r_ret _
        · simp only [hdL]; rw [if_pos hk, if_pos hb]; exact ⟨trivial, rfl⟩
      | w2 :: r, t0, t1, n1 =>
        have a2 : optics_row_at (ln, w0 :: w1 :: w2 :: r) 2 = some (((ln, w2.2), ()), ()) := k_at_in (i := 2) (by simp)
        refine ⟨(true, ((ln, w2.2), 7)), ([], ([], ())), ?_, ?_⟩
        · refine (br_t rfl).trans ?_
          refine (r_bs t0).trans ?_
          refine (br_f (nd hk)).trans ?_
          refine (br_f rfl).trans ?_
          refine (br_f n1).trans ?_
          refine (r_bs t1).trans ?_
          refine (br_t rfl).trans ?_
          refine (r_bs (k_isName hn)).trans ?_
          refine (br_f (by rw [hb]; rfl)).trans ?_
          refine (br_t (decide_eq_true (by simp only [List.length_cons]; omega))).trans ?_
          refine (r_bs a2).trans ?_
          exact r_ret _
        · simp only [hdL]; rw [if_pos hk, if_pos hb]
theorem k_read2 {ln : Int} {ws : List Wd} {nm : List UInt8} {l : List Srf} (hw : WB ws) (h0 : ws ≠ []) (hl : l.length ≤ 12) : ∃ f d n, optics_row_read (ln, ws) false (nm, (l, ())) (l.length : Int) = some ((f, ()), (d, (n, ()))) ∧
    match mrL l ws with
    | .inl (c, e) => f = (true, ((ln, c), e))
    | .inr s => f.1 = false ∧ d = (nm, (l ++ [s], ())) ∧ n = ((l ++ [s]).length : Int) := by
  show ∃ f d n, (T_optics_row_read (ln, ws) false (nm, (l, ())) (l.length : Int)).run = _ ∧ _
  unfold T_optics_row_read
  match ws, hw, h0 with
  | [w0], hw, h0 =>
    have t0 : optics_row_text (ln, [w0]) 0 = some ((w0.1, ()), ()) := k_text_in (i := 0) (by simp)
    have a0 : optics_row_at (ln, [w0]) 0 = some (((ln, w0.2), ()), ()) := k_at_in (i := 0) (by simp)
    have a1 : optics_row_at (ln, [w0]) 1 = some (((ln, endS [w0]), ()), ()) := k_at_end (i := 1) hw (by simp) (by simp)
    by_cases hk : w0.1 = [109, 105, 114, 114, 111, 114]
    · by_cases h12 : l.length = 12
      · have d12 : decide ((l.length : Int) = 12) = true := decide_eq_true (by omega)
        refine ⟨(true, ((ln, w0.2), 8)), (nm, (l, ())), (l.length : Int), ?_, ?_⟩
        · refine (br_f rfl).trans ?_
          refine (r_bs t0).trans ?_
          refine (br_f (nd hk)).trans ?_
          refine (br_t rfl).trans ?_
          refine (br_t d12).trans ?_
          refine (r_bs a0).trans ?_
          exact r_ret _
        · simp only [mrL]; rw [if_pos hk, if_pos h12]
      · have d12 : decide ((l.length : Int) = 12) = false := decide_eq_false (by omega)
        refine ⟨(true, ((ln, endS [w0]), 6)), (nm, (l, ())), (l.length : Int), ?_, ?_⟩
        · refine (br_f rfl).trans ?_
          refine (r_bs t0).trans ?_
          refine (br_f (nd hk)).trans ?_
          refine (br_t rfl).trans ?_
          refine (br_f d12).trans ?_
          refine (br_t rfl).trans ?_
          refine (r_bs a1).trans ?_
          exact r_ret _
        · simp only [mrL]; rw [if_pos hk, if_neg h12]
    · refine ⟨(true, ((ln, w0.2), 7)), (nm, (l, ())), (l.length : Int), ?_, ?_⟩
      · refine (br_f rfl).trans ?_
        refine (r_bs t0).trans ?_
        refine (br_t (nd' hk)).trans ?_
        refine (r_bs a0).trans ?_
        exact r_ret _
      · simp only [mrL]; rw [if_neg hk]
  | w0 :: w1 :: r, hw, h0 =>
    have hn := (hw.2 w1 (by simp)).2
    have t0 : optics_row_text (ln, w0 :: w1 :: r) 0 = some ((w0.1, ()), ()) := k_text_in (i := 0) (by simp)
    have a0 : optics_row_at (ln, w0 :: w1 :: r) 0 = some (((ln, w0.2), ()), ()) := k_at_in (i := 0) (by simp)
    have t1 : optics_row_text (ln, w0 :: w1 :: r) 1 = some ((w1.1, ()), ()) := k_text_in (i := 1) (by simp)
    have a1 : optics_row_at (ln, w0 :: w1 :: r) 1 = some (((ln, w1.2), ()), ()) := k_at_in (i := 1) (by simp)
    have n1 : decide (((w0 :: w1 :: r).length : Int) = 1) = false := decide_eq_false (by simp only [List.length_cons]; omega)
    by_cases hk : w0.1 = [109, 105, 114, 114, 111, 114]
    case neg =>
      refine ⟨(true, ((ln, w0.2), 7)), (nm, (l, ())), (l.length : Int), ?_, ?_⟩
      · refine (br_f rfl).trans ?_
        refine (r_bs t0).trans ?_
        refine (br_t (nd' hk)).trans ?_
        refine (r_bs a0).trans ?_
        exact r_ret _
      · simp only [mrL]; rw [if_neg hk]
    by_cases h12 : l.length = 12
    · have d12 : decide ((l.length : Int) = 12) = true := decide_eq_true (by omega)
      refine ⟨(true, ((ln, w0.2), 8)), (nm, (l, ())), (l.length : Int), ?_, ?_⟩
      · refine (br_f rfl).trans ?_
        refine (r_bs t0).trans ?_
        refine (br_f (nd hk)).trans ?_
        refine (br_t rfl).trans ?_
        refine (br_t d12).trans ?_
        refine (r_bs a0).trans ?_
        exact r_ret _
      · simp only [mrL]; rw [if_pos hk, if_pos h12]
    have d12 : decide ((l.length : Int) = 12) = false := decide_eq_false (by omega)
    have kc := k_checkName (l := l) (n := w1.1) (by omega) hn
    unfold cnE at kc
    cases hb : nameB w1.1 with
    | false =>
      rw [hb, if_neg (by decide)] at kc
      refine ⟨(true, ((ln, w1.2), 4)), (nm, (l, ())), (l.length : Int), ?_, ?_⟩
      · refine (br_f rfl).trans ?_
        refine (r_bs t0).trans ?_
        refine (br_f (nd hk)).trans ?_
        refine (br_t rfl).trans ?_
        refine (br_f d12).trans ?_
        refine (br_f n1).trans ?_
        refine (r_bs t1).trans ?_
        refine (br_f rfl).trans ?_
        refine (r_bs kc).trans ?_
        refine (br_t rfl).trans ?_
        refine (r_bs a1).trans ?_
        exact r_ret _
      · simp only [mrL]; rw [if_pos hk, if_neg h12, if_neg (by rw [hb]; decide)]
    | true =>
      rw [hb, if_pos rfl] at kc
      cases hnm : namedB l w1.1 with
      | true =>
        rw [hnm, if_pos rfl] at kc
        refine ⟨(true, ((ln, w1.2), 5)), (nm, (l, ())), (l.length : Int), ?_, ?_⟩
        · refine (br_f rfl).trans ?_
          refine (r_bs t0).trans ?_
          refine (br_f (nd hk)).trans ?_
          refine (br_t rfl).trans ?_
          refine (br_f d12).trans ?_
          refine (br_f n1).trans ?_
          refine (r_bs t1).trans ?_
          refine (br_f rfl).trans ?_
          refine (r_bs kc).trans ?_
          refine (br_t rfl).trans ?_
          refine (r_bs a1).trans ?_
          exact r_ret _
        · simp only [mrL]; rw [if_pos hk, if_neg h12, if_pos hb, if_pos hnm]
      | false =>
        rw [hnm, if_neg (by decide)] at kc
        obtain ⟨f, s', kp, pp⟩ := k_pairs (ln := ln) (s0 := srf0 w1.1) hw (by simp)
        have pp' : PostP ln (pairsS (endS (w0 :: w1 :: r)) had0 (srf0 w1.1) r) f s' := pp
        cases hp : pairsS (endS (w0 :: w1 :: r)) had0 (srf0 w1.1) r with
        | inl y =>
          obtain ⟨cy, ey⟩ := y
          rw [hp] at pp'
          have ef : f = (true, ((ln, cy), ey)) := pp'
          subst ef
          refine ⟨(true, ((ln, cy), ey)), (nm, (l, ())), (l.length : Int), ?_, ?_⟩
          · refine (br_f rfl).trans ?_
            refine (r_bs t0).trans ?_
            refine (br_f (nd hk)).trans ?_
            refine (br_t rfl).trans ?_
            refine (br_f d12).trans ?_
            refine (br_f n1).trans ?_
            refine (r_bs t1).trans ?_
            refine (br_f rfl).trans ?_
            refine (r_bs kc).trans ?_
            refine (br_f rfl).trans ?_
            refine (r_bs (k_owhole 0)).trans ?_
            refine (r_bs kp).trans ?_
            refine (br_t rfl).trans ?_
            exact r_ret _
          · simp only [mrL]; rw [if_pos hk, if_neg h12, if_pos hb, if_neg (by rw [hnm]; decide), hp]
        | inr s =>
          rw [hp] at pp'
          obtain ⟨hf, es⟩ := pp'
          subst es
          have hsb : SB s' := pairsS_SB _ _ _ _ _ ⟨⟨by show (-100000000 : Int) < 0; omega, by show (0 : Int) < 100000000; omega⟩, ⟨by show (-100000000 : Int) < 1; omega, by show (1 : Int) < 100000000; omega⟩⟩ hp
          have ks := k_checkSurface (s := s') ⟨by have := hsb.1.1; omega, by have := hsb.1.2; omega⟩ ⟨by have := hsb.2.1; omega, by have := hsb.2.2; omega⟩
          by_cases hs : srfE s' = 0
          · refine ⟨(false, (((Ty.int .i64).pair (Ty.int .i64)).pair (Ty.int .i64)).d), (nm, (l ++ [s'], ())), ((l ++ [s']).length : Int), ?_, ?_⟩
            · refine (br_f rfl).trans ?_
              refine (r_bs t0).trans ?_
              refine (br_f (nd hk)).trans ?_
              refine (br_t rfl).trans ?_
              refine (br_f d12).trans ?_
              refine (br_f n1).trans ?_
              refine (r_bs t1).trans ?_
              refine (br_f rfl).trans ?_
              refine (r_bs kc).trans ?_
              refine (br_f rfl).trans ?_
              refine (r_bs (k_owhole 0)).trans ?_
              refine (r_bs kp).trans ?_
              refine (br_f hf).trans ?_
              refine (r_bs ks).trans ?_
              refine (br_f (nd hs)).trans ?_
              refine (q_of (decide_eq_true (Int.toNat_natCast l.length))).trans ?_
              refine (q_of (app_t' (by simp; omega) (by simp; omega))).trans ?_
              refine (r_ret _).trans ?_
              rw [List.length_append]
            · simp only [mrL]; rw [if_pos hk, if_neg h12, if_pos hb, if_neg (by rw [hnm]; decide), hp]
              simp only
              rw [if_pos hs]
              exact ⟨trivial, rfl, rfl⟩
          · refine ⟨(true, ((ln, w0.2), srfE s')), (nm, (l, ())), (l.length : Int), ?_, ?_⟩
            · refine (br_f rfl).trans ?_
              refine (r_bs t0).trans ?_
              refine (br_f (nd hk)).trans ?_
              refine (br_t rfl).trans ?_
              refine (br_f d12).trans ?_
              refine (br_f n1).trans ?_
              refine (r_bs t1).trans ?_
              refine (br_f rfl).trans ?_
              refine (r_bs kc).trans ?_
              refine (br_f rfl).trans ?_
              refine (r_bs (k_owhole 0)).trans ?_
              refine (r_bs kp).trans ?_
              refine (br_f hf).trans ?_
              refine (r_bs ks).trans ?_
              refine (br_t (nd' hs)).trans ?_
              refine (r_bs a0).trans ?_
              exact r_ret _
            · simp only [mrL]; rw [if_pos hk, if_neg h12, if_pos hb, if_neg (by rw [hnm]; decide), hp]
              simp only
              rw [if_neg hs]
end Go.Ab
