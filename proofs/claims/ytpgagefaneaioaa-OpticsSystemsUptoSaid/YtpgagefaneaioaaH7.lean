/- OpticsSystems answers true. -/
import Derived.Test.YtpgagefaneaioaaH5
import Derived.Test.YtpgagefaneaioaaG2
namespace Go.Ab
open Go
set_option maxRecDepth 1000000
set_option maxHeartbeats 1000000
set_option linter.unusedVariables false
set_option linter.unusedSimpArgs false
attribute [local congr] bindC iterC

/-- The determinant, as a rational number. -/
def detQ (m : Mx) : Rat := qr m.1 * qr m.2.2.2 - qr m.2.1 * qr m.2.2.1
theorem step_det {x : Int × Int} {m : Mx} {l : Bool} (hx : ElOk x) (hm : SmallM m) (h : stepL l x m = false) : l = false ∧ detQ (stepV x m) = detQ m := by
  obtain ⟨m1, m2, m3, m4⟩ := hm
  obtain ⟨c1, c2, c3, c4⟩ := hx
  have sx : Small (x.2, 1) := small_one (by omega) (by omega)
  unfold stepL at h
  unfold stepV
  split at h
  · rename_i k
    rw [if_pos k]
    simp only [Bool.or_eq_false_iff] at h
    obtain ⟨⟨⟨⟨h0, h1⟩, h2⟩, h3⟩, h4⟩ := h
    refine ⟨h0, ?_⟩
    have e1 := qr_mul sx m3 h1
    have e2 := qr_add m1 (small_mulv _ _) h2
    have e3 := qr_mul sx m4 h3
    have e4 := qr_add m2 (small_mulv _ _) h4
    unfold detQ
    simp only
    rw [e2, e4, e1, e3]
    grind
  · rename_i k
    rw [if_neg k]
    have sb : Small (if x.1 = 2 then 2 else 1, 1) := by split <;> exact small_one (by decide) (by decide)
    generalize (if x.1 = 2 then (2 : Int) else 1, (1 : Int)) = b at *
    simp only [Bool.or_eq_false_iff] at h
    obtain ⟨⟨⟨⟨⟨h0, h5⟩, h1⟩, h2⟩, h3⟩, h4⟩ := h
    refine ⟨h0, ?_⟩
    have e1 := qr_mul (small_quov _ _) m1 h1
    have e2 := qr_sub m3 (small_mulv _ _) h2
    have e3 := qr_mul (small_quov _ _) m2 h3
    have e4 := qr_sub m4 (small_mulv _ _) h4
    unfold detQ
    simp only
    rw [e2, e4, e1, e3]
    grind
theorem mat_det {l : List (Int × Int)} (hx : ∀ i : Nat, i < l.length → ElOk (gi l i)) : ∀ n, n ≤ l.length → (matP l n).1 = false → detQ (matP l n).2 = 1
  | 0, _, _ => by unfold detQ matP one4; simp only [qr_one]; grind
  | n + 1, hn, h => by
    obtain ⟨h1, h2⟩ := step_det (l := (matP l n).1) (hx n (by omega)) (matP_small l n) h
    show detQ (stepV (gi l n) (matP l n).2) = 1
    rw [h2]; exact mat_det hx n (by omega) h1
theorem det_one {m : Mx} (hm : SmallM m) (hq : detQ m = 1) (h : detL m = false) : detV m = (1, 1) := by
  obtain ⟨m1, m2, m3, m4⟩ := hm
  simp only [detL, Bool.or_eq_false_iff] at h
  obtain ⟨⟨⟨_, h1⟩, h2⟩, h3⟩ := h
  have e1 := qr_mul m1 m4 h1
  have e2 := qr_mul m2 m3 h2
  have e3 := qr_sub (small_mulv _ _) (small_mulv _ _) h3
  refine qr_eq (small_subv _ _).1 (isLow_one 1) ?_
  unfold detV
  rw [e3, e1, e2, qr_one]
  exact hq

theorem k_few (l : List (Int × Int)) : ∃ b : Bool, law02xfew l = some ((b, ()), ()) ∧ (b = true → l.length ≤ 23) := by
  simp only [law02xfew, T_law02xfew]
  by_cases h : (l.length : Int) ≤ 8
  · exact ⟨true, by simp (maxSteps := 1000000) (disch := first | omega | assumption) only [↓r_ret, ↓r_fail, ↓r_br, ↓r_bind, ↓r_iter, ↓r_req, decide_eq_true_eq, Bool.not_eq_eq_eq_not, decide_eq_false_iff_not, ite_not, inB_t', app_t', bnd_t', str_t', nz_t, Int.reduceEq, Int.reduceLT, Int.reduceLE, w64', Option.bind_some, Option.bind_none, List.length_cons, List.length_nil, List.length_append, Nat.zero_add, if_pos, if_neg, decide_true, decide_false, if_true, if_false, Bool.not_true, Bool.not_false, Bool.false_eq_true, Bool.true_eq_false, not_true_eq_false, not_false_eq_true, ↓reduceIte, List.nil_append, h], fun _ => by omega⟩
  · by_cases h2 : (20 : Int) < l.length
    · by_cases h3 : (l.length : Int) ≤ 23
      · exact ⟨true, by simp (maxSteps := 1000000) (disch := first | omega | assumption) only [↓r_ret, ↓r_fail, ↓r_br, ↓r_bind, ↓r_iter, ↓r_req, decide_eq_true_eq, Bool.not_eq_eq_eq_not, decide_eq_false_iff_not, ite_not, inB_t', app_t', bnd_t', str_t', nz_t, Int.reduceEq, Int.reduceLT, Int.reduceLE, w64', Option.bind_some, Option.bind_none, List.length_cons, List.length_nil, List.length_append, Nat.zero_add, if_pos, if_neg, decide_true, decide_false, if_true, if_false, Bool.not_true, Bool.not_false, Bool.false_eq_true, Bool.true_eq_false, not_true_eq_false, not_false_eq_true, ↓reduceIte, List.nil_append, h, h2, h3], fun _ => by omega⟩
      · exact ⟨false, by simp (maxSteps := 1000000) (disch := first | omega | assumption) only [↓r_ret, ↓r_fail, ↓r_br, ↓r_bind, ↓r_iter, ↓r_req, decide_eq_true_eq, Bool.not_eq_eq_eq_not, decide_eq_false_iff_not, ite_not, inB_t', app_t', bnd_t', str_t', nz_t, Int.reduceEq, Int.reduceLT, Int.reduceLE, w64', Option.bind_some, Option.bind_none, List.length_cons, List.length_nil, List.length_append, Nat.zero_add, if_pos, if_neg, decide_true, decide_false, if_true, if_false, Bool.not_true, Bool.not_false, Bool.false_eq_true, Bool.true_eq_false, not_true_eq_false, not_false_eq_true, ↓reduceIte, List.nil_append, h, h2, h3], fun h => by cases h⟩
    · exact ⟨false, by simp (maxSteps := 1000000) (disch := first | omega | assumption) only [↓r_ret, ↓r_fail, ↓r_br, ↓r_bind, ↓r_iter, ↓r_req, decide_eq_true_eq, Bool.not_eq_eq_eq_not, decide_eq_false_iff_not, ite_not, inB_t', app_t', bnd_t', str_t', nz_t, Int.reduceEq, Int.reduceLT, Int.reduceLE, w64', Option.bind_some, Option.bind_none, List.length_cons, List.length_nil, List.length_append, Nat.zero_add, if_pos, if_neg, decide_true, decide_false, if_true, if_false, Bool.not_true, Bool.not_false, Bool.false_eq_true, Bool.true_eq_false, not_true_eq_false, not_false_eq_true, ↓reduceIte, List.nil_append, h, h2], fun h => by cases h⟩

theorem k_OpticsSystems {l : List ((Int × Int))} (b0 : bulkT (.list (.pair (.int .i64) (.int .i64))) l ≤ 1048576) (w0 : wfT (.list (.pair (.int .i64) (.int .i64))) l) : law02xOpticsSystems l = some ((true, ()), ()) := by
  obtain ⟨b, hb, hl⟩ := k_few l
  simp only [law02xOpticsSystems, T_law02xOpticsSystems]
  cases b with
  | false => simp (maxSteps := 1000000) (disch := first | omega | assumption) only [↓r_ret, ↓r_fail, ↓r_br, ↓r_bind, ↓r_iter, ↓r_req, decide_eq_true_eq, Bool.not_eq_eq_eq_not, decide_eq_false_iff_not, ite_not, inB_t', app_t', bnd_t', str_t', nz_t, Int.reduceEq, Int.reduceLT, Int.reduceLE, w64', Option.bind_some, Option.bind_none, List.length_cons, List.length_nil, List.length_append, Nat.zero_add, if_pos, if_neg, decide_true, decide_false, if_true, if_false, Bool.not_true, Bool.not_false, Bool.false_eq_true, Bool.true_eq_false, not_true_eq_false, not_false_eq_true, ↓reduceIte, List.nil_append, awake_ok, hb]
  | true =>
    have hl := hl rfl
    have kc := k_CheckElements (l := l) (by omega)
    have kr := k_rCheckElements (l := l) (by omega)
    by_cases c : elE l = 0
    · have km := k_MatrixOf c
      have kq := k_rMatrixOf c
      have hd := mat_det (elE_ok c).2 l.length (Nat.le_refl _)
      have hs := matP_small l l.length
      have hR : matR l = if (matP l l.length).1 = true then zero4 else (matP l l.length).2 := rfl
      cases hL : (matP l l.length).1 with
      | true =>
        rw [hL, show e8 true = 8 from rfl] at km kq
        generalize matR l = m at *
        simp (maxSteps := 1000000) (disch := first | omega | assumption) only [↓r_ret, ↓r_fail, ↓r_br, ↓r_bind, ↓r_iter, ↓r_req, decide_eq_true_eq, Bool.not_eq_eq_eq_not, decide_eq_false_iff_not, ite_not, inB_t', app_t', bnd_t', str_t', nz_t, Int.reduceEq, Int.reduceLT, Int.reduceLE, w64', Option.bind_some, Option.bind_none, List.length_cons, List.length_nil, List.length_append, Nat.zero_add, if_pos, if_neg, decide_true, decide_false, if_true, if_false, Bool.not_true, Bool.not_false, Bool.false_eq_true, Bool.true_eq_false, not_true_eq_false, not_false_eq_true, ↓reduceIte, List.nil_append, awake_ok, hb, kc, kr, c, km, kq, Bool.and_self]
      | false =>
        rw [hL, show e8 false = 0 from rfl] at km kq
        rw [hL] at hR
        have hR : matR l = (matP l l.length).2 := hR
        have hd := hd hL
        rw [← hR] at hd hs
        have kd := k_Determinant hs ⟨hs.1.i, hs.2.1.i, hs.2.2.1.i, hs.2.2.2.i⟩
        generalize matR l = m at *
        have h1 := det_one hs hd
        unfold detR at kd
        cases hq : detL m with
        | true =>
          rw [hq, if_pos rfl, show e8 true = 8 from rfl] at kd
          simp (maxSteps := 1000000) (disch := first | omega | assumption) only [↓r_ret, ↓r_fail, ↓r_br, ↓r_bind, ↓r_iter, ↓r_req, decide_eq_true_eq, Bool.not_eq_eq_eq_not, decide_eq_false_iff_not, ite_not, inB_t', app_t', bnd_t', str_t', nz_t, Int.reduceEq, Int.reduceLT, Int.reduceLE, w64', Option.bind_some, Option.bind_none, List.length_cons, List.length_nil, List.length_append, Nat.zero_add, if_pos, if_neg, decide_true, decide_false, if_true, if_false, Bool.not_true, Bool.not_false, Bool.false_eq_true, Bool.true_eq_false, not_true_eq_false, not_false_eq_true, ↓reduceIte, List.nil_append, awake_ok, hb, kc, kr, c, km, kq, kd, eta2, Bool.and_self, k_lwhole]
        | false =>
          rw [hq, if_neg (by decide), show e8 false = 0 from rfl, h1 hq] at kd
          simp (maxSteps := 1000000) (disch := first | omega | assumption) only [↓r_ret, ↓r_fail, ↓r_br, ↓r_bind, ↓r_iter, ↓r_req, decide_eq_true_eq, Bool.not_eq_eq_eq_not, decide_eq_false_iff_not, ite_not, inB_t', app_t', bnd_t', str_t', nz_t, Int.reduceEq, Int.reduceLT, Int.reduceLE, w64', Option.bind_some, Option.bind_none, List.length_cons, List.length_nil, List.length_append, Nat.zero_add, if_pos, if_neg, decide_true, decide_false, if_true, if_false, Bool.not_true, Bool.not_false, Bool.false_eq_true, Bool.true_eq_false, not_true_eq_false, not_false_eq_true, ↓reduceIte, List.nil_append, awake_ok, hb, kc, kr, c, km, kq, kd, eta2, Bool.and_self, k_lwhole]
    · have km := k_MatrixOfE (l := l) (by omega) c
      simp (maxSteps := 1000000) (disch := first | omega | assumption) only [↓r_ret, ↓r_fail, ↓r_br, ↓r_bind, ↓r_iter, ↓r_req, decide_eq_true_eq, Bool.not_eq_eq_eq_not, decide_eq_false_iff_not, ite_not, inB_t', app_t', bnd_t', str_t', nz_t, Int.reduceEq, Int.reduceLT, Int.reduceLE, w64', Option.bind_some, Option.bind_none, List.length_cons, List.length_nil, List.length_append, Nat.zero_add, if_pos, if_neg, decide_true, decide_false, if_true, if_false, Bool.not_true, Bool.not_false, Bool.false_eq_true, Bool.true_eq_false, not_true_eq_false, not_false_eq_true, ↓reduceIte, List.nil_append, awake_ok, hb, kc, kr, c, km, zero4, Bool.and_self]
end Go.Ab
