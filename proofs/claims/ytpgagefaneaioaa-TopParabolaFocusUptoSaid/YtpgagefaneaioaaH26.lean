/- TopParabolaFocus answers true. -/
import Derived.Test.YtpgagefaneaioaaH14
import Derived.Test.YtpgagefaneaioaaH6
import Derived.Test.YtpgagefaneaioaaH16
import Derived.Test.YtpgagefaneaioaaQLTopParabolaFocus
namespace Go.Ab
open Go
set_option maxRecDepth 1000000
set_option maxHeartbeats 1000000
set_option linter.unusedVariables false
set_option linter.unusedSimpArgs false
attribute [local congr] bindC iterC

theorem seen_ok : top_seen = some ((true, ()), ()) := by kernel_rfl
theorem k_twhole (n : Int) : top_whole n = some (((n, 1), ()), ()) := by simp only [top_whole, T_top_whole, r_ret]
/-- What a reflection is, in rational numbers. -/
theorem out_q {t0 t1 r n : Fr} (h0 : Small t0) (h1 : Small t1) (hr : Small r) (hn : Small n) (h : outL false t0 t1 r n = false) :
    ∃ F : Rat, F * (qr r * qr r + qr n * qr n) = 2 * (qr t0 * qr r + qr t1 * qr n) ∧ qr r * qr r + qr n * qr n ≠ 0 ∧ qr (outV t0 t1 r n).1 = qr t0 - F * qr r ∧ qr (outV t0 t1 r n).2 = qr t1 - F * qr n := by
  simp only [outL, Bool.or_eq_false_iff] at h
  obtain ⟨⟨⟨⟨⟨⟨⟨⟨⟨⟨⟨⟨_, a1⟩, a2⟩, a3⟩, a4⟩, a5⟩, a6⟩, a7⟩, a8⟩, a9⟩, a10⟩, a11⟩, a12⟩ := h
  have s2 : Small (2, 1) := small_one (by decide) (by decide)
  have eD : qr (dotV t0 t1 r n) = qr t0 * qr r + qr t1 * qr n := by
    unfold dotV
    rw [qr_add (small_mulv _ _) (small_mulv _ _) a3, qr_mul h0 hr a1, qr_mul h1 hn a2]
  have eN : qr (dotV r n r n) = qr r * qr r + qr n * qr n := by
    unfold dotV
    rw [qr_add (small_mulv _ _) (small_mulv _ _) a7, qr_mul hr hr a5, qr_mul hn hn a6]
  have eM : qr (mulv (2, 1) (dotV t0 t1 r n)) = 2 * (qr t0 * qr r + qr t1 * qr n) := by
    have e : qr (mulv (2, 1) (dotV t0 t1 r n)) = qr (2, 1) * qr (dotV t0 t1 r n) := qr_mul s2 (small_addv _ _) a4
    rw [e, eD, qr_one]; rfl
  obtain ⟨z, eF⟩ := qr_quo (small_mulv _ _) (small_addv _ _) a8
  have eF : qr (facV t0 t1 r n) = qr (mulv (2, 1) (dotV t0 t1 r n)) / qr (dotV r n r n) := eF
  have hz : qr (dotV r n r n) ≠ 0 := fun h => z ((qr_zero (small_addv _ _)).1 h)
  rw [eM] at eF
  rw [eN] at eF hz
  refine ⟨qr (facV t0 t1 r n), ?_, hz, ?_, ?_⟩
  · rw [eF]; grind
  · show qr (subv t0 (mulv (facV t0 t1 r n) r)) = _
    have e : qr (mulv (facV t0 t1 r n) r) = qr (facV t0 t1 r n) * qr r := qr_mul (small_quov _ _) hr a9
    rw [qr_sub h0 (small_mulv _ _) a10, e]
  · show qr (subv t1 (mulv (facV t0 t1 r n) n)) = _
    have e : qr (mulv (facV t0 t1 r n) n) = qr (facV t0 t1 r n) * qr n := qr_mul (small_quov _ _) hn a11
    rw [qr_sub h1 (small_mulv _ _) a12, e]
/-- A reflection that was told: what is known. -/
theorem refR_ok {x : Con} {p : Sp} {tw : Int × Int} (h : (refR x p tw).2 = 0) : offL x p = false ∧ onB x p = true ∧ norL x p = false ∧ ¬ (p.1.1 = 0 ∧ (norV x p).1 = 0) ∧ outL false (tw.1, 1) (tw.2, 1) p.1 (norV x p) = false ∧ (refR x p tw).1 = outV (tw.1, 1) (tw.2, 1) p.1 (norV x p) := by
  unfold refR at *
  split at h; · cases h
  split at h; · cases h
  split at h; · cases h
  split at h; · cases h
  split at h; · cases h
  rename_i a1 a2 a3 a4 a5
  refine ⟨by simpa using a1, by simpa using a2, by simpa using a3, a4, by simpa using a5, ?_⟩
  rw [if_neg a1, if_neg a2, if_neg a3, if_neg a4, if_neg a5]


theorem rat_pos {R : Int} (h : 1 ≤ R) : (R : Rat) ≠ 0 := qr_ne (by omega)
theorem qr_low {n d : Int} (hd : d ≠ 0) : qr (low n d) = (n : Rat) / (d : Rat) := by
  have hc := low_cross (n := n) hd
  have h1 := qr_ne hd
  have h2 := qr_ne (show (low n d).2 ≠ 0 by have := (low_is (n := n) hd).1; omega)
  have hc' : (n : Rat) * ((low n d).2 : Rat) = ((low n d).1 : Rat) * (d : Rat) := by rw [← Rat.intCast_mul, ← Rat.intCast_mul, hc]
  unfold qr
  grind
theorem lg_small {n d : Int} (hd : d ≠ 0) (h1 : -1000000000 ≤ n) (h2 : n ≤ 1000000000) (h3 : -1000000000 ≤ d) (h4 : d ≤ 1000000000) : lg n d = false ∧ fv n d = low n d := by
  obtain ⟨b1, b2⟩ := low_bd (n := n) hd
  have hs : Small (low n d) := ⟨low_is hd, by omega, by omega, by omega⟩
  unfold lg fv
  rw [if_pos hs]
  simp [hs]
theorem raPar {R : Int} (h : 1 ≤ R) (h2 : R ≤ 400) : raE (R, -1, 1) = 0 := by
  have ho : ConOk (R, -1, 1) := ⟨show R ≠ 0 by omega, show -10000000 ≤ R by omega, show R ≤ 10000000 by omega, isLow_one (-1), show (-100 : Int) ≤ -1 by decide, show (-1 : Int) ≤ 100 by decide, show (0 : Int) < 1 by decide, show (1 : Int) ≤ 100 by decide⟩
  unfold raE
  rw [coE_of ho, if_neg (by decide), if_neg (fun hh => hh ⟨show -200000 ≤ R by omega, show R ≤ 200000 by omega⟩), if_neg (fun hh => hh ⟨show (-10 : Int) ≤ -1 by decide, show (-1 : Int) ≤ 10 by decide⟩), if_neg (show ¬ (10 : Int) < 1 by decide)]
/-- The matrix of one mirror, and its focal length. -/
theorem mirror {R : Int} (h : 1 ≤ R) (h2 : R ≤ 400) : ∃ m : Mx, optics_MatrixOf [(2, R)] = some ((m, 0, ()), ()) ∧ optics_Focal m = some ((low R 2, 0, ()), ()) := by
  have hE : elE [(2, R)] = 0 := by
    unfold elE
    rw [if_neg (by simp)]
    show firstErr _ 1 = 0
    refine firstErr_0 fun j hj => ?_
    have : j = 0 := by omega
    subst this
    show elemE (2, R) = 0
    unfold elemE
    rw [if_neg (by simp), if_neg (by first | omega | (dsimp only; omega)), if_neg (by simp), if_neg (by first | omega | (dsimp only; omega))]
  have km := k_MatrixOf hE
  have s2 : Small (2, 1) := small_one (by decide) (by decide)
  have sR : Small (R, 1) := small_one (by omega) (by omega)
  have hq := quol_one (s := R) (by omega) (by omega) (by omega) 2 (.inr rfl)
  obtain ⟨zR, eq⟩ := qr_quo s2 sR hq
  -- the quotient
  have hp0 : quov (2, 1) (R, 1) = low (2 * 1) (1 * R) := by
    unfold quov
    rw [if_neg (show ¬ R = 0 by omega)]
    exact (lg_small (show 1 * R ≠ 0 by omega) (show (-1000000000 : Int) ≤ 2 * 1 by decide) (show (2 * 1 : Int) ≤ 1000000000 by decide) (show -1000000000 ≤ 1 * R by omega) (show 1 * R ≤ 1000000000 by omega)).2
  have bp := low_bd (n := 2 * 1) (d := 1 * R) (by omega)
  have ip := low_is (n := 2 * 1) (d := 1 * R) (by omega)
  rw [← hp0] at bp ip
  have sp := small_quov (2, 1) (R, 1)
  generalize hp : quov (2, 1) (R, 1) = p at *
  have p0 := ip.1
  have l1 : mull p (1, 1) = false := (lg_small (show p.2 * 1 ≠ 0 by omega) (by first | omega | (dsimp only; omega)) (by first | omega | (dsimp only; omega)) (by first | omega | (dsimp only; omega)) (by first | omega | (dsimp only; omega))).1
  have v1 : mulv p (1, 1) = low (p.1 * 1) (p.2 * 1) := (lg_small (show p.2 * 1 ≠ 0 by omega) (by first | omega | (dsimp only; omega)) (by first | omega | (dsimp only; omega)) (by first | omega | (dsimp only; omega)) (by first | omega | (dsimp only; omega))).2
  have b1 := low_bd (n := p.1 * 1) (d := p.2 * 1) (by omega)
  have i1 := low_is (n := p.1 * 1) (d := p.2 * 1) (by omega)
  rw [← v1] at b1 i1
  have q1 := qr_mul sp (small_one (n := 1) (by decide) (by decide)) l1
  have sy := small_mulv p (1, 1)
  generalize hy : mulv p (1, 1) = y at *
  have y0 := i1.1
  have l2 : subl (0, 1) y = false := (lg_small (show (1 : Int) * y.2 ≠ 0 by omega) (by first | omega | (dsimp only; omega)) (by first | omega | (dsimp only; omega)) (by first | omega | (dsimp only; omega)) (by first | omega | (dsimp only; omega))).1
  have v2 : subv (0, 1) y = low (0 * y.2 - y.1 * 1) (1 * y.2) := (lg_small (show (1 : Int) * y.2 ≠ 0 by omega) (by first | omega | (dsimp only; omega)) (by first | omega | (dsimp only; omega)) (by first | omega | (dsimp only; omega)) (by first | omega | (dsimp only; omega))).2
  have b2 := low_bd (n := 0 * y.2 - y.1 * 1) (d := 1 * y.2) (by omega)
  have i2 := low_is (n := 0 * y.2 - y.1 * 1) (d := 1 * y.2) (by omega)
  rw [← v2] at b2 i2
  have q2 := qr_sub (small_one (n := 0) (by decide) (by decide)) sy l2
  have sC := small_subv (0, 1) y
  generalize hC : subv (0, 1) y = C at *
  have l3 : mull p (0, 1) = false := (lg_small (show p.2 * 1 ≠ 0 by omega) (by first | omega | (dsimp only; omega)) (by first | omega | (dsimp only; omega)) (by first | omega | (dsimp only; omega)) (by first | omega | (dsimp only; omega))).1
  have v3 : mulv p (0, 1) = low (p.1 * 0) (p.2 * 1) := (lg_small (show p.2 * 1 ≠ 0 by omega) (by first | omega | (dsimp only; omega)) (by first | omega | (dsimp only; omega)) (by first | omega | (dsimp only; omega)) (by first | omega | (dsimp only; omega))).2
  have b3 := low_bd (n := p.1 * 0) (d := p.2 * 1) (by omega)
  have i3 := low_is (n := p.1 * 0) (d := p.2 * 1) (by omega)
  rw [← v3] at b3 i3
  generalize hw : mulv p (0, 1) = w at *
  have w0 := i3.1
  have l4 : subl (1, 1) w = false := (lg_small (show (1 : Int) * w.2 ≠ 0 by omega) (by first | omega | (dsimp only; omega)) (by first | omega | (dsimp only; omega)) (by first | omega | (dsimp only; omega)) (by first | omega | (dsimp only; omega))).1
  have hm : matP [(2, R)] 1 = (false, ((1, 1), (0, 1), C, subv (1, 1) w)) := by
    show (stepL false (2, R) one4, stepV (2, R) one4) = _
    unfold stepL stepV one4
    dsimp only
    rw [if_neg (show ¬ (2 : Int) = 1 by decide), if_neg (show ¬ (2 : Int) = 1 by decide), if_pos (rfl : (2 : Int) = 2)]
    rw [hp, hy, hC, hw, hq, l1, l2, l3, l4]
    rfl
  have hR : matR [(2, R)] = ((1, 1), (0, 1), C, subv (1, 1) w) := by
    unfold matR
    show (if (matP [(2, R)] 1).1 = true then _ else (matP [(2, R)] 1).2) = _
    rw [hm]; rfl
  have km : optics_MatrixOf [(2, R)] = some ((((1, 1), (0, 1), C, subv (1, 1) w), 0, ()), ()) := km.trans (by
    rw [hR]
    show some ((_, e8 (matP [(2, R)] 1).1, ()), ()) = _
    rw [hm]; rfl)
  have sm : SmallM ((1, 1), (0, 1), C, subv (1, 1) w) := ⟨small_one (by decide) (by decide), small_one (by decide) (by decide), sC, small_subv _ _⟩
  have kF := k_Focal ⟨sm.1.i, sm.2.1.i, sm.2.2.1.i, sm.2.2.2.i⟩ sm
  have hRq := rat_pos h
  rw [qr_one, qr_one] at eq
  rw [qr_one] at q1 q2
  have qC : qr C = -(2 / (R : Rat)) := by rw [q2, q1, eq]; grind
  have zC : C.1 ≠ 0 := fun h0 => by
    have := (qr_zero sC).2 h0
    rw [qC] at this
    grind
  have sn : Small (-1, 1) := small_one (by decide) (by decide)
  have C0 := i2.1
  have l5 : quol (-1, 1) C = false := by
    unfold quol
    rw [if_neg zC]
    exact (lg_small (show (1 : Int) * C.1 ≠ 0 by omega) (by first | omega | (dsimp only; omega)) (by first | omega | (dsimp only; omega)) (by first | omega | (dsimp only; omega)) (by first | omega | (dsimp only; omega))).1
  have e5 := (qr_quo sn sC l5).2
  have hE2 : focE (1, 1) ((1, 1), (0, 1), C, subv (1, 1) w) = 0 := by
    unfold focE
    dsimp only
    rw [if_neg zC, show quol (-1, 1) C = false from l5]
    rfl
  have hV2 : focV (1, 1) ((1, 1), (0, 1), C, subv (1, 1) w) = low R 2 := by
    unfold focV
    dsimp only
    rw [if_neg zC, show quol (-1, 1) C = false from l5, if_neg (by decide)]
    refine qr_eq (small_quov _ _).1 (low_is (by decide)) ?_
    rw [show qr (quov (-1, 1) C) = qr (-1, 1) / qr C from e5, qr_one, qC, qr_low (by decide)]
    have : ((2 : Int) : Rat) = 2 := rfl
    have : ((-1 : Int) : Rat) = -1 := rfl
    grind
  rw [hE2, hV2] at kF
  exact ⟨_, km, kF⟩
theorem par_arith {h R F : Rat} (hR : R ≠ 0) (hF : F * (h * h + R * R) = 2 * R) (hd : -1 + F * R ≠ 0) : h + (R / 2 - h * h / (2 * R)) * ((0 - F * h) / (-1 + F * R)) = 0 := by
  have e : (R / 2 - h * h / (2 * R)) * (0 - F * h) = -h * (-1 + F * R) := by
    have e1 : F * (h * h) = 2 * R - F * (R * R) := by grind
    have e2 : F * (h * h / (2 * R)) = 1 - F * R / 2 := by grind
    grind
  grind
theorem par_focus {h R F : Rat} (hR : R ≠ 0) (hz : h * h + R * R ≠ 0) (hF : F * (h * h + R * R) = 2 * R) (hd : -1 + F * R = 0) : h * h / (2 * R) = R / 2 := by
  have e1 : h * h = R * R := by
    have : F * (h * h) + F * R * R = 2 * R := by grind
    have : F * R = 1 := by grind
    have : F * (h * h) * R = R * R := by grind
    grind
  grind

theorem k_TopParabolaFocus {radius : Int} {height : Int} (b0 : bulkT (.int .i64) radius ≤ 1048576) (w0 : wfT (.int .i64) radius) (b1 : bulkT (.int .i64) height ≤ 1048576) (w1 : wfT (.int .i64) height) : top_TopParabolaFocus radius height = some ((true, ()), ()) := by
  simp only [top_TopParabolaFocus, T_top_TopParabolaFocus]
  rw [r_bind, seen_ok, Option.bind_some]
  refine (br_f rfl).trans ?_
  refine (r_bs (k_Within radius 1 400)).trans ?_
  by_cases c1 : 1 ≤ radius ∧ radius ≤ 400
  · refine (br_f (by simp [c1])).trans ?_
    refine (r_bs (k_Within height (-200) 200)).trans ?_
    by_cases c2 : -200 ≤ height ∧ height ≤ 200
    · refine (br_f (by simp [c2])).trans ?_
      obtain ⟨R1, R2⟩ := c1
      obtain ⟨h1, h2⟩ := c2
      have mb := mul_bd (a := height) (b := height) (m := 200) (n := 200) (by omega) (by omega) (by omega) (by omega)
      have g1 : IntKind.i64.wrap (height * height) = height * height := w64' (by omega) (by omega)
      have g2 : IntKind.i64.wrap (2 * radius) = 2 * radius := w64' (by omega) (by omega)
      have kl := k_Lowest (n := height * height) (d := 2 * radius) (by omega) (by omega) (by omega) (by omega) (by omega)
      have bz := low_bd (n := height * height) (d := 2 * radius) (by omega)
      have qz := qr_low (n := height * height) (d := 2 * radius) (by omega)
      have sz : Small (low (height * height) (2 * radius)) := ⟨low_is (by omega), by omega, by omega, by omega⟩
      generalize low (height * height) (2 * radius) = Z at *
      have sh : Small (height, 1) := small_one (by omega) (by omega)
      have hra := raPar R1 R2
      have i1 : I64 (radius, (-1 : Int), (1 : Int)).2.1 := ⟨show (-9223372036854775808 : Int) ≤ -1 by decide, show (-1 : Int) ≤ 9223372036854775807 by decide⟩
      have i2 : I64 (radius, (-1 : Int), (1 : Int)).2.2 := ⟨show (-9223372036854775808 : Int) ≤ 1 by decide, show (1 : Int) ≤ 9223372036854775807 by decide⟩
      have kO := k_OnConic (x := (radius, -1, 1)) (p := ((height, 1), Z)) hra sh sz i1 i2
      have kRf := k_Reflect (x := (radius, -1, 1)) (p := ((height, 1), Z)) (tw := (0, -1)) hra sh sz (by decide) i1 i2
      obtain ⟨m, kM, kF⟩ := mirror R1 R2
      have kl2 := k_Lowest (n := radius) (d := 2) (by decide) (by omega) (by omega) (by decide) (by decide)
      have sf : Small (low radius 2) := by
        have := low_bd (n := radius) (d := 2) (by decide)
        exact ⟨low_is (by decide), by omega, by omega, by omega⟩
      have qf := qr_low (n := radius) (d := 2) (by decide)
      generalize low radius 2 = f at *
      refine (r_bs (k_twhole (-1))).trans ?_
      refine (r_bs (k_twhole height)).trans ?_
      simp only [g1, g2]
      refine (r_bs kl).trans ?_
      refine (r_bs kO).trans ?_
      refine (r_bs kM).trans ?_
      refine (r_bs kF).trans ?_
      cases hL : offL (radius, -1, 1) ((height, 1), Z) with
      | true => exact (br_t rfl).trans (r_ret _)
      | false =>
        have hRq := rat_pos R1
        have hon : onB (radius, -1, 1) ((height, 1), Z) = true := by
          unfold onB
          rw [hL, if_neg (by decide)]
          refine decide_eq_true ?_
          refine (qr_zero (small_subv _ _)).1 ?_
          simp only [offL, Bool.or_eq_false_iff] at hL
          obtain ⟨⟨⟨⟨⟨⟨_, a1⟩, a2⟩, a3⟩, a4⟩, a5⟩, a6⟩ := hL
          have sk : Small (onek (radius, -1, 1)) := onek_small hra
          have sw : Small (2 * radius, 1) := small_one (by omega) (by omega)
          have ek : qr (onek (radius, -1, 1)) = 0 := (qr_zero sk).2 rfl
          show qr (offV (radius, -1, 1) ((height, 1), Z)) = 0
          unfold offV
          dsimp only at *
          rw [qr_sub (small_addv _ _) (small_mulv _ _) a6, qr_add (small_mulv _ _) (small_mulv _ _) a4, qr_mul sh sh a1, qr_mul sk (small_mulv _ _) a3, ek, qr_mul sw sz a5, qr_one, qr_one, qz, Rat.intCast_mul, Rat.intCast_mul]
          have : ((2 : Int) : Rat) = 2 := rfl
          grind
        refine (br_f rfl).trans ?_
        refine (br_f rfl).trans ?_
        refine (br_f (by rw [hon]; rfl)).trans ?_
        refine (br_f rfl).trans ?_
        refine (br_f rfl).trans ?_
        refine (r_bs kl2).trans ?_
        refine (br_f (by simp)).trans ?_
        refine (r_bs kRf).trans ?_
        have hn : Small (norV (radius, -1, 1) ((height, 1), Z)) := small_subv _ _
        have h8 : (refR (radius, -1, 1) ((height, 1), Z) (0, -1)).2 = 8 ∨ (refR (radius, -1, 1) ((height, 1), Z) (0, -1)).2 = 0 := by
          unfold refR
          rw [if_neg (by rw [hL]; decide), if_neg (by rw [hon]; decide)]
          split
          · exact .inl rfl
          · rename_i hN
            have hN : norL (radius, -1, 1) ((height, 1), Z) = false := by simpa using hN
            have hne : ¬ (norV (radius, -1, 1) ((height, 1), Z)).1 = 0 := by
              intro h0
              have h0' := (qr_zero hn).2 h0
              simp only [norL, Bool.or_eq_false_iff] at hN
              obtain ⟨⟨_, a1⟩, a2⟩ := hN
              have sk : Small (onek (radius, -1, 1)) := onek_small hra
              have sR : Small (radius, 1) := small_one (by omega) (by omega)
              have ek : qr (onek (radius, -1, 1)) = 0 := (qr_zero sk).2 rfl
              unfold norV at h0'
              dsimp only at *
              rw [qr_sub (small_mulv _ _) sR a2, qr_mul sk sz a1, ek, qr_one] at h0'
              grind
            rw [if_neg (fun hh => hne hh.2)]
            split
            · exact .inl rfl
            · exact .inr rfl
        rcases h8 with h8 | h8
        · exact (br_t (by rw [h8]; rfl)).trans (r_ret _)
        · obtain ⟨_, _, b3, _, b5, b6⟩ := refR_ok h8
          have s0 : Small (0, 1) := small_one (by decide) (by decide)
          have s1 : Small (-1, 1) := small_one (by decide) (by decide)
          obtain ⟨F, f1, f2, f3, f4⟩ := out_q s0 s1 sh hn b5
          have qn : qr (norV (radius, -1, 1) ((height, 1), Z)) = -(radius : Rat) := by
            simp only [norL, Bool.or_eq_false_iff] at b3
            obtain ⟨⟨_, a1⟩, a2⟩ := b3
            have sk : Small (onek (radius, -1, 1)) := onek_small hra
            have sR : Small (radius, 1) := small_one (by omega) (by omega)
            have ek : qr (onek (radius, -1, 1)) = 0 := (qr_zero sk).2 rfl
            unfold norV
            dsimp only at *
            rw [qr_sub (small_mulv _ _) sR a2, qr_mul sk sz a1, ek, qr_one]
            grind
          have c0 : ((0 : Int) : Rat) = 0 := rfl
          have c1' : ((-1 : Int) : Rat) = -1 := rfl
          have c2' : ((2 : Int) : Rat) = 2 := rfl
          rw [qn] at f1
          rw [qn] at f2
          rw [qn] at f4
          rw [qr_one, qr_one, qr_one, c0, c1'] at f1
          rw [qr_one] at f2
          rw [qr_one, qr_one, c0] at f3
          rw [qr_one, c1'] at f4
          have so0 : Small (outV (0, 1) (-1, 1) (height, 1) (norV (radius, -1, 1) ((height, 1), Z))).1 := small_subv _ _
          have so1 : Small (outV (0, 1) (-1, 1) (height, 1) (norV (radius, -1, 1) ((height, 1), Z))).2 := small_subv _ _
          have b6 : (refR (radius, -1, 1) ((height, 1), Z) (0, -1)).1 = outV (0, 1) (-1, 1) (height, 1) (norV (radius, -1, 1) ((height, 1), Z)) := b6
          rw [b6, h8]
          generalize outV (0, 1) (-1, 1) (height, 1) (norV (radius, -1, 1) ((height, 1), Z)) = o at *
          obtain ⟨o0, o1⟩ := o
          dsimp only at f3 f4 so0 so1
          rw [Rat.intCast_mul, Rat.intCast_mul, c2'] at qz
          rw [c2'] at qf
          have F1 : F * ((height : Rat) * height + (radius : Rat) * radius) = 2 * radius := by grind
          have F2 : (height : Rat) * height + (radius : Rat) * radius ≠ 0 := by grind
          have F4 : qr o1 = -1 + F * radius := by rw [f4]; grind
          refine (br_f rfl).trans ?_
          refine (br_f rfl).trans ?_
          by_cases cd : o1.1 = 0
          · refine (br_t (decide_eq_true cd)).trans ((r_ret _).trans ?_)
            have hd := (qr_zero so1).2 cd
            rw [F4] at hd
            have : Z = f := qr_eq sz.1 sf.1 (by rw [qz, qf]; exact par_focus hRq F2 F1 hd)
            rw [this]
            simp
          · refine (br_f (decide_eq_false cd)).trans ?_
            have kH := k_HeightAt (p := ((height, 1), Z)) (t := (o0, o1)) (z := f) sh.i sz.i so0.i so1.i sf.i
            refine (r_bs kH).trans ?_
            have hC : heC ((height, 1), Z) (o0, o1) f = 0 := firstErr_0 fun j hj => by
              match j, hj with
              | 0, _ => exact cfE_of sh
              | 1, _ => exact cfE_of sz
              | 2, _ => exact cfE_of so0
              | 3, _ => exact cfE_of so1
              | 4, _ => exact cfE_of sf
            unfold heR
            rw [if_pos hC, if_neg cd]
            cases hH : heL ((height, 1), Z) (o0, o1) f with
            | true => exact (br_t rfl).trans (r_ret _)
            | false =>
              refine (br_f rfl).trans ?_
              refine (br_t rfl).trans ((r_ret _).trans ?_)
              have hv : (heV ((height, 1), Z) (o0, o1) f).1 = 0 := by
                refine (qr_zero (small_addv _ _)).1 ?_
                simp only [heL, Bool.or_eq_false_iff] at hH
                obtain ⟨⟨⟨⟨_, a1⟩, a2⟩, a3⟩, a4⟩ := hH
                show qr (heV ((height, 1), Z) (o0, o1) f) = 0
                unfold heV
                dsimp only at *
                rw [qr_add sh (small_mulv _ _) a4, qr_mul (small_subv _ _) (small_quov _ _) a3, qr_sub sf sz a1, (qr_quo so0 so1 a2).2, qr_one, qf, qz, f3, F4]
                exact par_arith hRq F1 (by rw [← F4]; exact fun h0 => cd ((qr_zero so1).1 h0))
              show some ((decide ((heV ((height, 1), Z) (o0, o1) f).1 = 0), ()), ()) = _
              rw [hv]
              rfl
    · refine (br_t ?_).trans (r_ret _)
      simp only [c2, decide_false, Bool.not_false]
  · refine (br_t ?_).trans (r_ret _)
    simp only [c1, decide_false, Bool.not_false]
end Go.Ab
