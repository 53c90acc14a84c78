/- Polynomials of any size: what the program's functions compute, up to the sign behind a point. -/
import Derived.Test.YtgncmamcgplcgaaW5
namespace Go.Ab
open Go
set_option maxRecDepth 1000000
set_option maxHeartbeats 1000000
set_option linter.unusedVariables false
set_option linter.unusedSimpArgs false

theorem hB32 : 0 < B32 := by decide
theorem req_nu {ρ : Type} {t : Tr ρ} {α : Type} {a : List α} {d : α} {b : Nat} (h : a.length + 1 ≤ 1099511627776) (hb : (a.length + 1) * b ≤ 140737488355328) : (Tr.req (okApp (a.length + [d].length) b) t).run = t.run := q_of (app_t' h hb)
theorem req_len' {ρ : Type} {t : Tr ρ} {α : Type} {a : List α} {d : α} : (Tr.req (decide (a.length + [d].length = (a ++ [d]).length)) t).run = t.run := q_of (decide_eq_true (by simp))

theorem k_seriesOf {p : List Int} (hp : p.length ≤ 7) (hc : ∀ i : Nat, i < p.length → -9223372036854775807 ≤ gN p i ∧ gN p i ≤ 9223372036854775807) : ∃ r, number_seriesOf p = some ((r, ()), ()) ∧ WL B32 2 r p := by
  have key : ∃ r, iterF (fun q_ => (T_number_seriesOf_l0 p q_.1 q_.2.1).run) FUEL ([], 0, ()) = some r ∧ ∃ q, r = ((q, ()), ()) ∧ WL B32 2 q p := by
    refine iter_post (fun i st => i ≤ p.length ∧ ∃ o, st = (o, (i : Int), ()) ∧ WL B32 2 o (mkL (gN p) i)) _ p.length (by omega) ?_ ⟨Nat.zero_le _, [], rfl, WL.nil hB32 2⟩
    rintro i st hi ⟨_, o, rfl, ho⟩
    have hl := ho.len
    rw [mkL_len] at hl
    simp only [T_number_seriesOf_l0]
    by_cases h : i < p.length
    · left
      obtain ⟨r, k1, k2⟩ := k_integerOf (hc i h).1 (hc i h).2
      refine ⟨_, ?_, h, h, _, rfl, ho.snocL k2⟩
      rw [w64' (x := (i : Int) + 1) (by omega) (by omega)]
      refine (br_t (decide_eq_true (by omega))).trans ?_
      refine (q_of (inB_t' (by omega) (by omega))).trans ?_
      refine (r_bs k1).trans ?_
      refine (q_of (by simp)).trans ?_
      refine (req_nu (a := o) (b := 32) (by omega) (by omega)).trans ?_
      refine req_len'.trans ?_
      exact r_ret _
    · right
      have : i = p.length := by omega
      subst this
      refine ⟨_, (br_f (decide_eq_false (by omega))).trans (r_ret _), _, rfl, ?_⟩
      rw [show mkL (gN p) p.length = p from li_ext (mkL_len _ _) (fun i h => by rw [mkL_get, if_pos (by rw [mkL_len] at h; exact h)])] at ho
      exact ho
  obtain ⟨r, h1, q, rfl, h2⟩ := key
  refine ⟨q, ?_, h2⟩
  simp only [number_seriesOf, T_number_seriesOf]
  refine (q_of rfl).trans ((r_iter _ _ _).trans ?_)
  exact h1
theorem k_slope {n : Nat} {l : List Nu} {P : List Int} (h : WL B32 n l P) (hl : P.length ≤ 8) (hn : n ≤ 536870912) : ∃ r, number_series_slope l = some ((r, ()), ()) ∧ WL B32 (n + 2) r (dZ P) := by
  have hlen := h.len
  have key : ∃ r, iterF (fun q_ => (T_number_series_slope_l0 l q_.1 q_.2.1).run) FUEL ([], 1, ()) = some r ∧ ∃ q, r = ((q, ()), ()) ∧ WL B32 (n + 2) q (dZ P) := by
    refine iter_post (fun i st => i ≤ P.length - 1 ∧ ∃ o, ∃ v : Int, st = (o, v, ()) ∧ v = ((i + 1 : Nat) : Int) ∧ WL B32 (n + 2) o (mkL (fun i => gN P (i + 1) * ((i : Int) + 1)) i)) _ (P.length - 1) (by omega) ?_ ⟨Nat.zero_le _, [], 1, rfl, rfl, WL.nil hB32 _⟩
    rintro i st hi ⟨_, o, v, rfl, hv, ho⟩
    have hol := ho.len
    rw [mkL_len] at hol
    simp only [T_number_series_slope_l0]
    by_cases h0 : i < P.length - 1
    · left
      obtain ⟨r, k1, k2⟩ := k_integerOf (n := v) (by omega) (by omega)
      have hi1 := h.wi (i + 1)
      rw [← hv] at hi1
      obtain ⟨s, k3, k4⟩ := k_times hi1 k2 (by omega) (by omega)
      rw [show gN P (i + 1) * v = gN P (i + 1) * ((i : Int) + 1) by rw [show v = (i : Int) + 1 by omega]] at k4
      have e1 : IntKind.i64.wrap (v + 1) = v + 1 := w64' (by omega) (by omega)
      refine ⟨_, ?_, h0, by omega, _, v + 1, rfl, by omega, ho.snocL k4⟩
      rw [e1]
      refine (br_t (decide_eq_true (by omega))).trans ?_
      refine (q_of (inB_t' (by omega) (by omega))).trans ?_
      refine (r_bs k1).trans ?_
      refine (r_bs k3).trans ?_
      refine (q_of (by simp)).trans ?_
      refine (req_nu (a := o) (b := 32) (by omega) (by omega)).trans ?_
      refine req_len'.trans ?_
      exact r_ret _
    · right
      have : i = P.length - 1 := by omega
      subst this
      exact ⟨_, (br_f (decide_eq_false (by omega))).trans (r_ret _), _, rfl, ho⟩
  obtain ⟨r, h1, q, rfl, h2⟩ := key
  refine ⟨q, ?_, h2⟩
  simp only [number_series_slope, T_number_series_slope]
  refine (q_of rfl).trans ((r_iter _ _ _).trans ?_)
  exact h1
theorem k_pointOf {a b : Int} (h1 : -9223372036854775807 ≤ a) (h2 : a ≤ 9223372036854775807) (h3 : -9223372036854775807 ≤ b) (h4 : b ≤ 9223372036854775807) :
    ∃ x : Nu × Nu, number_pointOf a b = some ((x, ()), ()) ∧ WI B32 2 x.1 a ∧ WI B32 2 x.2 b := by
  obtain ⟨x, k1, k2⟩ := k_integerOf h1 h2
  obtain ⟨y, k3, k4⟩ := k_integerOf h3 h4
  refine ⟨(x, y), ?_, k2, k4⟩
  simp only [number_pointOf, T_number_pointOf]
  refine (r_bs k1).trans ?_
  refine (r_bs k3).trans ?_
  exact r_ret _
theorem k_sign {n : Nat} {l : List Nu} {P : List Int} (h : WL B32 n l P) (hl : P.length ≤ 8) (hn : n ≤ 536870912) {x : Nu × Nu} {a b : Int} (hx : WI B32 2 x.1 a) (hy : WI B32 2 x.2 b) :
    number_series_sign l x = some ((sgn (hz P a b), ()), ()) := by
  have hlen := h.len
  obtain ⟨o, k1, k2⟩ := k_integerOf (n := 1) (by decide) (by decide)
  simp only [number_series_sign, T_number_series_sign]
  refine (r_bs k1).trans ?_
  rw [w64' (x := (l.length : Int) - 1) (by omega) (by omega), r_iter]
  refine iter_eq (fun i st => i ≤ P.length ∧ ∃ s w : Nu, st = ((P.length : Int) - 1 - i, s, w, ()) ∧ WI B32 (n + 4 * i + 2) s (hzs P a b i).1 ∧ WI B32 (2 + 2 * i) w (hzs P a b i).2) _ P.length (by omega) ?_
    ⟨Nat.zero_le _, (0, []), o, by rw [hlen]; simp, WI.zero hB32, k2⟩
  rintro i st hi ⟨_, s, w, rfl, hs, hw⟩
  simp only [T_number_series_sign_l1]
  by_cases h0 : i < P.length
  · left
    have e1 : (P.length : Int) - 1 - (i : Int) = ((P.length - 1 - i : Nat) : Int) := by omega
    obtain ⟨r1, q1, q2⟩ := k_times hs hx (by omega) (by omega)
    obtain ⟨r2, q3, q4⟩ := k_times (h.wi (P.length - 1 - i)) hw (by omega) (by omega)
    obtain ⟨r3, q5, q6⟩ := k_plus q2 q4 (by omega) (by omega)
    obtain ⟨r4, q7, q8⟩ := k_times hw hy (by omega) (by omega)
    refine ⟨((P.length : Int) - 1 - ((i + 1 : Nat) : Int), r3, r4, ()), ?_, h0, h0, r3, r4, rfl, q6.up (by omega), q8.up (by omega)⟩
    rw [e1]
    have e2 : IntKind.i64.wrap (((P.length - 1 - i : Nat) : Int) - 1) = (P.length : Int) - 1 - ((i + 1 : Nat) : Int) := by rw [w64' (by omega) (by omega)]; omega
    rw [e2]
    refine (br_t (decide_eq_true (by omega))).trans ?_
    refine (r_bs q1).trans ?_
    refine (q_of (inB_t' (by omega) (by omega))).trans ?_
    refine (r_bs q3).trans ?_
    refine (r_bs q5).trans ?_
    refine (r_bs q7).trans ?_
    exact r_ret _
  · right
    have : i = P.length := by omega
    subst this
    refine (br_f (decide_eq_false (by omega))).trans ((r_ret _).trans ?_)
    rw [hs.sg hB32]; rfl
theorem k_signBehind {n : Nat} {l : List Nu} {P : List Int} (h : WL B32 n l P) (hl : P.length ≤ 7) (hn : n ≤ 268435456) {x : Nu × Nu} {a b : Int} (hx : WI B32 2 x.1 a) (hy : WI B32 2 x.2 b) :
    number_series_signBehind l x = some ((bhF a b 8 P, ()), ()) := by
  simp only [number_series_signBehind, T_number_series_signBehind, r_iter]
  refine iter_eq (fun i st => i ≤ 7 ∧ ∃ o Q, st = (o, ()) ∧ WL B32 (n + 2 * i) o Q ∧ Q.length ≤ 7 - i ∧ bhF a b (8 - i) Q = bhF a b 8 P) _ 7 (by omega) ?_ ⟨by omega, l, P, rfl, h, hl, rfl⟩
  rintro i st hi ⟨_, o, Q, rfl, ho, hQ, hb⟩
  have hlen := ho.len
  simp only [T_number_series_signBehind_l0]
  obtain ⟨k, hk⟩ : ∃ k, 8 - i = k + 1 := ⟨7 - i, by omega⟩
  rw [hk, bhF] at hb
  by_cases h0 : Q.length = 0
  · right
    rw [if_pos h0] at hb
    refine (br_f (decide_eq_false (by omega))).trans ((r_ret _).trans ?_)
    rw [← hb]
  · rw [if_neg h0] at hb
    have ks := k_sign ho (by omega) (by omega) hx hy
    by_cases hz0 : sgn (hz Q a b) = 0
    · left
      rw [if_pos hz0] at hb
      obtain ⟨r, k1, k2⟩ := k_slope ho (by omega) (by omega)
      refine ⟨_, ?_, by omega, by omega, r, dZ Q, rfl, k2.up (by omega), by rw [dZ_len]; omega, by rw [← hb]; congr 1; omega⟩
      refine (br_t (decide_eq_true (by omega))).trans ?_
      refine (r_bs ks).trans ?_
      refine (br_f (nd hz0)).trans ?_
      refine (r_bs k1).trans ?_
      exact r_ret _
    · right
      rw [if_neg hz0] at hb
      refine (br_t (decide_eq_true (by omega))).trans ?_
      refine (r_bs ks).trans ?_
      refine (br_t (nd' hz0)).trans ?_
      rw [← hb]
      exact r_ret _

/-! ### Remainders -/

theorem k_clone {l : List Nu} (h : 0 < l.length) (h2 : l.length ≤ 1000) : slices_Clone_number_integer l = some ((((l.length : Int), l), ()), ()) := by
  simp only [slices_Clone_number_integer, T_slices_Clone_number_integer]
  refine (br_f (decide_eq_false (by omega))).trans ?_
  refine (q_of (app_t' (by omega) (by omega))).trans ?_
  refine (q_of (decide_eq_true h)).trans ?_
  exact r_ret _
/-- The first m numbers of a row stand for a polynomial. -/
structure RL (B : Int) (n m : Nat) (o : List Nu) (P : List Int) : Prop where
  len : m = P.length
  le : m ≤ o.length
  wi : ∀ i : Nat, i < m → WI B n (gi o (i : Int)) (gN P i)
theorem rem_l9 (q : List Nu) (a1 : Int) (b1 : List Nu) (a9 : Int) (b9 : List Nu) : T_number_series_remainder_l9 q a1 b1 a9 b9 = T_number_series_remainder_l3 q a1 ((gi b1 (IntKind.i64.wrap ((Int.toNat a1 : Int) - 1)), ()), ()) a9 b9 := by kernel_rfl

theorem k_trimRow {n m : Nat} {o : List Nu} {f : Nat → Int} (hm : m ≤ 1000) (hw : ∀ i : Nat, i < m → WI B32 n (gi o (i : Int)) (f i)) :
    iterF (fun q_ => (T_number_series_remainder_l8 o q_.1).run) FUEL ((m : Int), ()) = some (.inr (.inl ((tz f m : Int), o, ()))) := by
  refine iter_eq (fun i st => ∃ k : Nat, k + i = m ∧ st = ((k : Int), ()) ∧ tz f k = tz f m) _ m (by omega) ?_ ⟨m, rfl, rfl, rfl⟩
  rintro i st hi ⟨k, hk, rfl, ht⟩
  cases k with
  | zero =>
    right
    simp only [T_number_series_remainder_l8, Int.toNat_natCast]
    refine (br_f (decide_eq_false (by omega))).trans ((r_ret _).trans ?_)
    rw [← ht]; rfl
  | succ k =>
    have e1 : IntKind.i64.wrap (((k + 1 : Nat) : Int) - 1) = (k : Int) := by rw [w64' (by omega) (by omega)]; omega
    simp only [T_number_series_remainder_l8, Int.toNat_natCast, e1]
    have hs := (hw k (by omega)).eq0 hB32
    rw [tz] at ht
    by_cases hz0 : f k = 0
    · left
      rw [if_pos hz0] at ht
      refine ⟨_, ?_, by omega, k, by omega, rfl, ht⟩
      refine (br_t (decide_eq_true (by omega))).trans ?_
      refine (q_of (inB_t' (by omega) (by omega))).trans ?_
      refine (br_t (decide_eq_true (hs.2 hz0))).trans ?_
      refine (q_of (bnd_t' (by omega) (by omega) (by omega))).trans ?_
      exact r_ret _
    · right
      rw [if_neg hz0] at ht
      refine (br_t (decide_eq_true (by omega))).trans ?_
      refine (q_of (inB_t' (by omega) (by omega))).trans ?_
      refine (br_f (decide_eq_false (fun h => hz0 (hs.1 h)))).trans ((r_ret _).trans ?_)
      rw [← ht]

theorem k_row {n nq m : Nat} {o q : List Nu} {P Q : List Int} (ho : RL B32 n m o P) (hq : WL B32 nq q Q) (hQ : 0 < Q.length) (hle : Q.length ≤ m) (hm : m ≤ 7) (hn : n ≤ 268435456) (hnq : nq ≤ 268435456) (ht : gN Q (Q.length - 1) ≠ 0)
    {z : (Nu × Unit) × Unit} (hz : WI B32 n z.1.1 (sgn (gN Q (Q.length - 1)) * gN P (P.length - 1))) :
    ∃ o', iterF (fun q_ => (T_number_series_remainder_l3 q (m : Int) z q_.1 q_.2.1).run) FUEL (0, o, ()) = some (.inl (((stepZ P Q).length : Int), o', ())) ∧ RL B32 (n + nq + 2) (stepZ P Q).length o' (stepZ P Q) := by
  have hlen := hq.len
  have hPl := ho.len
  have key : ∃ r, iterF (fun q_ => (T_number_series_remainder_l3 q (m : Int) z q_.1 q_.2.1).run) FUEL (0, o, ()) = some r ∧ ∃ o', r = .inl (((stepZ P Q).length : Int), o', ()) ∧ RL B32 (n + nq + 2) (stepZ P Q).length o' (stepZ P Q) := by
    refine iter_post (fun i st => i ≤ m ∧ ∃ p, st = ((i : Int), p, ()) ∧ p.length = o.length ∧ (∀ j : Nat, j < i → WI B32 (n + nq + 2) (gi p (j : Int)) (stF P Q j)) ∧ ∀ j : Nat, i ≤ j → j < m → WI B32 n (gi p (j : Int)) (gN P j)) _ m (by omega) ?_
      ⟨Nat.zero_le _, o, rfl, rfl, fun j h => by omega, fun j _ h => ho.wi j h⟩
    rintro i st hi ⟨_, p, rfl, hpl, hdone, htodo⟩
    have hol := ho.le
    have el : IntKind.i64.wrap ((q.length : Int) - 1) = ((Q.length - 1 : Nat) : Int) := by rw [w64' (by omega) (by omega)]; omega
    have es : IntKind.i64.wrap ((m : Int) - (q.length : Int)) = ((m - Q.length : Nat) : Int) := by rw [w64' (by omega) (by omega)]; omega
    simp only [T_number_series_remainder_l3, Int.toNat_natCast, el, es]
    by_cases h0 : i < m
    · left
      have hl := (hq.wi (Q.length - 1))
      have hl0 : (gi q ((Q.length - 1 : Nat) : Int)).1 ≠ 0 := fun h => ht ((hl.eq0 hB32).1 h)
      have hsz := hl.abs hB32 hl0
      obtain ⟨r1, k1, k2⟩ := k_times (htodo i (Nat.le_refl _) h0) hsz (by omega) (by omega)
      have e1 : IntKind.i64.wrap ((i : Int) + 1) = ((i + 1 : Nat) : Int) := by rw [w64' (by omega) (by omega)]; omega
      have hlt : i < p.length := by omega
      by_cases hs : m - Q.length ≤ i
      · have e2 : IntKind.i64.wrap ((i : Int) - ((m - Q.length : Nat) : Int)) = ((i - (m - Q.length) : Nat) : Int) := by rw [w64' (by omega) (by omega)]; omega
        obtain ⟨r2, k3, k4⟩ := k_times hz (hq.wi (i - (m - Q.length))) (by omega) (by omega)
        obtain ⟨r3, k5, k6⟩ := k_minus k4
        obtain ⟨r4, k7, k8⟩ := k_plus k2 k6 (by omega) (by omega)
        refine ⟨_, ?_, h0, h0, (p.set i r1).set i r4, rfl, by simp [hpl], fun j hj => ?_, fun j h1 h2 => ?_⟩
        · rw [e1, e2]
          refine (br_t (decide_eq_true (by omega))).trans ?_
          refine (q_of (inB_t' (by omega) (by omega))).trans ?_
          refine (r_bs k1).trans ?_
          refine (q_of (inB_t' (by omega) (by omega))).trans ?_
          refine (br_t (decide_eq_true (by omega))).trans ?_
          refine (q_of (inB_t' (by omega) (by omega))).trans ?_
          refine (q_of (inB_t' (by omega) (by omega))).trans ?_
          refine (r_bs k3).trans ?_
          refine (r_bs k5).trans ?_
          have eg : gi (p.set i r1) (i : Int) = r1 := by rw [ga_set hlt, if_pos rfl]
          dsimp only
          rw [show ((r1.1, r1.2) : Nu) = r1 from rfl, eg]
          refine (r_bs k7).trans ?_
          refine (q_of (inB_t' (by omega) (by omega))).trans ?_
          exact r_ret _
        · rw [ga_set (by simpa using hlt), ga_set hlt]
          by_cases e : j = i
          · rw [if_pos e, e]
            have ev : stF P Q i = gN P i * (sgn (gN Q (Q.length - 1)) * gN Q (Q.length - 1)) + -(sgn (gN Q (Q.length - 1)) * gN P (P.length - 1) * gN Q (i - (m - Q.length))) := by
              unfold stF
              rw [← hPl, if_pos hs]
              grind
            rw [ev]
            exact k8.up (by omega)
          · rw [if_neg e, if_neg e]; exact hdone j (by omega)
        · rw [ga_set (by simpa using hlt), ga_set hlt, if_neg (by omega), if_neg (by omega)]
          exact htodo j (by omega) h2
      · refine ⟨_, ?_, h0, h0, p.set i r1, rfl, by simp [hpl], fun j hj => ?_, fun j h1 h2 => ?_⟩
        · rw [e1]
          refine (br_t (decide_eq_true (by omega))).trans ?_
          refine (q_of (inB_t' (by omega) (by omega))).trans ?_
          refine (r_bs k1).trans ?_
          refine (q_of (inB_t' (by omega) (by omega))).trans ?_
          refine (br_f (decide_eq_false (by omega))).trans ?_
          exact r_ret _
        · rw [ga_set hlt]
          by_cases e : j = i
          · rw [if_pos e, e]
            have ev : stF P Q i = gN P i * (sgn (gN Q (Q.length - 1)) * gN Q (Q.length - 1)) := by
              unfold stF
              rw [← hPl, if_neg hs]
              grind
            rw [ev]
            exact k2.up (by omega)
          · rw [if_neg e]; exact hdone j (by omega)
        · rw [ga_set hlt, if_neg (by omega)]
          exact htodo j (by omega) h2
    · right
      have : i = m := by omega
      subst this
      have hk := k_trimRow (f := stF P Q) (by omega) hdone
      have hz0 := stF_top (a := P) (b := Q) (by omega) hQ
      have hsl : (stepZ P Q).length = tz (stF P Q) i := by
        unfold stepZ
        rw [mkL_len]
        rw [← hPl] at hz0 ⊢
        obtain ⟨k, e⟩ : ∃ k, i = k + 1 := ⟨i - 1, by omega⟩
        subst e
        rw [Nat.add_sub_cancel] at hz0 ⊢
        rw [tz, if_pos hz0]
      refine ⟨_, (br_f (decide_eq_false (by omega))).trans ((r_iter _ _ _).trans hk), p, by rw [hsl], rfl, ?_, fun j hj => ?_⟩
      · have := tz_le (stF P Q) i
        omega
      · have := tz_le (stF P Q) i
        have e : gN (stepZ P Q) j = stF P Q j := by
          unfold stepZ
          rw [mkL_get, if_pos (by unfold stepZ at hj; rw [mkL_len] at hj; exact hj)]
        rw [e]
        exact hdone j (by omega)
  obtain ⟨r, h1, o', rfl, h2⟩ := key
  exact ⟨o', h1, h2⟩
theorem sgn_neg' {v : Int} (h : v < 0) : sgn v = -1 := by unfold sgn; rw [if_neg (by omega), if_neg (by omega)]
theorem sgn_pos' {v : Int} (h : 0 < v) : sgn v = 1 := by unfold sgn; rw [if_neg (by omega), if_pos h]
theorem k_remainder {n nq : Nat} {l q : List Nu} {P Q : List Int} (hp : WL B32 n l P) (hq : WL B32 nq q Q) (hP : 0 < P.length) (hm : P.length ≤ 7) (hQ : 0 < Q.length) (hQ7 : Q.length ≤ 7) (ht : gN Q (Q.length - 1) ≠ 0) (hn : n + 8 * (nq + 2) ≤ 268435456) :
    ∃ o, number_series_remainder l q = some (((((remZ P Q).length : Int), o), ()), ()) ∧ RL B32 (n + 8 * (nq + 2)) (remZ P Q).length o (remZ P Q) := by
  have hlen := hp.len
  have hlq := hq.len
  have el : IntKind.i64.wrap ((q.length : Int) - 1) = ((Q.length - 1 : Nat) : Int) := by rw [w64' (by omega) (by omega)]; omega
  have key : ∃ r, iterF (fun q_ => (T_number_series_remainder_l1 q q_.1 q_.2.1).run) FUEL ((l.length : Int), l, ()) = some r ∧ ∃ o, r = (((((remZ P Q).length : Int), o), ()), ()) ∧ RL B32 (n + 8 * (nq + 2)) (remZ P Q).length o (remZ P Q) := by
    refine iter_post (fun i st => i ≤ 7 ∧ ∃ (o : List Nu) (R : List Int), st = ((R.length : Int), o, ()) ∧ RL B32 (n + i * (nq + 2)) R.length o R ∧ R.length + i ≤ 7 ∧ remF (8 - i) R Q = remZ P Q) _ 7 (by omega) ?_
      ⟨by omega, l, P, by rw [hlen], ⟨rfl, by omega, fun i _ => (hp.wi i).up (by omega)⟩, hm, rfl⟩
    rintro i st hi ⟨_, o, R, rfl, ho, hR, hrem⟩
    have hmul : i * (nq + 2) ≤ 7 * (nq + 2) := Nat.mul_le_mul_right _ hi
    simp only [T_number_series_remainder_l1, Int.toNat_natCast, el]
    by_cases h0 : Q.length ≤ R.length
    · left
      obtain ⟨k, hk⟩ : ∃ k, 8 - i = k + 1 := ⟨7 - i, by omega⟩
      rw [hk, remF, if_pos h0] at hrem
      have hstep := stepZ_len R Q
      have e1 : IntKind.i64.wrap ((R.length : Int) - 1) = ((R.length - 1 : Nat) : Int) := by rw [w64' (by omega) (by omega)]; omega
      have hl := hq.wi (Q.length - 1)
      have hf := ho.wi (R.length - 1) (by omega)
      have hmul2 : (i + 1) * (nq + 2) = i * (nq + 2) + (nq + 2) := by rw [Nat.add_mul, Nat.one_mul]
      rw [e1]
      by_cases hs : (gi q ((Q.length - 1 : Nat) : Int)).1 < 0
      · have hv : sgn (gN Q (Q.length - 1)) = -1 := by
          have := hl.sg hB32
          rcases sgn_vals (gN Q (Q.length - 1)) with h | h | h <;> omega
        obtain ⟨z, k1, k2⟩ := k_minus hf
        rw [show -gN R (R.length - 1) = sgn (gN Q (Q.length - 1)) * gN R (R.length - 1) by rw [hv]; omega] at k2
        obtain ⟨o', k3, k4⟩ := k_row (z := ((z, ()), ())) ho hq hQ h0 (by omega) (by omega) (by omega) ht k2
        refine ⟨_, ?_, by omega, by omega, o', stepZ R Q, rfl, ⟨rfl, k4.le, fun j hj => (k4.wi j hj).up (by omega)⟩, by omega, by rw [← hrem]; congr 1; omega⟩
        refine (br_t (decide_eq_true (by omega))).trans ?_
        refine (q_of (inB_t' (by omega) (by omega))).trans ?_
        refine (br_t (decide_eq_true hs)).trans ?_
        refine (r_bs k1).trans ?_
        rw [r_iter]
        exact k3
      · have hv : sgn (gN Q (Q.length - 1)) = 1 := by
          have h1 := hl.sg hB32
          have h2 := hl.eq0 hB32
          rcases sgn_vals (gN Q (Q.length - 1)) with h | h | h
          · exact absurd (h2.1 (by omega)) ht
          · exact h
          · omega
        have k2 := hf
        rw [show gN R (R.length - 1) = sgn (gN Q (Q.length - 1)) * gN R (R.length - 1) by rw [hv]; omega] at k2
        obtain ⟨o', k3, k4⟩ := k_row (z := ((gi o ((R.length - 1 : Nat) : Int), ()), ())) ho hq hQ h0 (by omega) (by omega) (by omega) ht k2
        refine ⟨_, ?_, by omega, by omega, o', stepZ R Q, rfl, ⟨rfl, k4.le, fun j hj => (k4.wi j hj).up (by omega)⟩, by omega, by rw [← hrem]; congr 1; omega⟩
        refine (br_t (decide_eq_true (by omega))).trans ?_
        refine (q_of (inB_t' (by omega) (by omega))).trans ?_
        refine (br_f (decide_eq_false hs)).trans ?_
        rw [r_iter]
        simp only [rem_l9, Int.toNat_natCast, e1]
        exact k3
    · right
      rw [remF_stop h0] at hrem
      refine ⟨_, ?_, o, by rw [← hrem], ?_⟩
      · refine (br_f (decide_eq_false (by omega))).trans ?_
        exact r_ret _
      · rw [← hrem]
        exact ⟨rfl, ho.le, fun j hj => (ho.wi j hj).up (by omega)⟩
  obtain ⟨r, h1, o, rfl, h2⟩ := key
  refine ⟨o, ?_, h2⟩
  simp only [number_series_remainder, T_number_series_remainder, el]
  refine (r_bs (k_clone (by omega) (by omega))).trans ?_
  refine (q_of (inB_t' (by omega) (by omega))).trans ?_
  dsimp only
  rw [Int.toNat_natCast, r_iter]
  exact h1
end Go.Ab
