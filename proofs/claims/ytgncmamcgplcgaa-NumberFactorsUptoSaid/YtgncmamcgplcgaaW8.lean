/- Polynomials of any size: what the reference's functions compute. -/
import Derived.Test.YtgncmamcgplcgaaW7
namespace Go.Ab
open Go
set_option maxRecDepth 1000000
set_option maxHeartbeats 1000000
set_option linter.unusedVariables false
set_option linter.unusedSimpArgs false

theorem hB4 : 0 < B4 := by decide
theorem k_rslope {n : Nat} {l : NuL} {P : List Int} (h : WL B4 n l P) (hl : P.length ≤ 8) (hn : n ≤ 536870912) :
    ∃ o, iterF (fun q_ => (T_ref01xbehind_l2 l q_.1 q_.2.1).run) FUEL ([], 1, ()) = some (.inl (o, ())) ∧ WL B4 (n + 6) o (dZ P) := by
  have hlen := h.len
  have key : ∃ r, iterF (fun q_ => (T_ref01xbehind_l2 l q_.1 q_.2.1).run) FUEL ([], 1, ()) = some r ∧ ∃ o, r = .inl (o, ()) ∧ WL B4 (n + 6) o (dZ P) := by
    refine iter_post (fun i st => i ≤ P.length - 1 ∧ ∃ o, ∃ v : Int, st = (o, v, ()) ∧ v = ((i + 1 : Nat) : Int) ∧ WL B4 (n + 6) o (mkL (fun i => gN P (i + 1) * ((i : Int) + 1)) i)) _ (P.length - 1) (by omega) ?_ ⟨Nat.zero_le _, [], 1, rfl, rfl, WL.nil hB4 _⟩
    rintro i st hi ⟨_, o, v, rfl, hv, ho⟩
    have hol := ho.len
    rw [mkL_len] at hol
    simp only [T_ref01xbehind_l2]
    by_cases h0 : i < P.length - 1
    · left
      obtain ⟨r, k1, k2⟩ := k_wideOf (n := v) (by omega) (by omega)
      have hi1 := h.wi (i + 1)
      rw [← hv] at hi1
      obtain ⟨s, k3, k4⟩ := k_mul k2 hi1 (by omega) (by omega)
      rw [show v * gN P (i + 1) = gN P (i + 1) * ((i : Int) + 1) by rw [show v = (i : Int) + 1 by omega, Int.mul_comm]] at k4
      have e1 : IntKind.i64.wrap (v + 1) = v + 1 := w64' (by omega) (by omega)
      refine ⟨_, ?_, h0, by omega, _, v + 1, rfl, by omega, ho.snocL (k4.up (by omega))⟩
      rw [e1]
      refine (br_t (decide_eq_true (by omega))).trans ?_
      refine (r_bs k1).trans ?_
      refine (q_of (inB_t' (by omega) (by omega))).trans ?_
      refine (r_bs k3).trans ?_
      refine (q_of (by simp)).trans ?_
      refine (req_nu (a := o) (b := 32) (by omega) (by omega)).trans ?_
      refine req_len'.trans ?_
      exact r_ret _
    · right
      have : i = P.length - 1 := by omega
      subst this
      exact ⟨_, (br_f (decide_eq_false (by omega))).trans (r_ret _), _, rfl, ho⟩
  obtain ⟨r, h1, o, rfl, h2⟩ := key
  exact ⟨o, h1, h2⟩
theorem k_rsign {n : Nat} {l : NuL} {P : List Int} (h : WL B4 n l P) (hl : P.length ≤ 8) (hn : n ≤ 536870912) {a b : Int} (h1 : -9223372036854775807 ≤ a) (h2 : a ≤ 9223372036854775807) (h3 : -9223372036854775807 ≤ b) (h4 : b ≤ 9223372036854775807) :
    ref01xsign l a b = some ((sgn (hz P a b), ()), ()) := by
  have hlen := h.len
  obtain ⟨x, kx, hx⟩ := k_wideOf h1 h2
  obtain ⟨y, ky, hy⟩ := k_wideOf h3 h4
  obtain ⟨o, k1, k2⟩ := k_wideOf (n := 1) (by decide) (by decide)
  simp only [ref01xsign, T_ref01xsign]
  refine (r_bs kx).trans ?_
  refine (r_bs ky).trans ?_
  refine (r_bs k1).trans ?_
  rw [w64' (x := (l.length : Int) - 1) (by omega) (by omega), r_iter]
  refine iter_eq (fun i st => i ≤ P.length ∧ ∃ s w : Nu, st = ((P.length : Int) - 1 - i, s, w, ()) ∧ WI B4 (n + 8 * i + 8) s (hzs P a b i).1 ∧ WI B4 (5 + 6 * i) w (hzs P a b i).2) _ P.length (by omega) ?_
    ⟨Nat.zero_le _, (0, []), o, by rw [hlen]; simp, WI.zero hB4, k2⟩
  rintro i st hi ⟨_, s, w, rfl, hs, hw⟩
  simp only [T_ref01xsign_l3]
  by_cases h0 : i < P.length
  · left
    have e1 : (P.length : Int) - 1 - (i : Int) = ((P.length - 1 - i : Nat) : Int) := by omega
    obtain ⟨r1, q1, q2⟩ := k_mul hs hx (by omega) (by omega)
    obtain ⟨r2, q3, q4⟩ := k_mul (h.wi (P.length - 1 - i)) hw (by omega) (by omega)
    obtain ⟨r3, q5, q6⟩ := k_rplus q2 q4 (by omega) (by omega)
    obtain ⟨r4, q7, q8⟩ := k_mul hw hy (by omega) (by omega)
    refine ⟨((P.length : Int) - 1 - ((i + 1 : Nat) : Int), r3, r4, ()), ?_, h0, h0, r3, r4, rfl, q6.up (by omega), q8.up (by omega)⟩
    rw [e1]
    have e2 : IntKind.i64.wrap (((P.length - 1 - i : Nat) : Int) - 1) = (P.length : Int) - 1 - ((i + 1 : Nat) : Int) := by rw [w64' (by omega) (by omega)]; omega
    rw [e2]
    refine (br_t (decide_eq_true (by omega))).trans ?_
    refine (r_bs q1).trans ?_
    refine (q_of (inB_t' (by omega) (by omega))).trans ?_
    refine (r_bs q3).trans ?_
    refine (r_bs q5).trans ?_
    refine (r_bs q7).trans ?_
    exact r_ret _
  · right
    have : i = P.length := by omega
    subst this
    refine (br_f (decide_eq_false (by omega))).trans ((r_ret _).trans ?_)
    rw [hs.sg hB4]; rfl
theorem k_rbehind {n : Nat} {l : NuL} {P : List Int} (h : WL B4 n l P) (hl : P.length ≤ 7) (hn : n ≤ 268435456) {a b : Int} (h1 : -9223372036854775807 ≤ a) (h2 : a ≤ 9223372036854775807) (h3 : -9223372036854775807 ≤ b) (h4 : b ≤ 9223372036854775807) :
    ref01xbehind l a b = some ((bhF a b 8 P, ()), ()) := by
  simp only [ref01xbehind, T_ref01xbehind, r_iter]
  refine iter_eq (fun i st => i ≤ 7 ∧ ∃ o Q, st = (o, ()) ∧ WL B4 (n + 6 * i) o Q ∧ Q.length ≤ 7 - i ∧ bhF a b (8 - i) Q = bhF a b 8 P) _ 7 (by omega) ?_ ⟨by omega, l, P, rfl, h, hl, rfl⟩
  rintro i st hi ⟨_, o, Q, rfl, ho, hQ, hb⟩
  have hlen := ho.len
  simp only [T_ref01xbehind_l0]
  obtain ⟨k, hk⟩ : ∃ k, 8 - i = k + 1 := ⟨7 - i, by omega⟩
  rw [hk, bhF] at hb
  by_cases h0 : Q.length = 0
  · right
    rw [if_pos h0] at hb
    refine (br_f (decide_eq_false (by omega))).trans ((r_ret _).trans ?_)
    rw [← hb]
  · rw [if_neg h0] at hb
    have ks := k_rsign ho (by omega) (by omega) h1 h2 h3 h4
    by_cases hz0 : sgn (hz Q a b) = 0
    · left
      rw [if_pos hz0] at hb
      obtain ⟨r, k1, k2⟩ := k_rslope ho (by omega) (by omega)
      refine ⟨_, ?_, by omega, by omega, r, dZ Q, rfl, k2.up (by omega), by rw [dZ_len]; omega, by rw [← hb]; congr 1; omega⟩
      refine (br_t (decide_eq_true (by omega))).trans ?_
      refine (r_bs ks).trans ?_
      refine (br_f (nd hz0)).trans ?_
      refine (q_of rfl).trans ?_
      rw [r_iter]
      exact k1
    · right
      rw [if_neg hz0] at hb
      refine (br_t (decide_eq_true (by omega))).trans ?_
      refine (r_bs ks).trans ?_
      refine (br_t (nd' hz0)).trans ?_
      rw [← hb]
      exact r_ret _

/-! ### Remainders -/

theorem k_rtrim {n k : Nat} {o : NuL} {f : Nat → Int} (hk : k ≤ 1000) (h : WL B4 n o (mkL f k)) :
    iterF (fun q_ => (T_ref01xremainder_l5 q_.1).run) FUEL (o, ()) = some (.inr (.inl (o.take (tz f k), ()))) ∧ WL B4 n (o.take (tz f k)) (mkL f (tz f k)) := by
  have hl := h.len
  rw [mkL_len] at hl
  refine ⟨?_, ?_⟩
  · refine iter_eq (fun i st => ∃ m : Nat, m + i = k ∧ st = (o.take m, ()) ∧ tz f m = tz f k) _ k (by omega) ?_ ⟨k, rfl, by rw [← hl, List.take_length], rfl⟩
    rintro i st hi ⟨m, hm, rfl, ht⟩
    have hlm : (o.take m).length = m := by simp; omega
    cases m with
    | zero =>
      right
      simp only [T_ref01xremainder_l5, hlm]
      refine (br_f (decide_eq_false (by omega))).trans ((r_ret _).trans ?_)
      rw [← ht]; rfl
    | succ m =>
      have e1 : IntKind.i64.wrap (((m + 1 : Nat) : Int) - 1) = (m : Int) := by rw [w64' (by omega) (by omega)]; omega
      simp only [T_ref01xremainder_l5, hlm, e1, part_take', ga_take]
      have hw := h.wi m
      rw [mkL_get, if_pos (by omega)] at hw
      have hs := hw.eq0 hB4
      rw [tz] at ht
      have e2 : (if m < m + 1 then gi o (m : Int) else default) = gi o (m : Int) := if_pos (by omega)
      rw [e2]
      by_cases hz0 : f m = 0
      · left
        rw [if_pos hz0] at ht
        refine ⟨_, ?_, by omega, m, by omega, rfl, ht⟩
        refine (br_t (decide_eq_true (by omega))).trans ?_
        refine (q_of (inB_t' (by omega) (by omega))).trans ?_
        refine (br_t (decide_eq_true (hs.2 hz0))).trans ?_
        refine (q_of (bnd_t' (by omega) (by omega) (by omega))).trans ?_
        rw [List.take_take, Nat.min_eq_left (by omega)]
        exact r_ret _
      · right
        rw [if_neg hz0] at ht
        refine (br_t (decide_eq_true (by omega))).trans ?_
        refine (q_of (inB_t' (by omega) (by omega))).trans ?_
        refine (br_f (decide_eq_false (fun h => hz0 (hs.1 h)))).trans ((r_ret _).trans ?_)
        rw [← ht]
  · have := tz_le f k
    refine ⟨by rw [mkL_len]; simp; omega, fun i => ?_⟩
    rw [ga_take, mkL_get]
    have hw := h.wi i
    rw [mkL_get] at hw
    split
    · rw [if_pos (by omega)] at hw; exact hw
    · exact WI.zero hB4
theorem k_rrow {n nq : Nat} {a q : NuL} {P Q : List Int} (ho : WL B4 n a P) (hq : WL B4 nq q Q) (hQ : 0 < Q.length) (hle : Q.length ≤ P.length) (hm : P.length ≤ 7) (hn : n ≤ 268435456) (hnq : nq ≤ 268435456) (ht : gN Q (Q.length - 1) ≠ 0) :
    ∃ o', iterF (fun q_ => (T_ref01xremainder_l1 q a q_.1 q_.2.1).run) FUEL ([], 0, ()) = some (.inl (o', ())) ∧ WL B4 (n + nq + 2) o' (stepZ P Q) := by
  have hlq := hq.len
  have hla := ho.len
  have key : ∃ r, iterF (fun q_ => (T_ref01xremainder_l1 q a q_.1 q_.2.1).run) FUEL ([], 0, ()) = some r ∧ ∃ o', r = .inl (o', ()) ∧ WL B4 (n + nq + 2) o' (stepZ P Q) := by
    refine iter_post (fun i st => i ≤ P.length - 1 ∧ ∃ o, st = (o, (i : Int), ()) ∧ WL B4 (n + nq + 2) o (mkL (stF P Q) i)) _ (P.length - 1) (by omega) ?_ ⟨Nat.zero_le _, [], rfl, WL.nil hB4 _⟩
    rintro i st hi ⟨_, o, rfl, hw⟩
    have hol := hw.len
    rw [mkL_len] at hol
    have el : IntKind.i64.wrap ((q.length : Int) - 1) = ((Q.length - 1 : Nat) : Int) := by rw [w64' (by omega) (by omega)]; omega
    have ea : IntKind.i64.wrap ((a.length : Int) - 1) = ((P.length - 1 : Nat) : Int) := by rw [w64' (by omega) (by omega)]; omega
    have es : IntKind.i64.wrap ((a.length : Int) - (q.length : Int)) = ((P.length - Q.length : Nat) : Int) := by rw [w64' (by omega) (by omega)]; omega
    have ed : IntKind.i64.wrap ((i : Int) - ((P.length - Q.length : Nat) : Int)) = (i : Int) - ((P.length - Q.length : Nat) : Int) := w64' (by omega) (by omega)
    simp only [T_ref01xremainder_l1, el, ea, es, ed]
    by_cases h0 : i < P.length - 1
    · left
      have hl := (hq.wi (Q.length - 1))
      have hl0 : (gi q ((Q.length - 1 : Nat) : Int)).1 ≠ 0 := fun h => ht ((hl.eq0 hB4).1 h)
      have hsz := hl.abs hB4 hl0
      obtain ⟨r1, k1, k2⟩ := k_mul hsz (ho.wi i) (by omega) (by omega)
      have e1 : IntKind.i64.wrap ((i : Int) + 1) = ((i + 1 : Nat) : Int) := by rw [w64' (by omega) (by omega)]; omega
      by_cases hs : P.length - Q.length ≤ i
      · have e2 : (i : Int) - ((P.length - Q.length : Nat) : Int) = ((i - (P.length - Q.length) : Nat) : Int) := by omega
        obtain ⟨r2, k3, k4⟩ := k_mul (ho.wi (P.length - 1)) (hq.wi (i - (P.length - Q.length))) (by omega) (by omega)
        have s2 := k4.sg hB4
        have sl := hl.sg hB4
        have hneg : WI B4 (n + nq + 1) (IntKind.i64.wrap (IntKind.i64.wrap (0 - r2.1) * (gi q ((Q.length - 1 : Nat) : Int)).1), r2.2) (-(sgn (gN Q (Q.length - 1)) * gN P (P.length - 1) * gN Q (i - (P.length - Q.length)))) := by
          have w1 : IntKind.i64.wrap (0 - r2.1) = -r2.1 := by
            rcases sgn_vals (gN P (P.length - 1) * gN Q (i - (P.length - Q.length))) with h | h | h <;> rw [s2, h] <;> rfl
          rw [w1, sl]
          rcases sgn_vals (gN Q (Q.length - 1)) with h | h | h
          · exact absurd (sl.trans h) hl0
          · rw [h, Int.mul_one, w64' (by rcases sgn_vals (gN P (P.length - 1) * gN Q (i - (P.length - Q.length))) with h | h | h <;> omega) (by rcases sgn_vals (gN P (P.length - 1) * gN Q (i - (P.length - Q.length))) with h | h | h <;> omega), Int.one_mul]
            exact k4.neg
          · rw [h, show -r2.1 * -1 = r2.1 by omega, w64' (by rcases sgn_vals (gN P (P.length - 1) * gN Q (i - (P.length - Q.length))) with h | h | h <;> omega) (by rcases sgn_vals (gN P (P.length - 1) * gN Q (i - (P.length - Q.length))) with h | h | h <;> omega),
              show -(-1 * gN P (P.length - 1) * gN Q (i - (P.length - Q.length))) = gN P (P.length - 1) * gN Q (i - (P.length - Q.length)) by grind]
            exact k4
        obtain ⟨r4, k7, k8⟩ := k_rplus k2 hneg (by omega) (by omega)
        have ev : stF P Q i = sgn (gN Q (Q.length - 1)) * gN Q (Q.length - 1) * gN P i + -(sgn (gN Q (Q.length - 1)) * gN P (P.length - 1) * gN Q (i - (P.length - Q.length))) := by
          unfold stF
          rw [if_pos hs]
        rw [← ev] at k8
        refine ⟨_, ?_, h0, h0, _, rfl, hw.snocL (k8.up (by omega))⟩
        rw [e1, e2]
        refine (br_t (decide_eq_true (by omega))).trans ?_
        refine (q_of (inB_t' (by omega) (by omega))).trans ?_
        refine (r_bs k1).trans ?_
        refine (br_t (decide_eq_true (by omega))).trans ?_
        refine (q_of (inB_t' (by omega) (by omega))).trans ?_
        refine (r_bs k3).trans ?_
        refine (r_bs k7).trans ?_
        refine (q_of (by simp)).trans ?_
        refine (req_nu (a := o) (b := 32) (by omega) (by omega)).trans ?_
        refine req_len'.trans ?_
        exact r_ret _
      · have ev : stF P Q i = sgn (gN Q (Q.length - 1)) * gN Q (Q.length - 1) * gN P i := by
          unfold stF
          rw [if_neg hs]; omega
        rw [← ev] at k2
        refine ⟨_, ?_, h0, h0, _, rfl, hw.snocL (k2.up (by omega))⟩
        rw [e1]
        refine (br_t (decide_eq_true (by omega))).trans ?_
        refine (q_of (inB_t' (by omega) (by omega))).trans ?_
        refine (r_bs k1).trans ?_
        refine (br_f (decide_eq_false (by omega))).trans ?_
        refine (q_of (by simp)).trans ?_
        refine (req_nu (a := o) (b := 32) (by omega) (by omega)).trans ?_
        refine req_len'.trans ?_
        exact r_ret _
    · right
      have : i = P.length - 1 := by omega
      subst this
      obtain ⟨k1, k2⟩ := k_rtrim (by omega) hw
      refine ⟨_, (br_f (decide_eq_false (by omega))).trans ((r_iter _ _ _).trans ?_), _, rfl, k2⟩
      exact k1
  obtain ⟨r, h1, o', rfl, h2⟩ := key
  exact ⟨o', h1, h2⟩
theorem k_rremainder {n nq : Nat} {l q : NuL} {P Q : List Int} (hp : WL B4 n l P) (hq : WL B4 nq q Q) (hP : 0 < P.length) (hm : P.length ≤ 7) (hQ : 0 < Q.length) (hQ7 : Q.length ≤ 7) (ht : gN Q (Q.length - 1) ≠ 0) (hn : n + 8 * (nq + 2) ≤ 268435456) :
    ∃ o, ref01xremainder l q = some ((o, ()), ()) ∧ WL B4 (n + 8 * (nq + 2)) o (remZ P Q) := by
  have hlen := hp.len
  have hlq := hq.len
  have el : IntKind.i64.wrap ((q.length : Int) - 1) = ((Q.length - 1 : Nat) : Int) := by rw [w64' (by omega) (by omega)]; omega
  have key : ∃ r, iterF (fun q_ => (T_ref01xremainder_l0 q q_.1).run) FUEL (l, ()) = some r ∧ ∃ o, r = ((o, ()), ()) ∧ WL B4 (n + 8 * (nq + 2)) o (remZ P Q) := by
    refine iter_post (fun i st => i ≤ 7 ∧ ∃ (o : NuL) (R : List Int), st = (o, ()) ∧ WL B4 (n + i * (nq + 2)) o R ∧ R.length + i ≤ 7 ∧ remF (8 - i) R Q = remZ P Q) _ 7 (by omega) ?_
      ⟨by omega, l, P, rfl, hp.up (by omega), hm, rfl⟩
    rintro i st hi ⟨_, o, R, rfl, ho, hR, hrem⟩
    have hol := ho.len
    have hmul : i * (nq + 2) ≤ 7 * (nq + 2) := Nat.mul_le_mul_right _ hi
    simp only [T_ref01xremainder_l0]
    by_cases h0 : Q.length ≤ R.length
    · left
      obtain ⟨k, hk⟩ : ∃ k, 8 - i = k + 1 := ⟨7 - i, by omega⟩
      rw [hk, remF, if_pos h0] at hrem
      have hstep := stepZ_len R Q
      have hmul2 : (i + 1) * (nq + 2) = i * (nq + 2) + (nq + 2) := by rw [Nat.add_mul, Nat.one_mul]
      have e1 : IntKind.i64.wrap ((o.length : Int) - 1) = ((R.length - 1 : Nat) : Int) := by rw [w64' (by omega) (by omega)]; omega
      obtain ⟨o', k3, k4⟩ := k_rrow ho hq hQ h0 (by omega) (by omega) (by omega) ht
      refine ⟨_, ?_, by omega, by omega, o', stepZ R Q, rfl, k4.up (by omega), by omega, by rw [← hrem]; congr 1; omega⟩
      rw [e1]
      refine (br_t (decide_eq_true (by omega))).trans ?_
      refine (q_of (inB_t' (by omega) (by omega))).trans ?_
      refine (q_of rfl).trans ?_
      rw [r_iter]
      exact k3
    · right
      rw [remF_stop h0] at hrem
      refine ⟨_, (br_f (decide_eq_false (by omega))).trans (r_ret _), o, rfl, ?_⟩
      rw [← hrem]
      exact ho.up (by omega)
  obtain ⟨r, h1, o, rfl, h2⟩ := key
  refine ⟨o, ?_, h2⟩
  simp only [ref01xremainder, T_ref01xremainder, el]
  refine (q_of (inB_t' (by omega) (by omega))).trans ?_
  rw [r_iter]
  exact h1
theorem k_opposite {n : Nat} {l : NuL} {P : List Int} (h : WL B4 n l P) (hl : P.length ≤ 1000) : ∃ o, ref01xopposite l = some ((o, ()), ()) ∧ WL B4 n o (ngZ P) := by
  have hlen := h.len
  have key : ∃ r, iterF (fun q_ => (T_ref01xopposite_l0 l q_.1 q_.2.1).run) FUEL ([], 0, ()) = some r ∧ ∃ o, r = ((o, ()), ()) ∧ WL B4 n o (ngZ P) := by
    refine iter_post (fun i st => i ≤ P.length ∧ ∃ o, st = (o, (i : Int), ()) ∧ WL B4 n o (mkL (fun i => -gN P i) i)) _ P.length (by omega) ?_ ⟨Nat.zero_le _, [], rfl, WL.nil hB4 _⟩
    rintro i st hi ⟨_, o, rfl, ho⟩
    have hol := ho.len
    rw [mkL_len] at hol
    simp only [T_ref01xopposite_l0]
    by_cases h0 : i < P.length
    · left
      have hw := h.wi i
      have e1 : IntKind.i64.wrap ((i : Int) + 1) = ((i + 1 : Nat) : Int) := by rw [w64' (by omega) (by omega)]; omega
      have e2 : IntKind.i64.wrap (0 - (gi l (i : Int)).1) = -(gi l (i : Int)).1 := by
        rw [hw.sg hB4]
        rcases sgn_vals (gN P i) with h | h | h <;> rw [h] <;> rfl
      refine ⟨_, ?_, h0, h0, _, rfl, ho.snocL hw.neg⟩
      rw [e1, e2]
      refine (br_t (decide_eq_true (by omega))).trans ?_
      refine (q_of (inB_t' (by omega) (by omega))).trans ?_
      refine (q_of (inB_t' (by omega) (by omega))).trans ?_
      refine (q_of (by simp)).trans ?_
      refine (req_nu (a := o) (b := 32) (by omega) (by omega)).trans ?_
      refine req_len'.trans ?_
      exact r_ret _
    · right
      have : i = P.length := by omega
      subst this
      exact ⟨_, (br_f (decide_eq_false (by omega))).trans (r_ret _), _, rfl, ho⟩
  obtain ⟨r, h1, o, rfl, h2⟩ := key
  refine ⟨o, ?_, h2⟩
  simp only [ref01xopposite, T_ref01xopposite]
  refine (q_of rfl).trans ?_
  rw [r_iter]
  exact h1
theorem k_rchain3 {a b : NuL} {p : List Int} (ha : WL B4 5 a p) (hb : WL B4 6 b (dZ p)) (ht : Top p) (h0 : 0 < p.length) (h7 : p.length ≤ 7) :
    ∃ c e, iterF (fun q_ => (T_ref01xchain_l3 q_.1 q_.2.1 q_.2.2.1).run) FUEL (a, b, [a], ()) = some (.inr ((c, ()), ())) ∧ CH B4 p e c := by
  have key : ∃ r, iterF (fun q_ => (T_ref01xchain_l3 q_.1 q_.2.1 q_.2.2.1).run) FUEL (a, b, [a], ()) = some r ∧ ∃ c e, r = .inr ((c, ()), ()) ∧ CH B4 p e c := by
    refine iter_post (fun i st => ∃ (x q : NuL) (c : List NuL), st = (x, q, c, ()) ∧ i ≤ 6 ∧ c.length = i + 1 ∧ (∀ j : Nat, j ≤ i → WL B4 (dd j) (gi c (j : Int)) (seqZ p j).1) ∧ WL B4 (dd i) x (seqZ p i).1 ∧ WL B4 (dd (i + 1)) q (seqZ p i).2 ∧ (∀ j, j < i → (seqZ p j).2.length ≠ 0)) _ 6 (by omega) ?_
      ⟨a, b, [a], rfl, by omega, rfl, fun j hj => by
        have : j = 0 := by omega
        subst this
        exact ha, ha, hb, fun j hj => by omega⟩
    rintro i st hi ⟨x, q, c, rfl, _, hc, hwl, hx, hq, hon⟩
    have hql := hq.len
    obtain ⟨t1, t2, l1, l2, l3⟩ := seqZ_ok ht h7 i
    simp only [T_ref01xchain_l3]
    by_cases hz0 : (seqZ p i).2.length = 0
    · right
      refine ⟨_, (br_f (decide_eq_false (by omega))).trans (r_ret _), c, i, rfl, hc, hi, hwl, hz0, hon⟩
    · left
      have hi6 : i < 6 := by omega
      have hdd := dd_up ⟨i, by omega⟩
      simp only at hdd
      have hP : 0 < (seqZ p i).1.length := by omega
      obtain ⟨o, k1, k2⟩ := k_rremainder hx hq hP (by omega) (by omega) (by omega) (t2 (by omega)) (by omega)
      obtain ⟨o', k3, k4⟩ := k_opposite k2 (by
        have : (remZ (seqZ p i).1 (seqZ p i).2).length < (seqZ p i).2.length := remF_len 8 _ _ (by omega) (by omega)
        omega)
      refine ⟨_, ?_, hi6, q, o', c ++ [q], rfl, by omega, by simp [hc], fun j hj => ?_, hq, k4, fun j hj => ?_⟩
      · refine (br_t (decide_eq_true (by omega))).trans ?_
        refine (q_of (by simp)).trans ?_
        refine (req_nu (a := c) (b := 24) (by omega) (by omega)).trans ?_
        refine (r_bs k1).trans ?_
        refine (r_bs k3).trans ?_
        refine req_len'.trans ?_
        exact r_ret _
      · rw [ga_snoc]
        by_cases e : j = c.length
        · rw [if_pos e]
          have : j = i + 1 := by omega
          subst this
          exact hq
        · rw [if_neg e]; exact hwl j (by omega)
      · by_cases e : j = i
        · rw [e]; exact hz0
        · exact hon j (by omega)
  obtain ⟨r, h1, c, e, rfl, h2⟩ := key
  exact ⟨c, e, h1, h2⟩
theorem k_rchain {p : List Int} (h : pcE p = 0) : ∃ c e, ref01xchain p = some ((c, ()), ()) ∧ CH B4 p e c := by
  obtain ⟨h1, h2, h3, _⟩ := pcE_zero h
  have ht := pc_top h
  have key : ∃ r, iterF (fun q_ => (T_ref01xchain_l0 p q_.1 q_.2.1 q_.2.2.1).run) FUEL ([], [], 0, ()) = some r ∧ ∃ c e, r = ((c, ()), ()) ∧ CH B4 p e c := by
    refine iter_post (fun i st => i ≤ p.length ∧ ∃ a b : NuL, st = (a, b, (i : Int), ()) ∧ WL B4 5 a (mkL (gN p) i) ∧ WL B4 6 b (mkL (fun i => gN p (i + 1) * ((i : Int) + 1)) (i - 1))) _ p.length (by omega) ?_
      ⟨Nat.zero_le _, [], [], rfl, WL.nil hB4 _, WL.nil hB4 _⟩
    rintro i st hi ⟨_, a, b, rfl, ha, hb⟩
    have hal := ha.len
    have hbl := hb.len
    rw [mkL_len] at hal hbl
    simp only [T_ref01xchain_l0]
    by_cases h0 : i < p.length
    · left
      have hc := h3 i h0
      obtain ⟨r, k1, k2⟩ := k_wideOf (n := gi p (i : Int)) (by omega) (by omega)
      have e1 : IntKind.i64.wrap ((i : Int) + 1) = ((i + 1 : Nat) : Int) := by rw [w64' (by omega) (by omega)]; omega
      by_cases hp : 0 < i
      · have hb7 := mul_bd (a := (i : Int)) (b := gi p (i : Int)) (m := 7) (n := 1000000) (by omega) (by omega) (by omega) (by omega)
        obtain ⟨s, k3, k4⟩ := k_wideOf (n := (i : Int) * gi p (i : Int)) (by omega) (by omega)
        obtain ⟨j, rfl⟩ : ∃ j, i = j + 1 := ⟨i - 1, by omega⟩
        have ev : ((j + 1 : Nat) : Int) * gi p ((j + 1 : Nat) : Int) = gN p (j + 1) * ((j : Int) + 1) := by
          rw [Int.mul_comm, show ((j : Int) + 1) = ((j + 1 : Nat) : Int) by omega]
        have k4' := k4
        rw [ev] at k4'
        refine ⟨_, ?_, h0, h0, _, _, rfl, ha.snocL k2, hb.snocL (k4'.up (by omega))⟩
        rw [e1, w64' (x := ((j + 1 : Nat) : Int) * gi p ((j + 1 : Nat) : Int)) (by omega) (by omega)]
        refine (br_t (decide_eq_true (by omega))).trans ?_
        refine (q_of (inB_t' (by omega) (by omega))).trans ?_
        refine (r_bs k1).trans ?_
        refine (q_of (by simp)).trans ?_
        refine (req_nu (a := a) (b := 32) (by omega) (by omega)).trans ?_
        refine (br_t (decide_eq_true (by omega))).trans ?_
        refine (q_of (inB_t' (by omega) (by omega))).trans ?_
        refine (r_bs k3).trans ?_
        refine (q_of (by simp)).trans ?_
        refine (req_nu (a := b) (b := 32) (by omega) (by omega)).trans ?_
        refine req_len'.trans ?_
        refine req_len'.trans ?_
        exact r_ret _
      · have : i = 0 := by omega
        subst this
        refine ⟨_, ?_, h0, h0, _, _, rfl, ha.snocL k2, hb⟩
        rw [e1]
        refine (br_t (decide_eq_true (by omega))).trans ?_
        refine (q_of (inB_t' (by omega) (by omega))).trans ?_
        refine (r_bs k1).trans ?_
        refine (q_of (by simp)).trans ?_
        refine (req_nu (a := a) (b := 32) (by omega) (by omega)).trans ?_
        refine (br_f (decide_eq_false (by omega))).trans ?_
        refine req_len'.trans ?_
        refine (q_of (by simp)).trans ?_
        exact r_ret _
    · right
      have : i = p.length := by omega
      subst this
      rw [show mkL (gN p) p.length = p from li_ext (mkL_len _ _) (fun i h => by rw [mkL_get, if_pos (by rw [mkL_len] at h; exact h)])] at ha
      obtain ⟨c, e, k1, k2⟩ := k_rchain3 ha hb ht (by omega) h2
      refine ⟨_, ?_, c, e, rfl, k2⟩
      refine (br_f (decide_eq_false (by omega))).trans ?_
      refine (q_of rfl).trans ?_
      rw [r_iter]
      exact k1
  obtain ⟨r, h4, c, e, rfl, h5⟩ := key
  refine ⟨c, e, ?_, h5⟩
  simp only [ref01xchain, T_ref01xchain]
  refine (q_of rfl).trans ?_
  refine (q_of rfl).trans ?_
  rw [r_iter]
  exact h4
theorem k_rchanges {p : List Int} {e : Nat} {c : List NuL} (h : CH B4 p e c) (h7 : ∀ j, (seqZ p j).1.length ≤ 7) {a b : Int} (h1 : -9223372036854775807 ≤ a) (h2 : a ≤ 9223372036854775807) (h3 : -9223372036854775807 ≤ b) (h4 : b ≤ 9223372036854775807) :
    ref01xchanges c a b = some (((cgS (fun j => bhF a b 8 (seqZ p j).1) (e + 1)).1, ()), ()) := by
  have hl := h.len
  have he := h.le
  simp only [ref01xchanges, T_ref01xchanges, r_iter]
  refine iter_eq (fun i st => i ≤ e + 1 ∧ st = ((cgS (fun j => bhF a b 8 (seqZ p j).1) i).1, (cgS (fun j => bhF a b 8 (seqZ p j).1) i).2, (i : Int), ())) _ (e + 1) (by omega) ?_ ⟨Nat.zero_le _, rfl⟩
  rintro i st hi ⟨_, rfl⟩
  simp only [T_ref01xchanges_l0]
  by_cases h0 : i < e + 1
  · left
    refine ⟨_, ?_, h0, h0, rfl⟩
    have hd := dd_le ⟨i, by omega⟩
    simp only at hd
    have hk := k_rbehind (h.wl i (by omega)) (h7 i) (by omega) h1 h2 h3 h4
    obtain ⟨⟨c1, c2⟩, c3⟩ := cgS_bd (s := fun j => bhF a b 8 (seqZ p j).1) (fun j => bhF_vals a b 8 _) i
    have hv := bhF_vals a b 8 (seqZ p i).1
    rw [cgS]
    dsimp only
    generalize (cgS (fun j => bhF a b 8 (seqZ p j).1) i).1 = u at *
    generalize (cgS (fun j => bhF a b 8 (seqZ p j).1) i).2 = w at *
    have e1 : IntKind.i64.wrap ((i : Int) + 1) = ((i + 1 : Nat) : Int) := by rw [w64' (by omega) (by omega)]; omega
    have e2 : IntKind.i64.wrap (u + 1) = u + 1 := w64' (by omega) (by omega)
    have e3 : IntKind.i64.wrap (bhF a b 8 (seqZ p i).1 * w) = bhF a b 8 (seqZ p i).1 * w := by
      rcases hv with h | h | h <;> rcases c3 with h' | h' | h' <;> rw [h, h'] <;> rfl
    refine (br_t (decide_eq_true (by omega))).trans ?_
    refine (q_of (inB_t' (by omega) (by omega))).trans ?_
    refine (r_bs hk).trans ?_
    dsimp only
    rw [e1, e2, e3]
    by_cases q1 : bhF a b 8 (seqZ p i).1 * w < 0
    · rw [if_pos q1]
      refine (br_t (decide_eq_true q1)).trans ?_
      by_cases q2 : bhF a b 8 (seqZ p i).1 = 0
      · rw [if_pos q2]; exact (br_f (nd q2)).trans (r_ret _)
      · rw [if_neg q2]; exact (br_t (nd' q2)).trans (r_ret _)
    · rw [if_neg q1]
      refine (br_f (decide_eq_false q1)).trans ?_
      by_cases q2 : bhF a b 8 (seqZ p i).1 = 0
      · rw [if_pos q2]; exact (br_f (nd q2)).trans (r_ret _)
      · rw [if_neg q2]; exact (br_t (nd' q2)).trans (r_ret _)
  · right
    have : i = e + 1 := by omega
    subst this
    refine (br_f (decide_eq_false (by omega))).trans (r_ret _)
end Go.Ab
