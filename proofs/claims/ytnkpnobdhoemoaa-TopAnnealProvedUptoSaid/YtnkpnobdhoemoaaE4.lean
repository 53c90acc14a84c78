/- CheckTimes and Worst of the program and of the reference. -/
import Derived.Test.YtnkpnobdhoemoaaE1
namespace Go.Ab
open Go
set_option maxRecDepth 1000000
set_option maxHeartbeats 1000000
set_option linter.unusedVariables false
set_option linter.unusedSimpArgs false

theorem iter_idxN {ρ : Type} {b : (Int × Unit) → Option ((Int × Unit) ⊕ ρ)} (p : Nat → Bool) (n : Nat) (hn : n ≤ 1099511627776) (f : Int → ρ)
    (h1 : ∀ i : Nat, i < n → p i = true → b ((i : Int), ()) = some (.inr (f i))) (h2 : ∀ i : Nat, i < n → p i = false → b ((i : Int), ()) = some (.inl ((i : Int) + 1, ())))
    (h3 : (∀ j, j < n → p j = false) → b ((n : Int), ()) = some (.inr (f (-1)))) : iterF b FUEL (0, ()) = some (f (idxTo p n)) := by
  refine iter_eq (fun i x => x = ((i : Int), ()) ∧ ∀ j, j < i → p j = false) _ n (by omega) ?_ ⟨rfl, fun j hj => by omega⟩
  rintro i x hi ⟨rfl, hp⟩
  by_cases hlt : i < n
  · cases q : p i with
    | true => right; rw [h1 i hlt q, idxTo_at hp q hlt]
    | false =>
      left
      refine ⟨_, h2 i hlt q, hlt, rfl, fun j hj => ?_⟩
      by_cases e : j = i
      · subst e; exact q
      · exact hp j (by omega)
  · right
    have : i = n := by omega
    subst this
    rw [h3 hp, idxTo_none hp]
/-- The minutes of a step. -/
def mt (t : List Int) (i : Int) : Int := gi t (i + 1) - gi t i
def p1 (t : List Int) (i : Nat) : Bool := !decide (0 ≤ gi t (i : Int) ∧ gi t (i : Int) ≤ 10000000)
def p2 (a : Ann) (t : List Int) (i : Nat) : Bool := decide (mt t (i : Int) < lm a (i : Int) ∨ (gi a.2.2.1 (i : Int)).2.2 < mt t (i : Int))
def p3 (a : Ann) (t : List Int) (i : Nat) : Bool := !decide ((gi a.2.2.2 (i : Int)).2.1 ≤ gi t (gi a.2.2.2 (i : Int)).1 ∧ gi t (gi a.2.2.2 (i : Int)).1 ≤ (gi a.2.2.2 (i : Int)).2.2)
abbrev IE := (Int × (Int × Unit)) × Unit
def ie (z e : Int) : IE := ((z, (e, ())), ())
def ct3 (a : Ann) (t : List Int) (z : Int) : IE := if z = -1 then ie 0 0 else ie z 26
def ct2 (a : Ann) (t : List Int) (z : Int) : IE := if z = -1 then ct3 a t (idxTo (p3 a t) a.2.2.2.length) else if mt t z < lm a z then ie z 19 else ie z 18
def ct1 (a : Ann) (t : List Int) (z : Int) : IE := if z = -1 then ct2 a t (idxTo (p2 a t) a.2.2.1.length) else ie z 2
def ctR (a : Ann) (t : List Int) : IE := if t.length = a.2.2.1.length + 1 then ct1 a t (idxTo (p1 t) t.length) else ie 0 10
/-- Times that keep all demands. -/
structure Ct (a : Ann) (t : List Int) : Prop where
  len : t.length = a.2.2.1.length + 1
  rg : ∀ i : Nat, i < t.length → 0 ≤ gi t (i : Int) ∧ gi t (i : Int) ≤ 10000000
  st : ∀ i : Nat, i < a.2.2.1.length → lm a (i : Int) ≤ mt t (i : Int) ∧ mt t (i : Int) ≤ (gi a.2.2.1 (i : Int)).2.2
  wi : ∀ i : Nat, i < a.2.2.2.length → (gi a.2.2.2 (i : Int)).2.1 ≤ gi t (gi a.2.2.2 (i : Int)).1 ∧ gi t (gi a.2.2.2 (i : Int)).1 ≤ (gi a.2.2.2 (i : Int)).2.2
theorem p1_f {t : List Int} {i : Nat} (h : p1 t i = false) : 0 ≤ gi t (i : Int) ∧ gi t (i : Int) ≤ 10000000 := by
  unfold p1 at h
  simpa using h
theorem ct_all {a : Ann} {t : List Int} (h : Ct a t) : ctR a t = ie 0 0 := by
  unfold ctR
  rw [if_pos h.len, idxTo_none (fun i hi => by unfold p1; rw [decide_eq_true (h.rg i hi)]; rfl)]
  unfold ct1
  rw [if_pos rfl, idxTo_none (fun i hi => by unfold p2; have := h.st i hi; exact decide_eq_false (by omega))]
  unfold ct2
  rw [if_pos rfl, idxTo_none (fun i hi => by unfold p3; rw [decide_eq_true (h.wi i hi)]; rfl)]
  rfl
theorem ct_of {a : Ann} {t : List Int} (h : (ctR a t).1.2.1 = 0) : Ct a t := by
  unfold ctR at h
  split at h
  · rename_i h1
    rcases idxTo_cases (p1 t) t.length with ⟨e1, a1⟩ | ⟨i, hi, e1, _⟩
    · rw [e1] at h
      unfold ct1 at h
      rw [if_pos rfl] at h
      rcases idxTo_cases (p2 a t) a.2.2.1.length with ⟨e2, a2⟩ | ⟨i, hi, e2, _⟩
      · rw [e2] at h
        unfold ct2 at h
        rw [if_pos rfl] at h
        rcases idxTo_cases (p3 a t) a.2.2.2.length with ⟨e3, a3⟩ | ⟨i, hi, e3, _⟩
        · refine ⟨h1, fun i hi => ?_, fun i hi => ?_, fun i hi => ?_⟩
          · have := a1 i hi
            unfold p1 at this
            simpa using this
          · have := of_decide_eq_false (a2 i hi)
            omega
          · have := a3 i hi
            unfold p3 at this
            simpa using this
        · rw [e3] at h
          unfold ct3 at h
          rw [if_neg (by omega)] at h
          cases h
      · rw [e2] at h
        unfold ct2 at h
        rw [if_neg (by omega)] at h
        split at h <;> cases h
    · rw [e1] at h
      unfold ct1 at h
      rw [if_neg (by omega)] at h
      cases h
  · cases h
theorem ct_0 {a : Ann} {t : List Int} (h : (ctR a t).1.2.1 = 0) : ctR a t = ie 0 0 := ct_all (ct_of h)
theorem ct_n {a : Ann} {t : List Int} : (ctR a t).1.2.1 = 0 → (ctR a t).1.1 = 0 := fun h => by rw [ct_0 h]; rfl

theorem k_ct5 {a : Ann} (h : An a) {t : List Int} (hl : t.length = a.2.2.1.length + 1) : iterF (fun q_ : Int × Unit => (T_blank_CheckTimes_l5 a t q_.1).run) FUEL (0, ()) = some (.inr (.inr (ct3 a t (idxTo (p3 a t) a.2.2.2.length)))) := by
  have hw := h.wl
  have hn := h.len
  refine iter_idx (p3 a t) a.2.2.2.length (by omega) (fun z => (Sum.inr (Sum.inr (ct3 a t z)) : (Int × Unit) ⊕ ((Int × Unit) ⊕ IE))) (fun i hi hp => ?_) (fun i hi hp => ?_) ?_
  · have w := h.wi i hi
    unfold T_blank_CheckTimes_l5
    dsimp only
    refine (br_t (decide_eq_true (by omega))).trans ?_
    refine (q_of (inB_t' (by omega) (by omega))).trans ?_
    refine (q_of (inB_t' (by omega) (by omega))).trans ?_
    refine (r_bs (k_within _ _ _)).trans ?_
    refine (br_t hp).trans ?_
    unfold ct3
    rw [if_neg (by omega)]
    exact r_ret _
  · have w := h.wi i hi
    unfold T_blank_CheckTimes_l5
    dsimp only
    refine (br_t (decide_eq_true (by omega))).trans ?_
    refine (q_of (inB_t' (by omega) (by omega))).trans ?_
    refine (q_of (inB_t' (by omega) (by omega))).trans ?_
    refine (r_bs (k_within _ _ _)).trans ?_
    refine (br_f hp).trans ?_
    rw [w64' (x := (i : Int) + 1) (by omega) (by omega)]
    exact r_ret _
  · unfold T_blank_CheckTimes_l5
    dsimp only
    refine (br_f (decide_eq_false (by omega))).trans ?_
    exact r_ret _
theorem k_ct3 {a : Ann} (h : An a) {t : List Int} (hl : t.length = a.2.2.1.length + 1) (hr : ∀ i : Nat, i < t.length → 0 ≤ gi t (i : Int) ∧ gi t (i : Int) ≤ 10000000) : iterF (fun q_ : Int × Unit => (T_blank_CheckTimes_l3 a t q_.1).run) FUEL (0, ()) = some (.inr (ct2 a t (idxTo (p2 a t) a.2.2.1.length))) := by
  have hn := h.len
  have bd : ∀ i : Nat, i < a.2.2.1.length → -10000000 ≤ mt t (i : Int) ∧ mt t (i : Int) ≤ 10000000 := fun i hi => by
    have b1 := hr i (by omega)
    have b2 := hr (i + 1) (by omega)
    rw [show ((i + 1 : Nat) : Int) = (i : Int) + 1 by omega] at b2
    unfold mt
    omega
  refine iter_idx (p2 a t) a.2.2.1.length (by omega) (fun z => (Sum.inr (ct2 a t z) : (Int × Unit) ⊕ IE)) (fun i hi hp => ?_) (fun i hi hp => ?_) ?_
  · have b := bd i hi
    have e : gi t ((i : Int) + 1) - gi t (i : Int) = mt t (i : Int) := rfl
    unfold T_blank_CheckTimes_l3
    dsimp only
    rw [w64' (x := (i : Int) + 1) (by omega) (by omega), e, w64' (x := mt t (i : Int)) (by omega) (by omega)]
    refine (br_t (decide_eq_true (by omega))).trans ?_
    refine (q_of (inB_t' (by omega) (by omega))).trans ?_
    refine (q_of (inB_t' (by omega) (by omega))).trans ?_
    refine (q_of (inB_t' (by omega) (by omega))).trans ?_
    refine (r_bs (k_least h (i := (i : Int)) (by omega) (by omega))).trans ?_
    have hp := of_decide_eq_true hp
    unfold ct2
    rw [if_neg (by omega)]
    by_cases q : mt t (i : Int) < lm a (i : Int)
    · refine (br_t (decide_eq_true q)).trans ?_
      rw [if_pos q]
      exact r_ret _
    · refine (br_f (decide_eq_false q)).trans ?_
      rw [if_neg q]
      refine (br_t (decide_eq_true (by omega))).trans ?_
      exact r_ret _
  · have b := bd i hi
    have e : gi t ((i : Int) + 1) - gi t (i : Int) = mt t (i : Int) := rfl
    unfold T_blank_CheckTimes_l3
    dsimp only
    rw [w64' (x := (i : Int) + 1) (by omega) (by omega), e, w64' (x := mt t (i : Int)) (by omega) (by omega)]
    refine (br_t (decide_eq_true (by omega))).trans ?_
    refine (q_of (inB_t' (by omega) (by omega))).trans ?_
    refine (q_of (inB_t' (by omega) (by omega))).trans ?_
    refine (q_of (inB_t' (by omega) (by omega))).trans ?_
    refine (r_bs (k_least h (i := (i : Int)) (by omega) (by omega))).trans ?_
    have hp := of_decide_eq_false hp
    refine (br_f (decide_eq_false (by dsimp only; omega))).trans ?_
    refine (br_f (decide_eq_false (by omega))).trans ?_
    exact r_ret _
  · unfold T_blank_CheckTimes_l3
    dsimp only
    refine (br_f (decide_eq_false (by omega))).trans ?_
    rw [r_iter]
    refine (k_ct5 h hl).trans ?_
    unfold ct2
    rw [if_pos rfl]
theorem k_CheckTimes (a : Ann) (t : List Int) : blank_CheckTimes a t = some (if annE a = 0 then ctR a t else ie 0 (annE a)) := by
  simp only [blank_CheckTimes, T_blank_CheckTimes]
  refine (r_bs (k_CheckAnnealing a)).trans ?_
  by_cases h0 : annE a = 0
  · have h := an_of h0
    have hn := h.len
    refine (br_f (nd h0)).trans ?_
    rw [if_pos h0, w64' (x := (a.2.2.1.length : Int) + 1) (by omega) (by omega)]
    unfold ctR
    by_cases hl : t.length = a.2.2.1.length + 1
    · refine (br_f (nd (by omega))).trans ?_
      rw [if_pos hl, r_iter]
      refine iter_idxN (p1 t) t.length (by omega) (fun z => ct1 a t z) (fun i hi hp => ?_) (fun i hi hp => ?_) (fun hall => ?_)
      · unfold T_blank_CheckTimes_l1
        dsimp only
        refine (br_t (decide_eq_true (by omega))).trans ?_
        refine (q_of (inB_t' (by omega) (by omega))).trans ?_
        refine (r_bs (k_within _ _ _)).trans ?_
        refine (br_t hp).trans ?_
        unfold ct1
        rw [if_neg (by omega)]
        exact r_ret _
      · unfold T_blank_CheckTimes_l1
        dsimp only
        refine (br_t (decide_eq_true (by omega))).trans ?_
        refine (q_of (inB_t' (by omega) (by omega))).trans ?_
        refine (r_bs (k_within _ _ _)).trans ?_
        refine (br_f hp).trans ?_
        rw [w64' (x := (i : Int) + 1) (by omega) (by omega)]
        exact r_ret _
      · unfold T_blank_CheckTimes_l1
        dsimp only
        refine (br_f (decide_eq_false (by omega))).trans ?_
        rw [r_iter]
        refine (k_ct3 h hl (fun i hi => p1_f (hall i hi))).trans ?_
        unfold ct1
        rw [if_pos rfl]
    · refine (br_t (nd' (by omega))).trans ?_
      rw [if_neg hl]
      exact r_ret _
  · refine (br_t (nd' h0)).trans ?_
    rw [if_neg h0]
    exact r_ret _
theorem k_ct4 {a : Ann} (h : An a) {t : List Int} (hl : t.length = a.2.2.1.length + 1) : iterF (fun q_ : Int × Unit => (T_ref03xCheckTimes_l4 a t q_.1).run) FUEL (0, ()) = some (.inr (.inr (ct3 a t (idxTo (p3 a t) a.2.2.2.length)))) := by
  have hw := h.wl
  have hn := h.len
  refine iter_idx (p3 a t) a.2.2.2.length (by omega) (fun z => (Sum.inr (Sum.inr (ct3 a t z)) : (Int × Unit) ⊕ ((Int × Unit) ⊕ IE))) (fun i hi hp => ?_) (fun i hi hp => ?_) ?_
  · have w := h.wi i hi
    unfold T_ref03xCheckTimes_l4
    dsimp only
    refine (br_t (decide_eq_true (by omega))).trans ?_
    refine (q_of (inB_t' (by omega) (by omega))).trans ?_
    refine (q_of (inB_t' (by omega) (by omega))).trans ?_
    refine (r_bs (k_Within _ _ _)).trans ?_
    refine (br_t hp).trans ?_
    unfold ct3
    rw [if_neg (by omega)]
    exact r_ret _
  · have w := h.wi i hi
    unfold T_ref03xCheckTimes_l4
    dsimp only
    refine (br_t (decide_eq_true (by omega))).trans ?_
    refine (q_of (inB_t' (by omega) (by omega))).trans ?_
    refine (q_of (inB_t' (by omega) (by omega))).trans ?_
    refine (r_bs (k_Within _ _ _)).trans ?_
    refine (br_f hp).trans ?_
    rw [w64' (x := (i : Int) + 1) (by omega) (by omega)]
    exact r_ret _
  · unfold T_ref03xCheckTimes_l4
    dsimp only
    refine (br_f (decide_eq_false (by omega))).trans ?_
    exact r_ret _
theorem k_ct2 {a : Ann} (h : An a) {t : List Int} (hl : t.length = a.2.2.1.length + 1) (hr : ∀ i : Nat, i < t.length → 0 ≤ gi t (i : Int) ∧ gi t (i : Int) ≤ 10000000) : iterF (fun q_ : Int × Unit => (T_ref03xCheckTimes_l2 a t q_.1).run) FUEL (0, ()) = some (.inr (ct2 a t (idxTo (p2 a t) a.2.2.1.length))) := by
  have hn := h.len
  have bd : ∀ i : Nat, i < a.2.2.1.length → -10000000 ≤ mt t (i : Int) ∧ mt t (i : Int) ≤ 10000000 := fun i hi => by
    have b1 := hr i (by omega)
    have b2 := hr (i + 1) (by omega)
    rw [show ((i + 1 : Nat) : Int) = (i : Int) + 1 by omega] at b2
    unfold mt
    omega
  refine iter_idx (p2 a t) a.2.2.1.length (by omega) (fun z => (Sum.inr (ct2 a t z) : (Int × Unit) ⊕ IE)) (fun i hi hp => ?_) (fun i hi hp => ?_) ?_
  · have b := bd i hi
    have e : gi t ((i : Int) + 1) - gi t (i : Int) = mt t (i : Int) := rfl
    unfold T_ref03xCheckTimes_l2
    dsimp only
    rw [w64' (x := (i : Int) + 1) (by omega) (by omega), e, w64' (x := mt t (i : Int)) (by omega) (by omega)]
    refine (br_t (decide_eq_true (by omega))).trans ?_
    refine (q_of (inB_t' (by omega) (by omega))).trans ?_
    refine (q_of (inB_t' (by omega) (by omega))).trans ?_
    refine (r_bs (k_rLeast h (i := (i : Int)) (by omega) (by omega))).trans ?_
    have hp := of_decide_eq_true hp
    unfold ct2
    rw [if_neg (by omega)]
    by_cases q : mt t (i : Int) < lm a (i : Int)
    · refine (br_t (decide_eq_true q)).trans ?_
      rw [if_pos q]
      exact r_ret _
    · refine (br_f (decide_eq_false q)).trans ?_
      rw [if_neg q]
      refine (q_of (inB_t' (by omega) (by omega))).trans ?_
      refine (br_t (decide_eq_true (by omega))).trans ?_
      exact r_ret _
  · have b := bd i hi
    have e : gi t ((i : Int) + 1) - gi t (i : Int) = mt t (i : Int) := rfl
    unfold T_ref03xCheckTimes_l2
    dsimp only
    rw [w64' (x := (i : Int) + 1) (by omega) (by omega), e, w64' (x := mt t (i : Int)) (by omega) (by omega)]
    refine (br_t (decide_eq_true (by omega))).trans ?_
    refine (q_of (inB_t' (by omega) (by omega))).trans ?_
    refine (q_of (inB_t' (by omega) (by omega))).trans ?_
    refine (r_bs (k_rLeast h (i := (i : Int)) (by omega) (by omega))).trans ?_
    have hp := of_decide_eq_false hp
    refine (br_f (decide_eq_false (by dsimp only; omega))).trans ?_
    refine (q_of (inB_t' (by omega) (by omega))).trans ?_
    refine (br_f (decide_eq_false (by omega))).trans ?_
    exact r_ret _
  · unfold T_ref03xCheckTimes_l2
    dsimp only
    refine (br_f (decide_eq_false (by omega))).trans ?_
    rw [r_iter]
    refine (k_ct4 h hl).trans ?_
    unfold ct2
    rw [if_pos rfl]
theorem k_rCheckTimes {a : Ann} (h : An a) (t : List Int) : ref03xCheckTimes a t = some (ctR a t) := by
  have hn := h.len
  show (T_ref03xCheckTimes a t).run = _
  unfold T_ref03xCheckTimes
  rw [w64' (x := (a.2.2.1.length : Int) + 1) (by omega) (by omega)]
  unfold ctR
  by_cases hl : t.length = a.2.2.1.length + 1
  · refine (br_f (nd (by omega))).trans ?_
    rw [if_pos hl, r_iter]
    refine iter_idxN (p1 t) t.length (by omega) (fun z => ct1 a t z) (fun i hi hp => ?_) (fun i hi hp => ?_) (fun hall => ?_)
    · unfold T_ref03xCheckTimes_l0
      dsimp only
      refine (br_t (decide_eq_true (by omega))).trans ?_
      refine (q_of (inB_t' (by omega) (by omega))).trans ?_
      refine (r_bs (k_Within _ _ _)).trans ?_
      refine (br_t hp).trans ?_
      unfold ct1
      rw [if_neg (by omega)]
      exact r_ret _
    · unfold T_ref03xCheckTimes_l0
      dsimp only
      refine (br_t (decide_eq_true (by omega))).trans ?_
      refine (q_of (inB_t' (by omega) (by omega))).trans ?_
      refine (r_bs (k_Within _ _ _)).trans ?_
      refine (br_f hp).trans ?_
      rw [w64' (x := (i : Int) + 1) (by omega) (by omega)]
      exact r_ret _
    · unfold T_ref03xCheckTimes_l0
      dsimp only
      refine (br_f (decide_eq_false (by omega))).trans ?_
      rw [r_iter]
      refine (k_ct2 h hl (fun i hi => p1_f (hall i hi))).trans ?_
      unfold ct1
      rw [if_pos rfl]
  · refine (br_t (nd' (by omega))).trans ?_
    rw [if_neg hl]
    exact r_ret _

/-! ### The worst step -/
def wsS (a : Ann) (t : List Int) : Nat → Int
  | 0 => 0
  | k + 1 => if work a (wsS a t k) * mt t (k : Int) < work a (k : Int) * mt t (wsS a t k) then (k : Int) else wsS a t k
theorem wsS_bd (a : Ann) (t : List Int) : ∀ k : Nat, 0 ≤ wsS a t k ∧ (wsS a t k < (k : Int) ∨ wsS a t k = 0)
  | 0 => ⟨Int.le_refl _, .inr rfl⟩
  | k + 1 => by
    have ih := wsS_bd a t k
    simp only [wsS]
    split <;> omega
theorem wsS_1 (a : Ann) (t : List Int) : wsS a t 1 = 0 := by
  have := wsS_bd a t 1
  omega
theorem Ct.mt_bd {a : Ann} (h : An a) {t : List Int} (c : Ct a t) {i : Int} (h0 : 0 ≤ i) (hi : i < a.2.2.1.length) : 1 ≤ mt t i ∧ mt t i ≤ 100000 := by
  have s := c.st i.toNat (by omega)
  have l := h.lm_bd h0 hi
  have st := h.at h0 hi
  rw [show ((i.toNat : Nat) : Int) = i by omega] at s
  omega
theorem wsS_max {a : Ann} (h : An a) {t : List Int} (c : Ct a t) : ∀ k : Nat, k ≤ a.2.2.1.length → ∀ i : Nat, i < k → work a (i : Int) * mt t (wsS a t k) ≤ work a (wsS a t k) * mt t (i : Int)
  | 0, _, i, hi => by omega
  | k + 1, hk, i, hi => by
    have hl := h.len
    have ih := wsS_max h c k (by omega)
    have b := wsS_bd a t k
    have m1 := c.mt_bd h (i := wsS a t k) b.1 (by omega)
    have m2 := c.mt_bd h (i := (k : Int)) (by omega) (by omega)
    have m3 := c.mt_bd h (i := (i : Int)) (by omega) (by omega)
    simp only [wsS]
    split
    · rename_i q
      by_cases e : i = k
      · subst e; exact Int.le_refl _
      · have ii := ih i (by omega)
        have x1 := Int.mul_le_mul_of_nonneg_right ii (show 0 ≤ mt t (k : Int) by omega)
        have x2 := Int.mul_le_mul_of_nonneg_right (Int.le_of_lt q) (show 0 ≤ mt t (i : Int) by omega)
        refine Int.le_of_mul_le_mul_right (a := mt t (wsS a t k)) ?_ (by omega)
        grind
    · rename_i q
      by_cases e : i = k
      · subst e; omega
      · exact ih i (by omega)

theorem k_c1 {t : List Int} {i : Int} (h0 : 0 ≤ i) (h1 : i + 1 < t.length) (hl : t.length ≤ 1000) (h2 : -9000000000000000000 ≤ mt t i) (h3 : mt t i ≤ 9000000000000000000) : blank_Worst_c1 i t = some ((mt t i, ()), (t, ())) := by
  simp only [blank_Worst_c1, T_blank_Worst_c1]
  rw [w64' (x := i + 1) (by omega) (by omega)]
  refine (q_of (inB_t' (by omega) (by omega))).trans ?_
  refine (q_of (inB_t' (by omega) (by omega))).trans ?_
  unfold mt at h2 h3 ⊢
  rw [w64' (x := gi t (i + 1) - gi t i) (by omega) (by omega)]
  exact r_ret _
def wrstS (a : Ann) (t : List Int) : Int := wsS a t a.2.2.1.length
def wrR (a : Ann) (t : List Int) : (Int × ((Int × Int) × (Int × Unit))) × Unit := ((wrstS a t, ((work a (wrstS a t) / mt t (wrstS a t), -(-work a (wrstS a t) / mt t (wrstS a t))), (0, ()))), ())
theorem wrstS_bd {a : Ann} (h : An a) (t : List Int) : 0 ≤ wrstS a t ∧ wrstS a t < a.2.2.1.length := by
  have hl := h.len
  have b := wsS_bd a t a.2.2.1.length
  unfold wrstS
  omega
theorem k_Worst {a : Ann} (h0 : annE a = 0) {t : List Int} (c : Ct a t) : blank_Worst a t = some (wrR a t) := by
  have h := an_of h0
  have hl := h.len
  have hn := c.len
  simp only [blank_Worst, T_blank_Worst]
  refine (r_bs (k_CheckTimes a t)).trans ?_
  rw [if_pos h0, ct_all c]
  refine (br_f rfl).trans ?_
  rw [r_iter]
  refine iter_eq (fun k y => y = (wsS a t k, (k : Int), t, ())) _ a.2.2.1.length (by omega) ?_ rfl
  rintro k y hk rfl
  dsimp only
  unfold T_blank_Worst_l1
  have b := wsS_bd a t k
  have hb : wsS a t k < a.2.2.1.length := by omega
  have m1 := c.mt_bd h (i := wsS a t k) b.1 hb
  have w1 := h.work_bd b.1 hb
  by_cases e : k < a.2.2.1.length
  · left
    have m2 := c.mt_bd h (i := (k : Int)) (by omega) (by omega)
    have w2 := h.work_bd (i := (k : Int)) (by omega) (by omega)
    have x1 := mul_bd (a := work a (wsS a t k)) (b := mt t (k : Int)) (m := 250000000000) (n := 100000) (by omega) (by omega) (by omega) (by omega)
    have x2 := mul_bd (a := work a (k : Int)) (b := mt t (wsS a t k)) (m := 250000000000) (n := 100000) (by omega) (by omega) (by omega) (by omega)
    refine ⟨(wsS a t (k + 1), ((k + 1 : Nat) : Int), t, ()), ?_, e, rfl⟩
    refine (br_t (decide_eq_true (by omega))).trans ?_
    refine (r_bs (k_strain h (i := (k : Int)) (by omega) (by omega))).trans ?_
    refine (r_bs (k_c1 (i := wsS a t k) b.1 (by omega) (by omega) (by omega) (by omega))).trans ?_
    refine (r_bs (k_strain h (i := wsS a t k) b.1 hb)).trans ?_
    refine (r_bs (k_c1 (t := t) (i := (k : Int)) (by omega) (by omega) (by omega) (by omega) (by omega))).trans ?_
    dsimp only
    rw [w64' (x := work a (wsS a t k) * mt t (k : Int)) (by omega) (by omega), w64' (x := work a (k : Int) * mt t (wsS a t k)) (by omega) (by omega), w64' (x := (k : Int) + 1) (by omega) (by omega)]
    by_cases q : work a (wsS a t k) * mt t (k : Int) < work a (k : Int) * mt t (wsS a t k)
    · refine (br_t (decide_eq_true q)).trans ?_
      simp only [wsS, if_pos q]
      exact r_ret _
    · refine (br_f (decide_eq_false q)).trans ?_
      simp only [wsS, if_neg q]
      exact r_ret _
  · right
    have e : k = a.2.2.1.length := by omega
    subst e
    refine (br_f (decide_eq_false (by omega))).trans ?_
    refine (r_bs (k_strain h b.1 hb)).trans ?_
    refine (r_bs (k_c1 (i := wsS a t a.2.2.1.length) b.1 (by omega) (by omega) (by omega) (by omega))).trans ?_
    refine (r_bs (k_rounded (n := work a (wsS a t a.2.2.1.length)) (b := mt t (wsS a t a.2.2.1.length)) (by omega) (by omega) (by omega) (by omega))).trans ?_
    exact r_ret _
theorem k_Worst_E {a : Ann} {t : List Int} {e : Int} {z : Int} (he : e ≠ 0) (h : blank_CheckTimes a t = some (ie z e)) : blank_Worst a t = some ((0, ((0, 0), (e, ()))), ()) := by
  simp only [blank_Worst, T_blank_Worst]
  refine (r_bs h).trans ?_
  refine (br_t (nd' he)).trans ?_
  exact r_ret _
theorem k_rWorst {a : Ann} (h : An a) {t : List Int} (c : Ct a t) : ref03xWorst a t = some ((wrstS a t, ()), ()) := by
  have hl := h.len
  have hn := c.len
  simp only [ref03xWorst, T_ref03xWorst]
  rw [r_iter]
  refine iter_eq (fun k y => y = (wsS a t (k + 1), ((k + 1 : Nat) : Int), ()) ∧ k + 1 ≤ a.2.2.1.length) _ a.2.2.1.length (by omega) ?_ ⟨by rw [wsS_1]; rfl, by omega⟩
  rintro k y hk ⟨rfl, hk2⟩
  dsimp only
  unfold T_ref03xWorst_l0
  have b := wsS_bd a t (k + 1)
  have hb : wsS a t (k + 1) < a.2.2.1.length := by omega
  have m1 := c.mt_bd h (i := wsS a t (k + 1)) b.1 hb
  have w1 := h.work_bd b.1 hb
  by_cases e : k + 1 < a.2.2.1.length
  · left
    have m2 := c.mt_bd h (i := ((k + 1 : Nat) : Int)) (by omega) (by omega)
    have w2 := h.work_bd (i := ((k + 1 : Nat) : Int)) (by omega) (by omega)
    have x1 := mul_bd (a := work a (wsS a t (k + 1))) (b := mt t ((k + 1 : Nat) : Int)) (m := 250000000000) (n := 100000) (by omega) (by omega) (by omega) (by omega)
    have x2 := mul_bd (a := work a ((k + 1 : Nat) : Int)) (b := mt t (wsS a t (k + 1))) (m := 250000000000) (n := 100000) (by omega) (by omega) (by omega) (by omega)
    have e1 : gi t (((k + 1 : Nat) : Int) + 1) - gi t ((k + 1 : Nat) : Int) = mt t ((k + 1 : Nat) : Int) := rfl
    have e2 : gi t (wsS a t (k + 1) + 1) - gi t (wsS a t (k + 1)) = mt t (wsS a t (k + 1)) := rfl
    refine ⟨(wsS a t (k + 2), ((k + 2 : Nat) : Int), ()), ?_, by omega, rfl, by omega⟩
    refine (br_t (decide_eq_true (by omega))).trans ?_
    refine (r_bs (k_Work h (i := ((k + 1 : Nat) : Int)) (by omega) (by omega))).trans ?_
    rw [w64' (x := wsS a t (k + 1) + 1) (by omega) (by omega), w64' (x := ((k + 1 : Nat) : Int) + 1) (by omega) (by omega)]
    refine (q_of (inB_t' (by omega) (by omega))).trans ?_
    refine (q_of (inB_t' (by omega) (by omega))).trans ?_
    refine (r_bs (k_Work h (i := wsS a t (k + 1)) b.1 hb)).trans ?_
    refine (q_of (inB_t' (by omega) (by omega))).trans ?_
    refine (q_of (inB_t' (by omega) (by omega))).trans ?_
    dsimp only
    rw [e1, e2, w64' (x := mt t ((k + 1 : Nat) : Int)) (by omega) (by omega), w64' (x := mt t (wsS a t (k + 1))) (by omega) (by omega), w64' (x := work a (wsS a t (k + 1)) * mt t ((k + 1 : Nat) : Int)) (by omega) (by omega), w64' (x := work a ((k + 1 : Nat) : Int) * mt t (wsS a t (k + 1))) (by omega) (by omega)]
    have u : wsS a t (k + 2) = if work a (wsS a t (k + 1)) * mt t ((k + 1 : Nat) : Int) < work a ((k + 1 : Nat) : Int) * mt t (wsS a t (k + 1)) then ((k + 1 : Nat) : Int) else wsS a t (k + 1) := rfl
    by_cases q : work a (wsS a t (k + 1)) * mt t ((k + 1 : Nat) : Int) < work a ((k + 1 : Nat) : Int) * mt t (wsS a t (k + 1))
    · refine (br_t (decide_eq_true q)).trans ?_
      rw [u, if_pos q]
      exact r_ret _
    · refine (br_f (decide_eq_false q)).trans ?_
      rw [u, if_neg q]
      exact r_ret _
  · right
    have e : k + 1 = a.2.2.1.length := by omega
    refine (br_f (decide_eq_false (by omega))).trans ?_
    unfold wrstS
    rw [e]
    exact r_ret _

/-- Accepted times keep all bounds. -/
theorem ct_fs {a : Ann} (h : An a) {t : List Int} (c : Ct a t) : Fs a (fun x => gi t (x : Int)) := fun b hb => by
  have hn := c.len
  have tl : ∀ {y : Int}, 0 ≤ y → tmL (fun x => gi t (x : Int)) y = gi t y := fun {y} hy => by
    unfold tmL
    rw [if_neg (by omega)]
    dsimp only
    rw [show ((y.toNat : Nat) : Int) = y by omega]
  have t0 : tmL (fun x => gi t (x : Int)) (-1) = 0 := rfl
  rcases sysL_mem.1 hb with ⟨i, hi, rfl⟩ | ⟨i, hi, rfl | rfl⟩ | ⟨i, hi, rfl | rfl⟩
  · have := c.rg i (by omega)
    dsimp only
    rw [t0, tl (by omega)]; omega
  · have := c.st i hi
    unfold mt at this
    dsimp only
    rw [tl (by omega), tl (by omega)]; omega
  · have := c.st i hi
    unfold mt at this
    dsimp only
    rw [tl (by omega), tl (by omega)]; omega
  · have := c.wi i hi
    have w := h.wi i hi
    dsimp only
    rw [t0, tl (by omega)]; omega
  · have := c.wi i hi
    have w := h.wi i hi
    dsimp only
    rw [t0, tl (by omega)]; omega
end Go.Ab
