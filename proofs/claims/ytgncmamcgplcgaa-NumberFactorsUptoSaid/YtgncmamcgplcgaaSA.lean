/- Sturm's theorem without real numbers: the changes of signs of a chain do not rise. -/
import Derived.Test.YtgncmamcgplcgaaZA
import Derived.Test.YtgncmamcgplcgaaW5
namespace Go.Ab
set_option linter.unusedVariables false
set_option linter.unusedSectionVars false
set_option maxRecDepth 100000
/-! ### Bounds on [-Z, Z] -/
theorem mul_b {Z z v B : Rat} (h1 : -Z ≤ z) (h2 : z ≤ Z) (h3 : -B ≤ v) (h4 : v ≤ B) : -(Z * B) ≤ z * v ∧ z * v ≤ Z * B := by
  have a := Rat.mul_nonneg (show 0 ≤ Z - z by grind) (show 0 ≤ B + v by grind)
  have b := Rat.mul_nonneg (show 0 ≤ Z + z by grind) (show 0 ≤ B - v by grind)
  have c := Rat.mul_nonneg (show 0 ≤ Z - z by grind) (show 0 ≤ B - v by grind)
  have d := Rat.mul_nonneg (show 0 ≤ Z + z by grind) (show 0 ≤ B + v by grind)
  constructor <;> grind
theorem ev_bnd2 {Z z : Rat} (h1 : -Z ≤ z) (h2 : z ≤ Z) (l : List Rat) : -bnd Z l ≤ ev l z ∧ ev l z ≤ bnd Z l := by
  induction l with
  | nil => simp [bnd, ev]
  | cons c l ih =>
    obtain ⟨a1, a2, a3⟩ := rabs_le c
    obtain ⟨b1, b2⟩ := mul_b h1 h2 ih.1 ih.2
    simp only [bnd, ev]
    constructor <;> grind
theorem ev_lip2 {Z a b : Rat} (h0 : -Z ≤ a) (hab : a ≤ b) (h : b ≤ Z) (l : List Rat) : -((b - a) * lip Z l) ≤ ev l b - ev l a ∧ ev l b - ev l a ≤ (b - a) * lip Z l := by
  induction l with
  | nil => simp only [lip, ev]; constructor <;> grind
  | cons c l ih =>
    obtain ⟨b1, b2⟩ := ev_bnd2 (Z := Z) (z := b) (by grind) h l
    have k0 : 0 ≤ b - a := by grind
    have h1 := Rat.mul_nonneg k0 (show 0 ≤ bnd Z l - ev l b by grind)
    have h2 := Rat.mul_nonneg k0 (show 0 ≤ bnd Z l + ev l b by grind)
    obtain ⟨m1, m2⟩ := mul_b h0 (show a ≤ Z by grind) ih.1 ih.2
    simp only [lip, ev]
    constructor <;> grind
/-- The derivative. -/
def pd : List Rat → List Rat
  | [] => []
  | _ :: l => pad l (0 :: pd l)
theorem pd_cons (c : Rat) (l : List Rat) (z : Rat) : ev (pd (c :: l)) z = ev l z + z * ev (pd l) z := by
  simp only [pd, ev_pad, ev]; grind
/-- A bound of the second difference. -/
def cc (Z : Rat) : List Rat → Rat
  | [] => 0
  | _ :: l => Z * cc Z l + bnd Z (pd l)
theorem cc_nn {Z : Rat} (hZ : 0 ≤ Z) (l : List Rat) : 0 ≤ cc Z l := by
  induction l with
  | nil => simp [cc]
  | cons c l ih =>
    have h1 := bnd_nn hZ (pd l)
    have h2 := Rat.mul_nonneg hZ ih
    simp only [cc]; grind
theorem sqn (v : Rat) : 0 ≤ v * v := by
  rcases Rat.le_total (a := 0) (b := v) with h | h
  · exact Rat.mul_nonneg h h
  · have := Rat.mul_nonneg (show 0 ≤ -v by grind) (show 0 ≤ -v by grind); grind
theorem taylor {Z z e : Rat} (h1 : -Z ≤ z) (h2 : z ≤ Z) (h3 : -Z ≤ z + e) (h4 : z + e ≤ Z) (l : List Rat) :
    -(cc Z l * (e * e)) ≤ ev l (z + e) - ev l z - e * ev (pd l) z ∧ ev l (z + e) - ev l z - e * ev (pd l) z ≤ cc Z l * (e * e) := by
  induction l with
  | nil => simp only [cc, ev, pd]; constructor <;> grind
  | cons c l ih =>
    obtain ⟨b1, b2⟩ := ev_bnd2 h1 h2 (pd l)
    have k0 := sqn e
    have m1 := Rat.mul_nonneg k0 (show 0 ≤ bnd Z (pd l) - ev (pd l) z by grind)
    have m2 := Rat.mul_nonneg k0 (show 0 ≤ bnd Z (pd l) + ev (pd l) z by grind)
    obtain ⟨n1, n2⟩ := mul_b h3 h4 ih.1 ih.2
    rw [pd_cons]
    simp only [cc, ev]
    constructor <;> grind
/-! ### The first coefficient -/
theorem rdiv_pos {a b : Rat} (ha : 0 < a) (hb : 0 < b) : 0 < a / b := by
  rw [Rat.div_def]; exact Rat.mul_pos ha (Rat.inv_pos.2 hb)
def lead : List Rat → Rat
  | [] => 0
  | a :: l => if a = 0 then lead l else a
theorem lead0 {l : List Rat} (h : lead l = 0) (z : Rat) : ev l z = 0 := by
  induction l with
  | nil => rfl
  | cons a l ih =>
    rw [lead] at h
    split at h
    · rename_i ha; rw [ev, ih h, ha]; grind
    · exact absurd h ‹_›
theorem lead_small {l : List Rat} (h : lead l ≠ 0) : ∃ e, 0 < e ∧ ∀ t, 0 < t → t ≤ e → 0 < ev l t * lead l := by
  induction l with
  | nil => exact absurd rfl h
  | cons a l ih =>
    rw [lead] at h ⊢
    by_cases ha : a = 0
    · rw [if_pos ha] at h ⊢
      obtain ⟨e, he, hh⟩ := ih h
      refine ⟨e, he, fun t h1 h2 => ?_⟩
      have := Rat.mul_pos h1 (hh t h1 h2)
      rw [ev, ha]; grind
    · rw [if_neg ha]
      obtain ⟨a1, a2, a3⟩ := rabs_le a
      have hpos : 0 < rabs a := by unfold rabs; split <;> grind
      have hB := bnd_nn (Z := 1) (by decide) l
      have hs : 0 < rabs a + bnd 1 l := by grind
      refine ⟨rabs a / (rabs a + bnd 1 l), rdiv_pos hpos hs, fun t h1 h2 => ?_⟩
      have h3 : t * (rabs a + bnd 1 l) ≤ rabs a := by
        have := Rat.mul_le_mul_of_nonneg_right h2 (show 0 ≤ rabs a + bnd 1 l by grind)
        have e : rabs a / (rabs a + bnd 1 l) * (rabs a + bnd 1 l) = rabs a := by grind
        rw [e] at this; exact this
      have h4 : t ≤ 1 := by
        by_cases c : t ≤ 1
        · exact c
        · have := Rat.mul_nonneg (show 0 ≤ t - 1 by grind) hB
          have := Rat.mul_pos (show 0 < t - 1 by grind) hpos
          grind
      obtain ⟨b1, b2⟩ := ev_bnd2 (Z := 1) (z := t) (by grind) h4 l
      have ht := Rat.mul_pos h1 hpos
      rw [ev]
      -- a (a + t v) > 0 for t |v| < |a|
      have v1 := Rat.mul_nonneg (show 0 ≤ t by grind) (show 0 ≤ bnd 1 l - ev l t by grind)
      have v2 := Rat.mul_nonneg (show 0 ≤ t by grind) (show 0 ≤ bnd 1 l + ev l t by grind)
      unfold rabs at *
      split at h3
      · rename_i hneg
        rw [if_pos hneg] at *
        have : 0 < (-a) * (-(a + t * ev l t)) := Rat.mul_pos (by grind) (by grind)
        grind
      · rename_i hneg
        rw [if_neg hneg] at *
        have : 0 < a * (a + t * ev l t) := Rat.mul_pos (by grind) (by grind)
        grind
/-- Not the polynomial 0. -/
def Nz (l : List Rat) : Prop := ∃ z, ev l z ≠ 0
theorem Nz.lead {l : List Rat} (h : Nz l) (x : Rat) {b : Rat} (hb : b ≠ 0) : lead (pcomp x b l) ≠ 0 := by
  intro h0
  obtain ⟨z, hz⟩ := h
  have := lead0 h0 ((z - x) / b)
  rw [ev_pcomp, show x + b * ((z - x) / b) = z by grind] at this
  exact hz this
/-- Not 0 just ahead of a point. -/
theorem Nz.left {l : List Rat} (h : Nz l) (y : Rat) : ∃ e, 0 < e ∧ ∀ t, 0 < t → t ≤ e → ev l (y - t) ≠ 0 := by
  obtain ⟨e, he, hh⟩ := lead_small (h.lead y (b := -1) (by decide))
  refine ⟨e, he, fun t h1 h2 h0 => ?_⟩
  have := hh t h1 h2
  rw [ev_pcomp, show y + -1 * t = y - t by grind, h0] at this
  grind
/-- The sign just behind a point. -/
theorem Nz.right {l : List Rat} (h : Nz l) (x : Rat) : ∃ e, 0 < e ∧ ∀ t, 0 < t → t ≤ e → 0 < ev l (x + t) * Go.Ab.lead (pcomp x 1 l) := by
  obtain ⟨e, he, hh⟩ := lead_small (h.lead x (b := 1) (by decide))
  refine ⟨e, he, fun t h1 h2 => ?_⟩
  have := hh t h1 h2
  rw [ev_pcomp, show x + 1 * t = x + t by grind] at this
  exact this
/-- A whole number above a rational one. -/
theorem arch (r : Rat) : ∃ n : Nat, 0 < n ∧ r < (n : Int) := by
  refine ⟨(r.floor + 1).toNat + 1, by omega, ?_⟩
  have h := Rat.lt_floor_add_one r
  have h2 := Rat.intCast_le_intCast.2 (show r.floor + 1 ≤ (((r.floor + 1).toNat + 1 : Nat) : Int) by omega)
  grind
/-! ### The first two members of a chain -/
theorem sq_bdd {v B : Rat} (h1 : -B ≤ v) (h2 : v ≤ B) : v * v ≤ B * B := by
  have := mul_b h1 h2 h1 h2
  exact this.2
theorem cross_step {p : List Rat} {Z z e : Rat} (hz : -Z ≤ z) (he : 0 ≤ e) (hze : z + e ≤ Z) :
    ev p (z + e) * ev p (z + e) ≤ ev p z * ev p z + 2 * e * (ev p z * ev (pd p) z) + (2 * (bnd Z p * cc Z p) + lip Z p * lip Z p) * (e * e) := by
  obtain ⟨t1, t2⟩ := taylor (e := e) hz (show z ≤ Z by grind) (show -Z ≤ z + e by grind) hze p
  obtain ⟨b1, b2⟩ := ev_bnd2 hz (show z ≤ Z by grind) p
  obtain ⟨l1, l2⟩ := ev_lip2 hz (show z ≤ z + e by grind) hze p
  obtain ⟨m1, m2⟩ := mul_b b1 b2 t1 t2
  have s := sq_bdd l1 l2
  generalize ev p (z + e) = u at *
  generalize ev p z = v at *
  generalize ev (pd p) z = d at *
  grind
/-- Points of a grid. -/
def gp (x h : Rat) : Nat → Rat
  | 0 => x
  | j + 1 => gp x h j + h
theorem gp_eq (x h : Rat) : ∀ j : Nat, gp x h j = x + ((j : Int) : Rat) * h
  | 0 => by simp only [gp]; have : (((0 : Nat) : Int) : Rat) = 0 := rfl; rw [this]; grind
  | j + 1 => by
    rw [gp, gp_eq x h j, show ((j + 1 : Nat) : Int) = (j : Int) + 1 by omega, Rat.intCast_add]
    have : ((1 : Int) : Rat) = 1 := rfl
    rw [this]; grind
theorem gp_ge {x h : Rat} (hh : 0 ≤ h) (j : Nat) : x ≤ gp x h j := by
  rw [gp_eq]
  have := Rat.mul_nonneg (Rat.intCast_le_intCast.2 (show (0 : Int) ≤ (j : Int) by omega)) hh
  have e : ((0 : Int) : Rat) = 0 := rfl
  grind
theorem gp_le {x h : Rat} (hh : 0 ≤ h) {j n : Nat} (hj : j ≤ n) : gp x h j ≤ gp x h n := by
  rw [gp_eq, gp_eq]
  have := Rat.mul_le_mul_of_nonneg_right (Rat.intCast_le_intCast.2 (show (j : Int) ≤ (n : Int) by omega)) hh
  grind
theorem gp_end {x y : Rat} {n : Nat} (hn : 0 < n) : gp x ((y - x) / ((n : Int) : Rat)) n = y := by
  rw [gp_eq]
  have : ((n : Int) : Rat) ≠ 0 := by
    have := Rat.intCast_lt_intCast.2 (show (0 : Int) < (n : Int) by omega)
    have e : ((0 : Int) : Rat) = 0 := rfl
    grind
  grind
theorem step_nn {x y : Rat} (h : x < y) {n : Nat} (hn : 0 < n) : 0 < (y - x) / ((n : Int) : Rat) := by
  have := Rat.intCast_lt_intCast.2 (show (0 : Int) < (n : Int) by omega)
  have e : ((0 : Int) : Rat) = 0 := rfl
  exact rdiv_pos (by grind) (by grind)
/-- Where the second member is positive the first one does not fall below 0. -/
theorem cross {g p s0 s1 : List Rat} {Z x y : Rat} (hxy : x < y) (hx : -Z ≤ x) (hy : y ≤ Z) (hP : ∀ z, ev p z = ev g z * ev s0 z) (hD : ∀ z, ev (pd p) z = ev g z * ev s1 z)
    (h1 : ∀ w, x ≤ w → w ≤ y → 0 ≤ ev s1 w) (h0 : 0 ≤ ev s0 x) (hneg : ev s0 y < 0) (hg : ev g y ≠ 0) : False := by
  have hZ : 0 ≤ Z := by grind
  have hA : 0 ≤ bnd Z g * bnd Z g * (lip Z s0 * lip Z s0) := Rat.mul_nonneg (sqn _) (sqn _)
  have hC : 0 ≤ 2 * (bnd Z p * cc Z p) + lip Z p * lip Z p := by
    have := Rat.mul_nonneg (bnd_nn hZ p) (cc_nn hZ p)
    have := sqn (lip Z p)
    grind
  have claim : ∀ h, 0 ≤ h → ∀ j : Nat, gp x h j ≤ y → 0 ≤ ev s0 (gp x h j) ∨ ev p (gp x h j) * ev p (gp x h j) ≤ (bnd Z g * bnd Z g * (lip Z s0 * lip Z s0) + ((j : Int) : Rat) * (2 * (bnd Z p * cc Z p) + lip Z p * lip Z p)) * (h * h) := by
    intro h hh j
    induction j with
    | zero => intro _; exact .inl h0
    | succ j ih =>
      intro hj
      have hjj : gp x h j ≤ gp x h (j + 1) := gp_le hh (by omega)
      have hj' : gp x h j ≤ y := by grind
      have hx' := gp_ge (x := x) hh j
      have hjn := Rat.intCast_le_intCast.2 (show (0 : Int) ≤ (j : Int) by omega)
      have e0 : ((0 : Int) : Rat) = 0 := rfl
      have e1 : (((j + 1 : Nat) : Int) : Rat) = ((j : Int) : Rat) + 1 := by
        rw [show ((j + 1 : Nat) : Int) = (j : Int) + 1 by omega, Rat.intCast_add]; rfl
      by_cases c : 0 ≤ ev s0 (gp x h (j + 1))
      · exact .inl c
      right
      have hh2 := sqn h
      have nC := Rat.mul_nonneg (show 0 ≤ ((j : Int) : Rat) by grind) hC
      rw [e1]
      rcases ih hj' with i | i
      · -- the sign changes here
        rw [hP]
        obtain ⟨l1, l2⟩ := ev_lip2 (Z := Z) (a := gp x h j) (b := gp x h (j + 1)) (by grind) hjj (by grind) s0
        obtain ⟨g1, g2⟩ := ev_bnd2 (Z := Z) (z := gp x h (j + 1)) (by grind) (by grind) g
        have eh : gp x h (j + 1) - gp x h j = h := by rw [gp]; grind
        rw [eh] at l1 l2
        have s1' := sq_bdd (v := ev s0 (gp x h (j + 1))) (B := h * lip Z s0) (by grind) (by have := Rat.mul_nonneg hh (lip_nn hZ s0); grind)
        have s2' := sq_bdd g1 g2
        have w1 := Rat.mul_nonneg (show 0 ≤ bnd Z g * bnd Z g - ev g (gp x h (j + 1)) * ev g (gp x h (j + 1)) by grind) (sqn (ev s0 (gp x h (j + 1))))
        have w2 := Rat.mul_nonneg (sqn (bnd Z g)) (show 0 ≤ h * lip Z s0 * (h * lip Z s0) - ev s0 (gp x h (j + 1)) * ev s0 (gp x h (j + 1)) by grind)
        have w3 := Rat.mul_nonneg nC hh2
        have w4 := Rat.mul_nonneg hC hh2
        generalize ev g (gp x h (j + 1)) = u at *
        generalize ev s0 (gp x h (j + 1)) = v at *
        grind
      · by_cases c' : 0 ≤ ev s0 (gp x h j)
        · rw [hP]
          obtain ⟨l1, l2⟩ := ev_lip2 (Z := Z) (a := gp x h j) (b := gp x h (j + 1)) (by grind) hjj (by grind) s0
          obtain ⟨g1, g2⟩ := ev_bnd2 (Z := Z) (z := gp x h (j + 1)) (by grind) (by grind) g
          have eh : gp x h (j + 1) - gp x h j = h := by rw [gp]; grind
          rw [eh] at l1 l2
          have s1' := sq_bdd (v := ev s0 (gp x h (j + 1))) (B := h * lip Z s0) (by grind) (by have := Rat.mul_nonneg hh (lip_nn hZ s0); grind)
          have s2' := sq_bdd g1 g2
          have w1 := Rat.mul_nonneg (show 0 ≤ bnd Z g * bnd Z g - ev g (gp x h (j + 1)) * ev g (gp x h (j + 1)) by grind) (sqn (ev s0 (gp x h (j + 1))))
          have w2 := Rat.mul_nonneg (sqn (bnd Z g)) (show 0 ≤ h * lip Z s0 * (h * lip Z s0) - ev s0 (gp x h (j + 1)) * ev s0 (gp x h (j + 1)) by grind)
          have w3 := Rat.mul_nonneg nC hh2
          have w4 := Rat.mul_nonneg hC hh2
          generalize ev g (gp x h (j + 1)) = u at *
          generalize ev s0 (gp x h (j + 1)) = v at *
          grind
        · have st := cross_step (p := p) (Z := Z) (z := gp x h j) (by grind) hh (by rw [gp] at hj; grind)
          rw [show gp x h j + h = gp x h (j + 1) from rfl] at st
          have k1 := h1 (gp x h j) hx' hj'
          have k2 : ev p (gp x h j) * ev (pd p) (gp x h j) = ev g (gp x h j) * ev g (gp x h j) * (ev s0 (gp x h j) * ev s1 (gp x h j)) := by rw [hP, hD]; grind
          have k3 := Rat.mul_nonneg (sqn (ev g (gp x h j))) (Rat.mul_nonneg (show 0 ≤ -ev s0 (gp x h j) by grind) k1)
          have k4 := Rat.mul_nonneg hh k3
          rw [k2] at st
          generalize ev g (gp x h j) = u at *
          generalize ev s0 (gp x h j) = v at *
          generalize ev s1 (gp x h j) = w at *
          grind
  -- a fine grid
  have q : 0 < ev p y * ev p y := by
    have h2 : ev p y ≠ 0 := by
      rw [hP]; intro hh
      rcases Rat.mul_eq_zero.1 hh with h | h
      · exact hg h
      · grind
    rcases Rat.le_total (a := 0) (b := ev p y) with h | h
    · exact Rat.mul_pos (by grind) (by grind)
    · have := Rat.mul_pos (show 0 < -ev p y by grind) (show 0 < -ev p y by grind); grind
  obtain ⟨n, hn, hlt⟩ := arch ((bnd Z g * bnd Z g * (lip Z s0 * lip Z s0) + (2 * (bnd Z p * cc Z p) + lip Z p * lip Z p)) * ((y - x) * (y - x)) / (ev p y * ev p y))
  have hstep := step_nn hxy hn
  have e := gp_end (x := x) (y := y) hn
  have cl := claim ((y - x) / ((n : Int) : Rat)) (by grind) n (by rw [e]; grind)
  rw [e] at cl
  rcases cl with c | c
  · grind
  · have n1 := Rat.intCast_le_intCast.2 (show (1 : Int) ≤ (n : Int) by omega)
    have e1 : ((1 : Int) : Rat) = 1 := rfl
    rw [e1] at n1
    generalize bnd Z g * bnd Z g * (lip Z s0 * lip Z s0) = A at *
    generalize 2 * (bnd Z p * cc Z p) + lip Z p * lip Z p = C at *
    generalize ev p y * ev p y = Q at *
    generalize ((n : Int) : Rat) = N at *
    have hD' := sqn (y - x)
    generalize hd : (y - x) * (y - x) = D at *
    have e2 : (y - x) / N * ((y - x) / N) * (N * N) = D := by rw [← hd]; grind
    have l1 : (A + C) * D < N * Q := by
      have := Rat.mul_lt_mul_of_pos_right hlt q
      have e3 : (A + C) * D / Q * Q = (A + C) * D := by grind
      rw [e3] at this; exact this
    -- Q N^2 ≤ (A + N C) D ≤ N (A + C) D
    have l2 := Rat.mul_le_mul_of_nonneg_right c (show 0 ≤ N * N from sqn N)
    have l3 : (A + N * C) * ((y - x) / N * ((y - x) / N)) * (N * N) = (A + N * C) * D := by rw [← e2]; grind
    rw [l3] at l2
    have l4 := Rat.mul_nonneg (show 0 ≤ N - 1 by grind) (Rat.mul_nonneg hA hD')
    have l5 := Rat.mul_lt_mul_of_pos_right l1 (show 0 < N by grind)
    grind
/-! ### Changes of signs, from one point to the next -/
def Sgn (v : Int) : Prop := v = 0 ∨ v = 1 ∨ v = -1
theorem cg_stable {s : Nat → Int} {k : Nat} (h : s k ≠ 0) : (cgS s (k + 1)).2 = s k := by rw [cgS]; exact if_neg h
theorem cg_step {s : Nat → Int} {k : Nat} : (cgS s (k + 1)).1 = if s k * (cgS s k).2 < 0 then (cgS s k).1 + 1 else (cgS s k).1 := by rw [cgS]
theorem sg3 {a b : Int} (ha : Sgn a) (hb : Sgn b) : a * b < 0 ↔ (a = 1 ∧ b = -1) ∨ (a = -1 ∧ b = 1) := by
  rcases ha with rfl | rfl | rfl <;> rcases hb with rfl | rfl | rfl <;> decide
/-- A member between two others of opposite signs counts one change. -/
theorem cg_between {s : Nat → Int} {k : Nat} (hs : ∀ i, Sgn (s i)) (h1 : s k ≠ 0) (h2 : s (k + 2) = -s k) : (cgS s (k + 3)).1 = (cgS s (k + 1)).1 + 1 ∧ (cgS s (k + 3)).2 = s (k + 2) := by
  have e1 := cg_stable h1
  have e2 : (cgS s (k + 2)) = (if s (k + 1) * s k < 0 then (cgS s (k + 1)).1 + 1 else (cgS s (k + 1)).1, if s (k + 1) = 0 then s k else s (k + 1)) := by
    rw [cgS, e1]
  refine ⟨?_, cg_stable (by omega)⟩
  rw [cg_step, e2, h2]
  generalize (cgS s (k + 1)).1 = n
  have a := hs k
  have b := hs (k + 1)
  rcases a with a | a | a
  · exact absurd a h1
  · rcases b with b | b | b <;> rw [a, b] <;> simp
  · rcases b with b | b | b <;> rw [a, b] <;> simp
structure Piece (s t : Nat → Int) (m : Nat) : Prop where
  hs : ∀ i, Sgn (s i)
  ht : ∀ i, Sgn (t i)
  last : s m = t m ∧ s m ≠ 0
  adj : ∀ k, k < m → (s k = t k ∧ s k ≠ 0) ∨ (s (k + 1) = t (k + 1) ∧ s (k + 1) ≠ 0)
  mid : ∀ k, k + 2 ≤ m → ¬ (s (k + 1) = t (k + 1) ∧ s (k + 1) ≠ 0) → s (k + 2) = -s k
  fst : 1 ≤ m → ¬ (s 0 = t 0 ∧ s 0 ≠ 0) → t 1 * t 0 < 0 → s 1 * s 0 < 0
theorem Piece.count {s t : Nat → Int} {m : Nat} (h : Piece s t m) : (cgS t (m + 1)).1 ≤ (cgS s (m + 1)).1 ∧ (cgS s (m + 1)).1 ≤ (cgS t (m + 1)).1 + 1 := by
  have key : ∀ n k, k < n → k ≤ m → s k = t k → s k ≠ 0 → (cgS t (k + 1)).1 ≤ (cgS s (k + 1)).1 ∧ (cgS s (k + 1)).1 ≤ (cgS t (k + 1)).1 + 1 := by
    intro n
    induction n with
    | zero => intro k h1; omega
    | succ n ih =>
      intro k hk hm e0 e1
      match k with
      | 0 => 
        rw [cg_step, cg_step]
        show (if t 0 * 0 < 0 then (0 : Int) + 1 else 0) ≤ (if s 0 * 0 < 0 then (0 : Int) + 1 else 0) ∧ _
        simp [cgS]
      | 1 =>
        by_cases st : s 0 = t 0 ∧ s 0 ≠ 0
        · have i : (cgS t 1).1 ≤ (cgS s 1).1 ∧ (cgS s 1).1 ≤ (cgS t 1).1 + 1 := ih 0 (by omega) (by omega) st.1 st.2
          rw [cg_step (k := 1), cg_step (s := s) (k := 1), cg_stable st.2, cg_stable (s := t) (k := 0) (by rw [← st.1]; exact st.2), ← e0, ← st.1]
          split <;> omega
        · have f := h.fst hm st
          have zs : (cgS s 1).1 = 0 := by simp [cgS]
          have zt : (cgS t 1).1 = 0 := by simp [cgS]
          have ps : (cgS s 1).2 = s 0 := by simp [cgS]; omega
          have pt : (cgS t 1).2 = t 0 := by simp [cgS]; omega
          rw [cg_step (k := 1), cg_step (s := s) (k := 1), zs, zt, ps, pt]
          split
          · rename_i c; rw [if_pos (f c)]; omega
          · split <;> omega
      | k + 2 =>
        by_cases st : s (k + 1) = t (k + 1) ∧ s (k + 1) ≠ 0
        · have i : (cgS t (k + 2)).1 ≤ (cgS s (k + 2)).1 ∧ (cgS s (k + 2)).1 ≤ (cgS t (k + 2)).1 + 1 := ih (k + 1) (by omega) (by omega) st.1 st.2
          rw [cg_step (k := k + 2), cg_step (s := s) (k := k + 2), cg_stable st.2, cg_stable (s := t) (k := k + 1) (by rw [← st.1]; exact st.2), ← e0, ← st.1]
          split <;> omega
        · have md := h.mid k hm st
          have st0 : s k = t k ∧ s k ≠ 0 := by
            rcases h.adj k (by omega) with q | q
            · exact q
            · exact absurd q st
          have i := ih k (by omega) (by omega) st0.1 st0.2
          have c1 := (cg_between h.hs st0.2 md).1
          have c2 := (cg_between h.ht (k := k) (by rw [← st0.1]; exact st0.2) (by rw [← e0, ← st0.1]; exact md)).1
          show (cgS t (k + 3)).1 ≤ (cgS s (k + 3)).1 ∧ _
          rw [c1, c2]
          omega
  exact key (m + 1) m (by omega) (Nat.le_refl _) h.last.1 h.last.2
/-! ### Sturm's theorem: the changes do not rise -/
def sgR (v : Rat) : Int := if v = 0 then 0 else if 0 < v then 1 else -1
theorem sgR_sgn (v : Rat) : Sgn (sgR v) := by
  unfold sgR Sgn; split
  · exact .inl rfl
  · split
    · exact .inr (.inl rfl)
    · exact .inr (.inr rfl)
theorem sgR_pos {v : Rat} (h : 0 < v) : sgR v = 1 := by unfold sgR; rw [if_neg (by grind), if_pos h]
theorem sgR_neg {v : Rat} (h : v < 0) : sgR v = -1 := by unfold sgR; rw [if_neg (by grind), if_neg (by grind)]
theorem sgR_zero : sgR 0 = 0 := by unfold sgR; rw [if_pos rfl]
theorem sgR_1 {v : Rat} : sgR v = 1 ↔ 0 < v := by
  unfold sgR; split
  · rename_i h; subst h; simp
  · split <;> simp_all
theorem sgR_m1 {v : Rat} : sgR v = -1 ↔ v < 0 := by
  unfold sgR; split
  · rename_i h; subst h; simp
  · split
    · simp; grind
    · simp; grind
theorem sgR_0 {v : Rat} : sgR v = 0 ↔ v = 0 := by
  unfold sgR; split
  · simp_all
  · split <;> simp_all
def mxs (f : Nat → Rat) : Nat → Rat
  | 0 => 0
  | n + 1 => mxs f n + f n
theorem mxs_nn {f : Nat → Rat} (h : ∀ k, 0 ≤ f k) : ∀ n, 0 ≤ mxs f n
  | 0 => by simp [mxs]
  | n + 1 => by have := mxs_nn h n; have := h n; simp only [mxs]; grind
theorem mxs_le {f : Nat → Rat} (h : ∀ k, 0 ≤ f k) : ∀ n k, k < n → f k ≤ mxs f n
  | 0, k, hk => by omega
  | n + 1, k, hk => by
    simp only [mxs]
    rcases Nat.lt_or_ge k n with c | c
    · have := mxs_le h n k c; have := h n; grind
    · have e : k = n := by omega
      subst e
      have := mxs_nn h k; grind
def kp (K : Rat) : Nat → Rat
  | 0 => 1
  | j + 1 => kp K j * K
theorem kp_ge {K : Rat} (h : 1 ≤ K) : ∀ j, 1 ≤ kp K j
  | 0 => by simp only [kp]; exact Rat.le_refl
  | j + 1 => by
    have := kp_ge h j
    have := Rat.mul_nonneg (show 0 ≤ kp K j - 1 by grind) (show 0 ≤ K - 1 by grind)
    simp only [kp]; grind
theorem kp_le {K : Rat} (h : 1 ≤ K) {i j : Nat} (hij : i ≤ j) : kp K i ≤ kp K j := by
  induction hij with
  | refl => exact Rat.le_refl
  | @step j _ ih =>
    have := kp_ge h j
    have := Rat.mul_nonneg (show 0 ≤ kp K j by grind) (show 0 ≤ K - 1 by grind)
    simp only [kp]; grind
structure Sturm (m : Nat) (g p : List Rat) (S Q : Nat → List Rat) (al : Nat → Rat) : Prop where
  hp : ∀ z, ev p z = ev g z * ev (S 0) z
  hd : 1 ≤ m → ∀ z, ev (pd p) z = ev g z * ev (S 1) z
  hm : ∀ z, ev (S m) z = 1
  ha : ∀ k, 0 < al k
  hq : ∀ k, k + 2 ≤ m → ∀ z, al k * ev (S k) z = ev (Q k) z * ev (S (k + 1)) z - ev (S (k + 2)) z
  hg : Nz g
def KK (Z : Rat) (Q : Nat → List Rat) (al : Nat → Rat) (m : Nat) : Rat := 1 + mxs (fun k => bnd Z (Q k) + al k) m
def LL (Z : Rat) (S : Nat → List Rat) (m : Nat) : Rat := mxs (fun k => lip Z (S k)) (m + 1)
/-- The changes of signs of a chain at a point. -/
def chg (S : Nat → List Rat) (m : Nat) (z : Rat) : Int := (cgS (fun k => sgR (ev (S k) z)) (m + 1)).1
theorem ev_neg (l : List Rat) (z : Rat) : ev (psc (-1) l) z = -ev l z := by rw [ev_psc]; grind
/-- cross, with a step aside where the common factor is 0. -/
theorem cross' {g p s0 s1 : List Rat} {Z x y : Rat} (hxy : x < y) (hx : -Z ≤ x) (hy : y ≤ Z) (hP : ∀ z, ev p z = ev g z * ev s0 z) (hD : ∀ z, ev (pd p) z = ev g z * ev s1 z)
    (h1 : ∀ w, x ≤ w → w ≤ y → 0 ≤ ev s1 w) (h0 : 0 ≤ ev s0 x) (hneg : ev s0 y < 0) (hg : Nz g) : False := by
  obtain ⟨e, he, hh⟩ := hg.left y
  have hL := lip_nn (Z := Z) (by grind) s0
  have hq : 0 < -ev s0 y / (2 * (lip Z s0 + 1)) := rdiv_pos (by grind) (by grind)
  have : ∃ t, 0 < t ∧ t ≤ e ∧ t ≤ (y - x) / 2 ∧ t ≤ -ev s0 y / (2 * (lip Z s0 + 1)) := by
    have a : ∃ t, 0 < t ∧ t ≤ e ∧ t ≤ (y - x) / 2 := by
      by_cases c : e ≤ (y - x) / 2
      · exact ⟨e, he, Rat.le_refl, c⟩
      · exact ⟨(y - x) / 2, by grind, by grind, Rat.le_refl⟩
    obtain ⟨t, t1, t2, t3⟩ := a
    by_cases c : t ≤ -ev s0 y / (2 * (lip Z s0 + 1))
    · exact ⟨t, t1, t2, t3, c⟩
    · exact ⟨_, hq, by grind, by grind, Rat.le_refl⟩
  obtain ⟨t, t1, t2, t3, t4⟩ := this
  have t5 : t * (2 * (lip Z s0 + 1)) ≤ -ev s0 y := by
    have := Rat.mul_le_mul_of_nonneg_right t4 (show 0 ≤ 2 * (lip Z s0 + 1) by grind)
    have e' : -ev s0 y / (2 * (lip Z s0 + 1)) * (2 * (lip Z s0 + 1)) = -ev s0 y := by grind
    rw [e'] at this; exact this
  obtain ⟨l1, l2⟩ := ev_lip2 (Z := Z) (a := y - t) (b := y) (by grind) (by grind) hy s0
  have hn : ev s0 (y - t) < 0 := by
    have := Rat.mul_nonneg (show 0 ≤ t by grind) hL
    grind
  exact cross (Z := Z) (show x < y - t by grind) hx (by grind) hP hD (fun w a b => h1 w a (by grind)) h0 hn (hh t t1 t2)
section
variable {m : Nat} {g p : List Rat} {S Q : Nat → List Rat} {al : Nat → Rat} (h : Sturm m g p S Q al) {Z : Rat} (hZ : 0 ≤ Z)
include h hZ
theorem Sturm.K1 : 1 ≤ KK Z Q al m := by
  have := mxs_nn (f := fun k => bnd Z (Q k) + al k) (fun k => by have := bnd_nn hZ (Q k); have := h.ha k; grind) m
  unfold KK; grind
theorem Sturm.Kk {k : Nat} (hk : k < m) : bnd Z (Q k) + al k ≤ KK Z Q al m := by
  have := mxs_le (f := fun k => bnd Z (Q k) + al k) (fun k => by have := bnd_nn hZ (Q k); have := h.ha k; grind) m k hk
  unfold KK; grind
/-- Neighbours are not both small. -/
theorem Sturm.big {c : Rat} (hc : 0 < c) {x : Rat} (x1 : -Z ≤ x) (x2 : x ≤ Z) {k : Nat} (hk : k < m) (a1 : -c < ev (S k) x) (a2 : ev (S k) x < c) (b1 : -c < ev (S (k + 1)) x) (b2 : ev (S (k + 1)) x < c) : 1 < c * kp (KK Z Q al m) m := by
  have K1 := h.K1 hZ
  have key : ∀ j, k + j + 1 ≤ m → (-(c * kp (KK Z Q al m) j) < ev (S (k + j)) x ∧ ev (S (k + j)) x < c * kp (KK Z Q al m) j) ∧ -(c * kp (KK Z Q al m) j) < ev (S (k + j + 1)) x ∧ ev (S (k + j + 1)) x < c * kp (KK Z Q al m) j := by
    intro j
    induction j with
    | zero => intro _; simp only [kp]; exact ⟨⟨by show -(c * 1) < ev (S k) x; grind, by show ev (S k) x < c * 1; grind⟩, by show -(c * 1) < ev (S (k + 1)) x; grind, by show ev (S (k + 1)) x < c * 1; grind⟩
    | succ j ih =>
      intro hj
      obtain ⟨⟨i1, i2⟩, i3, i4⟩ := ih (by omega)
      have kj := kp_ge K1 j
      have kk := h.Kk hZ (k := k + j) (by omega)
      have hq := h.hq (k + j) (by omega) x
      have hb := bnd_nn hZ (Q (k + j))
      have ha := h.ha (k + j)
      have mono : c * kp (KK Z Q al m) j ≤ c * kp (KK Z Q al m) (j + 1) := by
        have := Rat.mul_nonneg (show 0 ≤ c by grind) (Rat.mul_nonneg (show 0 ≤ kp (KK Z Q al m) j by grind) (show 0 ≤ KK Z Q al m - 1 by grind))
        simp only [kp]; grind
      refine ⟨⟨by show _ < ev (S (k + j + 1)) x; grind, by show ev (S (k + j + 1)) x < _; grind⟩, ?_⟩
      obtain ⟨q1, q2⟩ := ev_bnd2 x1 x2 (Q (k + j))
      have hcp : 0 < c * kp (KK Z Q al m) j := Rat.mul_pos hc (by grind)
      obtain ⟨m1, m2⟩ := mul_b q1 q2 (Rat.le_of_lt i3) (Rat.le_of_lt i4)
      have n1 := Rat.mul_pos ha (show 0 < c * kp (KK Z Q al m) j - ev (S (k + j)) x by grind)
      have n2 := Rat.mul_pos ha (show 0 < c * kp (KK Z Q al m) j + ev (S (k + j)) x by grind)
      have n3 := Rat.mul_nonneg (show 0 ≤ c * kp (KK Z Q al m) j by grind) (show 0 ≤ KK Z Q al m - (bnd Z (Q (k + j)) + al (k + j)) by grind)
      have ee : ev (S (k + (j + 1) + 1)) x = ev (Q (k + j)) x * ev (S (k + j + 1)) x - al (k + j) * ev (S (k + j)) x := by
        rw [show k + (j + 1) + 1 = k + j + 2 by omega]; grind
      rw [ee]
      simp only [kp]
      constructor <;> grind
  obtain ⟨⟨_, _⟩, _, k4⟩ := key (m - 1 - k) (by omega)
  rw [show k + (m - 1 - k) + 1 = m by omega, h.hm] at k4
  have := Rat.mul_le_mul_of_nonneg_left (kp_le K1 (show m - 1 - k ≤ m by omega)) (show 0 ≤ c by grind)
  grind
theorem Sturm.Lk {k : Nat} (hk : k ≤ m) : lip Z (S k) ≤ LL Z S m := mxs_le (f := fun k => lip Z (S k)) (fun k => lip_nn hZ _) (m + 1) k (by omega)
theorem Sturm.L0 : 0 ≤ LL Z S m := mxs_nn (f := fun k => lip Z (S k)) (fun k => lip_nn hZ _) (m + 1)
/-- From a point to a near one. -/
theorem Sturm.piece {x y : Rat} (x1 : -Z ≤ x) (xy : x < y) (y1 : y ≤ Z) (hfine : (y - x) * LL Z S m * KK Z Q al m * kp (KK Z Q al m) m < 1) : Piece (fun k => sgR (ev (S k) x)) (fun k => sgR (ev (S k) y)) m := by
  have K1 := h.K1 hZ
  have Kp := kp_ge K1 m
  have L0 := h.L0 hZ
  have hd0 : 0 < 1 / kp (KK Z Q al m) m := rdiv_pos (by decide) (by grind)
  have hd1 : 1 / kp (KK Z Q al m) m * kp (KK Z Q al m) m = 1 := by grind
  have n1 := Rat.mul_nonneg (show 0 ≤ y - x by grind) L0
  -- the steps are below d
  have f1 : (y - x) * LL Z S m * KK Z Q al m < 1 / kp (KK Z Q al m) m := by
    by_cases c : (y - x) * LL Z S m * KK Z Q al m < 1 / kp (KK Z Q al m) m
    · exact c
    · have := Rat.mul_nonneg (show 0 ≤ (y - x) * LL Z S m * KK Z Q al m - 1 / kp (KK Z Q al m) m by grind) (show 0 ≤ kp (KK Z Q al m) m by grind)
      grind
  have f2 : (y - x) * LL Z S m ≤ (y - x) * LL Z S m * KK Z Q al m := by
    have := Rat.mul_nonneg n1 (show 0 ≤ KK Z Q al m - 1 by grind); grind
  generalize hdd : 1 / kp (KK Z Q al m) m = d at *
  have lipk : ∀ k, k ≤ m → ∀ w, x ≤ w → w ≤ y → -((y - x) * LL Z S m) ≤ ev (S k) w - ev (S k) x ∧ ev (S k) w - ev (S k) x ≤ (y - x) * LL Z S m := by
    intro k hk w w1 w2
    obtain ⟨l1, l2⟩ := ev_lip2 (Z := Z) x1 w1 (by grind) (S k)
    have a := Rat.mul_nonneg (show 0 ≤ w - x by grind) (show 0 ≤ LL Z S m - lip Z (S k) by have := h.Lk hZ hk; grind)
    have b := Rat.mul_nonneg (show 0 ≤ y - w by grind) L0
    constructor <;> grind
  have uns : ∀ k, k ≤ m → ¬ (sgR (ev (S k) x) = sgR (ev (S k) y) ∧ sgR (ev (S k) x) ≠ 0) → -((y - x) * LL Z S m) ≤ ev (S k) x ∧ ev (S k) x ≤ (y - x) * LL Z S m := by
    intro k hk hu
    obtain ⟨l1, l2⟩ := lipk k hk y (by grind) Rat.le_refl
    by_cases c1 : 0 < ev (S k) x
    · by_cases c2 : 0 < ev (S k) y
      · exact absurd ⟨by rw [sgR_pos c1, sgR_pos c2], by rw [sgR_pos c1]; decide⟩ hu
      · constructor <;> grind
    · by_cases c0 : ev (S k) x = 0
      · constructor <;> grind
      · by_cases c2 : ev (S k) y < 0
        · have c3 : ev (S k) x < 0 := by grind
          exact absurd ⟨by rw [sgR_neg c3, sgR_neg c2], by rw [sgR_neg c3]; decide⟩ hu
        · constructor <;> grind
  have nb : ∀ k, k < m → -d < ev (S k) x → ev (S k) x < d → ev (S (k + 1)) x ≤ -d ∨ d ≤ ev (S (k + 1)) x := by
    intro k hk a1 a2
    by_cases c1 : ev (S (k + 1)) x ≤ -d
    · exact .inl c1
    · by_cases c2 : d ≤ ev (S (k + 1)) x
      · exact .inr c2
      · have := h.big hZ hd0 x1 (show x ≤ Z by grind) hk a1 a2 (by grind) (by grind)
        grind
  have adj : ∀ k, k < m → (sgR (ev (S k) x) = sgR (ev (S k) y) ∧ sgR (ev (S k) x) ≠ 0) ∨ (sgR (ev (S (k + 1)) x) = sgR (ev (S (k + 1)) y) ∧ sgR (ev (S (k + 1)) x) ≠ 0) := by
    intro k hk
    by_cases c1 : (sgR (ev (S k) x) = sgR (ev (S k) y) ∧ sgR (ev (S k) x) ≠ 0)
    · exact .inl c1
    · right
      by_cases c2 : (sgR (ev (S (k + 1)) x) = sgR (ev (S (k + 1)) y) ∧ sgR (ev (S (k + 1)) x) ≠ 0)
      · exact c2
      · have u1 := uns k (by omega) c1
        have u2 := uns (k + 1) (by omega) c2
        have := nb k hk (by grind) (by grind)
        grind
  refine ⟨fun i => sgR_sgn _, fun i => sgR_sgn _, ⟨by simp only [h.hm], by simp only [h.hm]; decide⟩, adj, fun k hk hu => ?_, fun hm1 hu hneg => ?_⟩
  · have u1 := uns (k + 1) (by omega) hu
    have n := nb (k + 1) (by omega) (by grind) (by grind)
    have hq := h.hq k hk x
    obtain ⟨q1, q2⟩ := ev_bnd2 x1 (show x ≤ Z by grind) (Q k)
    obtain ⟨m1, m2⟩ := mul_b q1 q2 u1.1 u1.2
    have kk := h.Kk hZ (k := k) (by omega)
    have ha := h.ha k
    have w1 := Rat.mul_nonneg n1 (show 0 ≤ KK Z Q al m - bnd Z (Q k) by grind)
    show sgR (ev (S (k + 2)) x) = -sgR (ev (S k) x)
    have e2 : ev (S (k + 1 + 1)) x = ev (S (k + 2)) x := rfl
    rw [e2] at n
    rcases n with n | n
    · have hpos : 0 < ev (S k) x := by
        by_cases c : 0 < ev (S k) x
        · exact c
        · have := Rat.mul_nonneg (show 0 ≤ al k by grind) (show 0 ≤ -ev (S k) x by grind); grind
      rw [sgR_neg (show ev (S (k + 2)) x < 0 by grind), sgR_pos hpos]
    · have hneg : ev (S k) x < 0 := by
        by_cases c : ev (S k) x < 0
        · exact c
        · have := Rat.mul_nonneg (show 0 ≤ al k by grind) (show 0 ≤ ev (S k) x by grind); grind
      rw [sgR_pos (show 0 < ev (S (k + 2)) x by grind), sgR_neg hneg]; rfl
  · have u0 := uns 0 (by omega) hu
    have n : ev (S 1) x ≤ -d ∨ d ≤ ev (S 1) x := nb 0 (by omega) (by grind) (by grind)
    have ly := lipk 1 hm1 y (by grind) Rat.le_refl
    show sgR (ev (S 1) x) * sgR (ev (S 0) x) < 0
    have hneg' : sgR (ev (S 1) y) * sgR (ev (S 0) y) < 0 := hneg
    rcases n with n | n
    · rw [sgR_neg (show ev (S 1) y < 0 by grind)] at hneg'
      have hy0 : 0 < ev (S 0) y := sgR_1.1 (by have := sgR_sgn (ev (S 0) y); unfold Sgn at this; omega)
      rw [sgR_neg (show ev (S 1) x < 0 by grind)]
      by_cases c : 0 < ev (S 0) x
      · rw [sgR_pos c]; decide
      · exfalso
        refine cross' (g := psc (-1) g) (p := p) (s0 := psc (-1) (S 0)) (s1 := psc (-1) (S 1)) (Z := Z) xy x1 y1 (fun z => by rw [ev_neg, ev_neg, h.hp z]; grind) (fun z => by rw [ev_neg, ev_neg, h.hd hm1 z]; grind) (fun w a b => ?_) (by rw [ev_neg]; grind) (by rw [ev_neg]; grind) ?_
        · have := lipk 1 hm1 w a b
          rw [ev_neg]; grind
        · obtain ⟨z, hz⟩ := h.hg
          exact ⟨z, by rw [ev_neg]; grind⟩
    · rw [sgR_pos (show 0 < ev (S 1) y by grind)] at hneg'
      have hy0 : ev (S 0) y < 0 := sgR_m1.1 (by have := sgR_sgn (ev (S 0) y); unfold Sgn at this; omega)
      rw [sgR_pos (show 0 < ev (S 1) x by grind)]
      by_cases c : ev (S 0) x < 0
      · rw [sgR_neg c]; decide
      · exfalso
        refine cross' (Z := Z) xy x1 y1 h.hp (h.hd hm1) (fun w a b => ?_) (by grind) hy0 h.hg
        have := lipk 1 hm1 w a b
        grind
end
/-- Sturm: the changes do not rise. -/
theorem Sturm.mono {m : Nat} {g p : List Rat} {S Q : Nat → List Rat} {al : Nat → Rat} (h : Sturm m g p S Q al) {x y : Rat} (hxy : x ≤ y) : chg S m y ≤ chg S m x := by
  by_cases c : x = y
  · rw [c]; omega
  have hlt : x < y := by grind
  have hZ : 0 ≤ rabs x + rabs y := by have := rabs_le x; have := rabs_le y; grind
  have K1 := h.K1 hZ
  have Kp := kp_ge K1 m
  have L0 := h.L0 hZ
  have x1 : -(rabs x + rabs y) ≤ x := by have := rabs_le x; have := rabs_le y; grind
  have y1 : y ≤ rabs x + rabs y := by have := rabs_le x; have := rabs_le y; grind
  generalize rabs x + rabs y = Z at *
  obtain ⟨n, hn, hN⟩ := arch ((y - x) * LL Z S m * KK Z Q al m * kp (KK Z Q al m) m)
  have hs := step_nn hlt hn
  have hstep : ((y - x) / ((n : Int) : Rat)) * LL Z S m * KK Z Q al m * kp (KK Z Q al m) m < 1 := by
    have hN0 : (0 : Rat) < ((n : Int) : Rat) := Rat.intCast_lt_intCast.2 (show (0 : Int) < (n : Int) by omega)
    generalize ((n : Int) : Rat) = N at *
    have e : (y - x) / N * LL Z S m * KK Z Q al m * kp (KK Z Q al m) m * N = (y - x) * LL Z S m * KK Z Q al m * kp (KK Z Q al m) m := by grind
    by_cases c : (y - x) / N * LL Z S m * KK Z Q al m * kp (KK Z Q al m) m < 1
    · exact c
    · have := Rat.mul_nonneg (show 0 ≤ (y - x) / N * LL Z S m * KK Z Q al m * kp (KK Z Q al m) m - 1 by grind) (show 0 ≤ N by grind)
      grind
  have key : ∀ j, j ≤ n → chg S m (gp x ((y - x) / ((n : Int) : Rat)) j) ≤ chg S m x := by
    intro j
    induction j with
    | zero => intro _; exact Int.le_refl _
    | succ j ih =>
      intro hj
      have a := gp_ge (x := x) (Rat.le_of_lt hs) j
      have b := gp_le (x := x) (Rat.le_of_lt hs) hj
      rw [gp_end hn] at b
      have e : gp x ((y - x) / ((n : Int) : Rat)) (j + 1) - gp x ((y - x) / ((n : Int) : Rat)) j = (y - x) / ((n : Int) : Rat) := by rw [gp]; grind
      have pc := (h.piece hZ (x := gp x ((y - x) / ((n : Int) : Rat)) j) (y := gp x ((y - x) / ((n : Int) : Rat)) (j + 1)) (by grind) (by grind) (by grind) (by rw [e]; exact hstep)).count
      have := ih (by omega)
      unfold chg at *
      omega
  have := key n (Nat.le_refl _)
  rw [gp_end hn] at this
  exact this
end Go.Ab
