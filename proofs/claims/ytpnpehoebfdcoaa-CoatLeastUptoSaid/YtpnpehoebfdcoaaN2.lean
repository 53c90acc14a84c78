/- The reflectance at a wavelength, of the program and of the reference; CoatReflects answers true. -/
import Derived.Test.YtpnpehoebfdcoaaN1
import Derived.Test.YtpnpehoebfdcoaaQLCoatReflects
import Derived.Test.YtpnpehoebfdcoaaR1
namespace Go.Ab
open Go
set_option maxRecDepth 1000000
set_option maxHeartbeats 1000000
set_option linter.unusedVariables false
set_option linter.unusedSimpArgs false

def segN (a b m n : Int) : Int := a * m + b * n
def segV (p q : Int × Int × Int) (x : Int) : Int × Int := (segN p.2.1 q.2.1 (q.1 - x) (x - p.1) / (q.1 - p.1), -(-(segN p.2.2 q.2.2 (q.1 - x) (x - p.1)) / (q.1 - p.1)))
theorem segN_bd {a b m n : Int} (ha : 0 ≤ a) (ha' : a ≤ 1000) (hb : 0 ≤ b) (hb' : b ≤ 1000) (hm : 0 ≤ m) (hn : 0 ≤ n) : 0 ≤ segN a b m n ∧ segN a b m n ≤ 1000 * (m + n) := by
  unfold segN
  have h1 := Int.mul_nonneg ha hm
  have h2 := Int.mul_nonneg hb hn
  have h3 := Int.mul_nonneg (show (0 : Int) ≤ 1000 - a by omega) hm
  have h4 := Int.mul_nonneg (show (0 : Int) ≤ 1000 - b by omega) hn
  rw [Int.sub_mul] at h3 h4
  omega
structure Seg (l : Cur) (x : Int) (i : Nat) : Prop where
  lt : i + 1 < l.length
  lo : (gi l (i : Int)).1 ≤ x
  hi : x ≤ (gi l ((i : Int) + 1)).1
  bef : ∀ k : Nat, 0 < k → k ≤ i → (gi l (k : Int)).1 < x
theorem seg_ex {l : Cur} (h : Cv l) {x : Int} (h0 : (gi l 0).1 ≤ x) : ∀ n : Nat, n < l.length → x ≤ (gi l (n : Int)).1 → ∃ i, Seg l x i
  | 0, _, hx => ⟨0, by have := h.len; omega, h0, by have := h.up 0 (by have := h.len; omega); simp only [Nat.zero_add] at this; simp only [Int.natCast_zero, Int.zero_add] at hx this ⊢; exact Int.le_of_lt (Int.lt_of_le_of_lt hx this), fun k h1 h2 => by omega⟩
  | n + 1, hn, hx => by
    by_cases e : x ≤ (gi l (n : Int)).1
    · exact seg_ex h h0 n (by omega) e
    · refine ⟨n, hn, by omega, by rw [show ((n : Int) + 1) = ((n + 1 : Nat) : Int) by omega]; exact hx, fun k h1 h2 => ?_⟩
      by_cases ek : k = n
      · subst ek; omega
      · have := h.mono n k (by omega) (by omega)
        omega

def atE (l : Cur) (x : Int) : Int := if curveE l ≠ 0 then curveE l else if (gi l 0).1 ≤ x ∧ x ≤ (gi l ((l.length : Int) - 1)).1 then 0 else 2
theorem atE_0 {l : Cur} {x : Int} (h : atE l x = 0) : Cv l ∧ curveE l = 0 ∧ (gi l 0).1 ≤ x ∧ x ≤ (gi l ((l.length : Int) - 1)).1 ∧ ∃ i, Seg l x i := by
  unfold atE at h
  split at h
  · rename_i h1; exact absurd h h1
  · rename_i h1
    have h1 : curveE l = 0 := Classical.not_not.1 h1
    have hc := cv_of h1
    split at h
    · rename_i h2
      have hl := hc.len
      have e : ((l.length : Int) - 1) = ((l.length - 1 : Nat) : Int) := by omega
      refine ⟨hc, h1, h2.1, h2.2, seg_ex hc h2.1 (l.length - 1) (by omega) (by rw [← e]; exact h2.2)⟩
    · cases h

theorem Seg.facts {l : Cur} (h : Cv l) {x : Int} {i : Nat} (s : Seg l x i) : ∃ p q : Int × Int × Int, gi l (i : Int) = p ∧ gi l ((i : Int) + 1) = q ∧ p.1 ≤ x ∧ x ≤ q.1 ∧ p.1 < q.1 ∧ 1 ≤ p.1 ∧ q.1 ≤ 100000 ∧ 0 ≤ p.2.1 ∧ p.2.1 ≤ p.2.2 ∧ p.2.2 ≤ 1000 ∧ 0 ≤ q.2.1 ∧ q.2.1 ≤ q.2.2 ∧ q.2.2 ≤ 1000 := by
  obtain ⟨h1, h2, h3, h4⟩ := s
  have a := h.row i (by omega)
  have b := h.row (i + 1) h1
  have c := h.up i h1
  rw [show ((i + 1 : Nat) : Int) = (i : Int) + 1 by omega] at b c
  exact ⟨_, _, rfl, rfl, by omega, by omega, by omega, by omega, by omega, by omega, by omega, by omega, by omega, by omega, by omega⟩

theorem segV_bd {p q : Int × Int × Int} {x : Int} (h1 : p.1 ≤ x) (h2 : x ≤ q.1) (h3 : p.1 < q.1) (a1 : 0 ≤ p.2.1) (a2 : p.2.1 ≤ p.2.2) (a3 : p.2.2 ≤ 1000) (b1 : 0 ≤ q.2.1) (b2 : q.2.1 ≤ q.2.2) (b3 : q.2.2 ≤ 1000) :
    0 ≤ (segV p q x).1 ∧ (segV p q x).1 ≤ 1000 ∧ 0 ≤ (segV p q x).2 ∧ (segV p q x).2 ≤ 1000 := by
  have n1 := segN_bd (a := p.2.1) (b := q.2.1) (m := q.1 - x) (n := x - p.1) (by omega) (by omega) (by omega) (by omega) (by omega) (by omega)
  have n2 := segN_bd (a := p.2.2) (b := q.2.2) (m := q.1 - x) (n := x - p.1) (by omega) (by omega) (by omega) (by omega) (by omega) (by omega)
  simp only [segV]
  generalize segN p.2.1 q.2.1 (q.1 - x) (x - p.1) = n at *
  generalize segN p.2.2 q.2.2 (q.1 - x) (x - p.1) = m at *
  have hd : (0 : Int) < q.1 - p.1 := by omega
  have e : q.1 - x + (x - p.1) = q.1 - p.1 := by omega
  rw [e] at n1 n2
  generalize q.1 - p.1 = d at *
  refine ⟨Int.ediv_nonneg n1.1 (by omega), ?_, ?_, ?_⟩
  · have := Int.ediv_le_ediv hd n1.2
    rw [Int.mul_ediv_cancel _ (by omega)] at this; exact this
  · have := Int.ediv_le_ediv hd (show -m ≤ 0 * d by omega)
    rw [Int.mul_ediv_cancel _ (by omega)] at this; omega
  · have := Int.ediv_le_ediv hd (show (-1000) * d ≤ -m by omega)
    rw [Int.mul_ediv_cancel _ (by omega)] at this; omega

/-- The walk of the reference. -/
theorem k_rseg {l : Cur} (h : Cv l) {x : Int} {i : Nat} (s : Seg l x i) : (T_ref08xAt_l2 l x (i : Int)).run = some (.inr ((segV (gi l (i : Int)) (gi l ((i : Int) + 1)) x, 0, ()), ())) := by
  obtain ⟨p, q, hp, hq, f1, f2, f3, f4, f5, f6, f7, f8, f9, f10, f11⟩ := s.facts h
  have hl := s.lt
  have hl2 := h.len
  unfold T_ref08xAt_l2
  rw [w64' (x := (i : Int) + 1) (by omega) (by omega), hp, hq]
  refine (q_of (inB_t' (by omega) (by omega))).trans ?_
  refine (br_f (decide_eq_false (by omega))).trans ?_
  refine (q_of (inB_t' (by omega) (by omega))).trans ?_
  refine (q_of (inB_t' (by omega) (by omega))).trans ?_
  have n1 := segN_bd (a := p.2.1) (b := q.2.1) (m := q.1 - x) (n := x - p.1) (by omega) (by omega) (by omega) (by omega) (by omega) (by omega)
  have n2 := segN_bd (a := p.2.2) (b := q.2.2) (m := q.1 - x) (n := x - p.1) (by omega) (by omega) (by omega) (by omega) (by omega) (by omega)
  have m1 := mul_bd (a := p.2.1) (b := q.1 - x) (m := 1000) (n := 100000) (by omega) (by omega) (by omega) (by omega)
  have m2 := mul_bd (a := q.2.1) (b := x - p.1) (m := 1000) (n := 100000) (by omega) (by omega) (by omega) (by omega)
  have m3 := mul_bd (a := p.2.2) (b := q.1 - x) (m := 1000) (n := 100000) (by omega) (by omega) (by omega) (by omega)
  have m4 := mul_bd (a := q.2.2) (b := x - p.1) (m := 1000) (n := 100000) (by omega) (by omega) (by omega) (by omega)
  rw [w64' (x := q.1 - x) (by omega) (by omega), w64' (x := x - p.1) (by omega) (by omega), w64' (x := q.1 - p.1) (by omega) (by omega)]
  rw [w64' (x := p.2.1 * (q.1 - x)) (by omega) (by omega), w64' (x := q.2.1 * (x - p.1)) (by omega) (by omega), w64' (x := p.2.2 * (q.1 - x)) (by omega) (by omega), w64' (x := q.2.2 * (x - p.1)) (by omega) (by omega)]
  rw [w64' (x := p.2.1 * (q.1 - x) + q.2.1 * (x - p.1)) (by omega) (by omega), w64' (x := p.2.2 * (q.1 - x) + q.2.2 * (x - p.1)) (by omega) (by omega)]
  refine (r_bs (k_Floor (by omega) (by omega) (by omega) (by omega))).trans ?_
  refine (r_bs (k_Ceil (by omega) (by omega) (by omega) (by omega))).trans ?_
  exact r_ret _
theorem k_rskip {l : Cur} (h : Cv l) {x : Int} {i k : Nat} (s : Seg l x i) (hk : k < i) : (T_ref08xAt_l2 l x (k : Int)).run = some (.inl ((k : Int) + 1, ())) := by
  have hl := s.lt
  have hl2 := h.len
  have hb := s.bef (k + 1) (by omega) (by omega)
  rw [show ((k + 1 : Nat) : Int) = (k : Int) + 1 by omega] at hb
  unfold T_ref08xAt_l2
  rw [w64' (x := (k : Int) + 1) (by omega) (by omega)]
  refine (q_of (inB_t' (by omega) (by omega))).trans ?_
  refine (br_t (decide_eq_true hb)).trans ?_
  exact r_ret _
theorem k_rAt_0 {l : Cur} (h : Cv l) {x : Int} {i : Nat} (s : Seg l x i) : iterF (fun y : Int × Unit => (T_ref08xAt_l2 l x y.1).run) FUEL (0, ()) = some ((segV (gi l (i : Int)) (gi l ((i : Int) + 1)) x, 0, ()), ()) := by
  have hl := s.lt
  have hl2 := h.len
  refine iter_eq (fun k y => y = ((k : Int), ())) _ i (by omega) ?_ rfl
  rintro k y hk rfl
  by_cases e : k = i
  · subst e; exact .inr (k_rseg h s)
  · exact .inl ⟨_, k_rskip h s (by omega), by omega, rfl⟩

/-- The walk of the program. -/
theorem k_idx {l : Cur} (hl : l.length ≤ 60) {x : Int} {j : Nat} (hj : j < l.length) (h1 : ∀ k : Nat, k < j → (gi l (k : Int)).1 < x) (h2 : x ≤ (gi l (j : Int)).1) : slices_IndexFunc_api_Reflect_atc1 l x = some (((j : Int), ()), (x, ())) := by
  simp only [slices_IndexFunc_api_Reflect_atc1, T_slices_IndexFunc_api_Reflect_atc1, r_iter]
  refine iter_eq (fun k y => y = ((k : Int), x, ())) _ j (by omega) ?_ rfl
  rintro k y hk rfl
  have kc : coat_at_c1 ((gi l (k : Int)).1, (gi l (k : Int)).2.1, (gi l (k : Int)).2.2) x = some ((decide (x ≤ (gi l (k : Int)).1), ()), (x, ())) := by
    simp only [coat_at_c1, T_coat_at_c1, r_ret]
  dsimp only
  unfold T_slices_IndexFunc_api_Reflect_atc1xl0
  by_cases e : k = j
  · subst e
    right
    refine (br_t (decide_eq_true (by omega))).trans ?_
    refine (q_of (inB_t' (by omega) (by omega))).trans ?_
    refine (r_bs kc).trans ?_
    refine (br_t (decide_eq_true h2)).trans ?_
    exact r_ret _
  · left
    have := h1 k (by omega)
    refine ⟨((k : Int) + 1, x, ()), ?_, by omega, rfl⟩
    refine (br_t (decide_eq_true (by omega))).trans ?_
    refine (q_of (inB_t' (by omega) (by omega))).trans ?_
    refine (r_bs kc).trans ?_
    refine (br_f (decide_eq_false (by omega))).trans ?_
    rw [w64' (x := (k : Int) + 1) (by omega) (by omega)]
    exact r_ret _
theorem k_line {a b c1 c2 : Int} (h1 : -9223372036854775808 ≤ a * c1) (h2 : a * c1 ≤ 9223372036854775807) (h3 : -9223372036854775808 ≤ b - a) (h4 : b - a ≤ 9223372036854775807) (h5 : -9223372036854775808 ≤ (b - a) * c2) (h6 : (b - a) * c2 ≤ 9223372036854775807)
    (h7 : -9223372036854775808 ≤ a * c1 + (b - a) * c2) (h8 : a * c1 + (b - a) * c2 ≤ 9223372036854775807) : coat_at_c2 a b c1 c2 = some ((a * c1 + (b - a) * c2, ()), (c1, (c2, ()))) := by
  simp only [coat_at_c2, T_coat_at_c2, r_ret]
  rw [w64' h1 h2, w64' h3 h4, w64' h5 h6, w64' h7 h8]

theorem ceil_mul {a m : Int} (h : 0 < m) : -(-(a * m) / m) = a := by
  rw [← Int.neg_mul, Int.mul_ediv_cancel _ (by omega)]; omega
theorem k_at {l : Cur} (h : Cv l) {x : Int} {i : Nat} (s : Seg l x i) : coat_at l x = some ((segV (gi l (i : Int)) (gi l ((i : Int) + 1)) x, ()), ()) := by
  obtain ⟨p, q, hp, hq, f1, f2, f3, f4, f5, f6, f7, f8, f9, f10, f11⟩ := s.facts h
  have hl := s.lt
  have hl2 := h.len
  simp only [coat_at, T_coat_at]
  by_cases e0 : x = p.1 ∧ i = 0
  · -- the first point
    obtain ⟨e1, e2⟩ := e0
    subst e2
    refine (r_bs (k_idx (j := 0) hl2.2 (by omega) (fun k hk => by omega) (by rw [hp]; omega))).trans ?_
    show (Tr.req (inB ((0 : Nat) : Int) l.length) _).run = _
    refine (q_of (inB_t' (by omega) (by omega))).trans ?_
    refine (br_t (decide_eq_true (by show (gi l ((0 : Nat) : Int)).1 = x; rw [hp, e1]))).trans ?_
    refine (r_ret _).trans ?_
    rw [hp, hq]
    congr 3
    simp only [segV, segN]
    rw [e1, Int.sub_self, Int.mul_zero, Int.mul_zero, Int.add_zero, Int.add_zero, Int.mul_ediv_cancel _ (by omega), ceil_mul (by omega)]
  · have hj : ∀ k : Nat, k < i + 1 → (gi l (k : Int)).1 < x := fun k hk => by
      by_cases ek : k = 0
      · subst ek
        by_cases ei : i = 0
        · subst ei
          have : x ≠ p.1 := fun e => e0 ⟨e, rfl⟩
          rw [hp]; omega
        · have h5 := h.mono i 0 (by omega) (by omega)
          rw [hp] at h5
          omega
      · exact s.bef k (by omega) (by omega)
    refine (r_bs (k_idx (j := i + 1) hl2.2 hl hj (by rw [show ((i + 1 : Nat) : Int) = (i : Int) + 1 by omega, hq]; omega))).trans ?_
    show (Tr.req (inB ((i + 1 : Nat) : Int) l.length) _).run = _
    rw [show ((i + 1 : Nat) : Int) = (i : Int) + 1 by omega]
    refine (q_of (inB_t' (by omega) (by omega))).trans ?_
    show (Tr.br (decide ((gi l ((i : Int) + 1)).1 = x)) _ _).run = _
    rw [hq, hp]
    by_cases e : q.1 = x
    · refine (br_t (decide_eq_true e)).trans ?_
      refine (r_ret _).trans ?_
      congr 3
      simp only [segV, segN]
      rw [← e, Int.sub_self, Int.mul_zero, Int.mul_zero, Int.zero_add, Int.zero_add, Int.mul_ediv_cancel _ (by omega), ceil_mul (by omega)]
    · refine (br_f (decide_eq_false e)).trans ?_
      have e1 : IntKind.i64.wrap (((((i : Int) + 1, ()), (x, ())) : (Int × Unit) × (Int × Unit)).1.1 - 1) = (i : Int) := by
        show IntKind.i64.wrap ((i : Int) + 1 - 1) = _
        rw [w64' (by omega) (by omega)]; omega
      have e1' : IntKind.i64.wrap ((i : Int) + 1 - 1) = (i : Int) := e1
      dsimp only
      simp only [e1', hp]
      refine (q_of (inB_t' (by omega) (by omega))).trans ?_
      rw [w64' (x := q.1 - p.1) (by omega) (by omega), w64' (x := x - p.1) (by omega) (by omega)]
      have n1 := segN_bd (a := p.2.1) (b := q.2.1) (m := q.1 - x) (n := x - p.1) (by omega) (by omega) (by omega) (by omega) (by omega) (by omega)
      have n2 := segN_bd (a := p.2.2) (b := q.2.2) (m := q.1 - x) (n := x - p.1) (by omega) (by omega) (by omega) (by omega) (by omega) (by omega)
      have g1 : p.2.1 * (q.1 - p.1) + (q.2.1 - p.2.1) * (x - p.1) = segN p.2.1 q.2.1 (q.1 - x) (x - p.1) := by unfold segN; grind
      have g2 : p.2.2 * (q.1 - p.1) + (q.2.2 - p.2.2) * (x - p.1) = segN p.2.2 q.2.2 (q.1 - x) (x - p.1) := by unfold segN; grind
      have m1 := mul_bd (a := p.2.1) (b := q.1 - p.1) (m := 1000) (n := 100000) (by omega) (by omega) (by omega) (by omega)
      have m2 := mul_bd (a := q.2.1 - p.2.1) (b := x - p.1) (m := 1000) (n := 100000) (by omega) (by omega) (by omega) (by omega)
      have m3 := mul_bd (a := p.2.2) (b := q.1 - p.1) (m := 1000) (n := 100000) (by omega) (by omega) (by omega) (by omega)
      have m4 := mul_bd (a := q.2.2 - p.2.2) (b := x - p.1) (m := 1000) (n := 100000) (by omega) (by omega) (by omega) (by omega)
      refine (r_bs (k_line (by omega) (by omega) (by omega) (by omega) (by omega) (by omega) (by omega) (by omega))).trans ?_
      refine (q_of (eqK_self _ _ _)).trans ?_
      refine (r_bs (k_floor (n := p.2.1 * (q.1 - p.1) + (q.2.1 - p.2.1) * (x - p.1)) (b := q.1 - p.1) (by omega) (by omega) (by omega) (by omega))).trans ?_
      refine (r_bs (k_line (by omega) (by omega) (by omega) (by omega) (by omega) (by omega) (by omega) (by omega))).trans ?_
      refine (q_of (eqK_self _ _ _)).trans ?_
      refine (r_bs (k_ceil (n := p.2.2 * (q.1 - p.1) + (q.2.2 - p.2.2) * (x - p.1)) (b := q.1 - p.1) (by omega) (by omega) (by omega) (by omega))).trans ?_
      refine (r_ret _).trans ?_
      simp only [segV, g1, g2]

theorem k_chk {l : Cur} (h : Cv l) (x : Int) : coat_checkAt_c1 x l = some ((!decide ((gi l 0).1 ≤ x ∧ x ≤ (gi l ((l.length : Int) - 1)).1), ()), (l, ())) := by
  have hl := h.len
  simp only [coat_checkAt_c1, T_coat_checkAt_c1]
  rw [w64' (x := (l.length : Int) - 1) (by omega) (by omega)]
  refine (q_of (inB_t' (by omega) (by omega))).trans ?_
  refine (q_of (inB_t' (by omega) (by omega))).trans ?_
  refine (r_bs (k_within _ _ _)).trans ?_
  exact r_ret _
/-- Whether one of these wavelengths is outside. -/
def outP (l : Cur) (ws : List Int) (k : Nat) : Bool := !decide ((gi l 0).1 ≤ gi ws (k : Int) ∧ gi ws (k : Int) ≤ (gi l ((l.length : Int) - 1)).1)
theorem k_idx2 {l : Cur} (h : Cv l) {ws : List Int} (hw : ws.length ≤ 1000) : slices_IndexFunc_int_checkAtc1 ws l = some ((idxTo (outP l ws) ws.length, ()), (l, ())) := by
  simp only [slices_IndexFunc_int_checkAtc1, T_slices_IndexFunc_int_checkAtc1, r_iter]
  refine iter_eq (fun k y => y = ((k : Int), l, ()) ∧ ∀ j, j < k → outP l ws j = false) _ ws.length (by omega) ?_ ⟨rfl, fun j hj => by omega⟩
  rintro k y hk ⟨rfl, hp⟩
  dsimp only
  unfold T_slices_IndexFunc_int_checkAtc1xl0
  by_cases e : k < ws.length
  · by_cases ho : outP l ws k = true
    · right
      refine (br_t (decide_eq_true (by omega))).trans ?_
      refine (q_of (inB_t' (by omega) (by omega))).trans ?_
      refine (r_bs (k_chk h _)).trans ?_
      refine (br_t ho).trans ?_
      rw [idxTo_at hp ho e]
      exact r_ret _
    · left
      have ho : outP l ws k = false := by simpa using ho
      refine ⟨((k : Int) + 1, l, ()), ?_, e, rfl, fun j hj => ?_⟩
      · refine (br_t (decide_eq_true (by omega))).trans ?_
        refine (q_of (inB_t' (by omega) (by omega))).trans ?_
        refine (r_bs (k_chk h _)).trans ?_
        refine (br_f ho).trans ?_
        rw [w64' (x := (k : Int) + 1) (by omega) (by omega)]
        exact r_ret _
      · by_cases ej : j = k
        · subst ej; exact ho
        · exact hp j (by omega)
  · right
    refine (br_f (decide_eq_false (by omega))).trans ?_
    have : k = ws.length := by omega
    subst this
    rw [idxTo_none hp]
    exact r_ret _
theorem k_checkAt (l : Cur) {ws : List Int} (hw : ws.length ≤ 1000) : coat_checkAt l ws = some ((if curveE l ≠ 0 then curveE l else if 0 ≤ idxTo (outP l ws) ws.length then 2 else 0, ()), ()) := by
  simp only [coat_checkAt, T_coat_checkAt]
  refine (r_bs (k_CheckCurve l)).trans ?_
  by_cases h : curveE l = 0
  · refine (br_f (by simp [h])).trans ?_
    have hc := cv_of h
    have k2 : slices_ContainsFunc_int_checkAtc1 ws l = some ((decide (0 ≤ idxTo (outP l ws) ws.length), ()), (l, ())) := by
      simp only [slices_ContainsFunc_int_checkAtc1, T_slices_ContainsFunc_int_checkAtc1]
      refine (r_bs (k_idx2 hc hw)).trans ?_
      exact r_ret _
    refine (r_bs k2).trans ?_
    rw [if_neg (by simp [h])]
    by_cases h0 : 0 ≤ idxTo (outP l ws) ws.length
    · refine (br_t (decide_eq_true h0)).trans ?_
      rw [if_pos h0]; exact r_ret _
    · refine (br_f (decide_eq_false h0)).trans ?_
      rw [if_neg h0]; exact r_ret _
  · refine (br_t (by simp [h])).trans ?_
    rw [if_pos h]; exact r_ret _
theorem chk_one (l : Cur) (x : Int) : (if curveE l ≠ 0 then curveE l else if 0 ≤ idxTo (outP l [x]) ([x] : List Int).length then 2 else 0) = atE l x := by
  unfold atE
  split
  · rfl
  · have e : outP l [x] 0 = !decide ((gi l 0).1 ≤ x ∧ x ≤ (gi l ((l.length : Int) - 1)).1) := rfl
    show (if 0 ≤ (if (-1 : Int) ≠ -1 then (-1 : Int) else if outP l [x] 0 = true then ((0 : Nat) : Int) else -1) then (2 : Int) else 0) = _
    rw [e]
    by_cases h : (gi l 0).1 ≤ x ∧ x ≤ (gi l ((l.length : Int) - 1)).1
    · simp [h]
    · simp [h]

theorem k_At2 (l : Cur) (x : Int) : ∃ v : Int × Int, coat_At l x = some ((v, atE l x, ()), ()) ∧ ref08xAt l x = some ((v, atE l x, ()), ()) ∧ (atE l x ≠ 0 → v = (0, 0)) ∧ (∀ i, atE l x = 0 → Seg l x i → v = segV (gi l (i : Int)) (gi l ((i : Int) + 1)) x) := by
  by_cases h : atE l x = 0
  · obtain ⟨hc, h1, h2, h3, i, s⟩ := atE_0 h
    have hl := hc.len
    refine ⟨segV (gi l (i : Int)) (gi l ((i : Int) + 1)) x, ?_, ?_, fun h' => absurd h h', fun j _ sj => ?_⟩
    · simp only [coat_At, T_coat_At]
      refine (r_bs (k_checkAt l (ws := [x]) (by simp))).trans ?_
      rw [chk_one, h]
      refine (br_f rfl).trans ?_
      refine (r_bs (k_at hc s)).trans ?_
      exact r_ret _
    · simp only [ref08xAt, T_ref08xAt]
      refine (r_bs (k_rCheckCurve l)).trans ?_
      rw [h1]
      refine (br_f rfl).trans ?_
      rw [w64' (x := (l.length : Int) - 1) (by omega) (by omega)]
      refine (q_of (inB_t' (by omega) (by omega))).trans ?_
      refine (q_of (inB_t' (by omega) (by omega))).trans ?_
      refine (r_bs (k_Within _ _ _)).trans ?_
      refine (br_f (by simp [h2, h3])).trans ?_
      rw [r_iter, h]
      exact k_rAt_0 hc s
    · have e : i = j := by
        have a := s.lo; have b := s.hi; have c := sj.lo; have d := sj.hi
        rcases Nat.lt_trichotomy i j with q | q | q
        · have := sj.bef (i + 1) (by omega) (by omega)
          rw [show ((i + 1 : Nat) : Int) = (i : Int) + 1 by omega] at this
          omega
        · exact q
        · have := s.bef (j + 1) (by omega) (by omega)
          rw [show ((j + 1 : Nat) : Int) = (j : Int) + 1 by omega] at this
          omega
      rw [e]
  · refine ⟨(0, 0), ?_, ?_, fun _ => rfl, fun _ h' => absurd h' h⟩
    · simp only [coat_At, T_coat_At]
      refine (r_bs (k_checkAt l (ws := [x]) (by simp))).trans ?_
      rw [chk_one]
      refine (br_t (by simp [h])).trans ?_
      exact r_ret _
    · simp only [ref08xAt, T_ref08xAt]
      refine (r_bs (k_rCheckCurve l)).trans ?_
      by_cases h1 : curveE l = 0
      · rw [h1]
        have hc := cv_of h1
        have hl := hc.len
        have h2 : ¬ ((gi l 0).1 ≤ x ∧ x ≤ (gi l ((l.length : Int) - 1)).1) := fun h2 => h (by unfold atE; rw [if_neg (by simp [h1]), if_pos h2])
        refine (br_f rfl).trans ?_
        rw [w64' (x := (l.length : Int) - 1) (by omega) (by omega)]
        refine (q_of (inB_t' (by omega) (by omega))).trans ?_
        refine (q_of (inB_t' (by omega) (by omega))).trans ?_
        refine (r_bs (k_Within _ _ _)).trans ?_
        refine (br_t (by simp only [h2, decide_false]; rfl)).trans ?_
        have : atE l x = 2 := by unfold atE; rw [if_neg (by simp [h1]), if_neg h2]
        rw [this]; exact r_ret _
      · refine (br_t (by simp [h1])).trans ?_
        have : atE l x = curveE l := by unfold atE; rw [if_pos h1]
        rw [this]; exact r_ret _

theorem k_few (l : Cur) : ∃ b : Bool, law08xfew l = some ((b, ()), ()) ∧ (b = true → l.length ≤ 63) := by
  simp only [law08xfew, T_law08xfew]
  by_cases h1 : l.length ≤ 8
  · exact ⟨true, (br_t (decide_eq_true (by omega))).trans (r_ret _), fun _ => by omega⟩
  · by_cases h2 : 60 < l.length
    · refine ⟨decide ((l.length : Int) ≤ 63), (br_f (decide_eq_false (by omega))).trans ((br_t (decide_eq_true (by omega))).trans (r_ret _)), fun h => ?_⟩
      have := of_decide_eq_true h
      omega
    · exact ⟨false, (br_f (decide_eq_false (by omega))).trans ((br_f (decide_eq_false (by omega))).trans (r_ret _)), fun h => by cases h⟩
theorem k_table {l : Cur} (h : l.length ≤ 63) : law08xtable l = some ((l, ()), ()) := by
  simp only [law08xtable, T_law08xtable]
  exact (q_of (app_t' (by omega) (by omega))).trans (r_ret _)

theorem k_CoatReflects {l : List ((Int × (Int × Int)))} {x : Int} (b0 : bulkT (.list (.pair (.int .i64) (.pair (.int .i64) (.int .i64)))) l ≤ 1048576) (w0 : wfT (.list (.pair (.int .i64) (.pair (.int .i64) (.int .i64)))) l) (b1 : bulkT (.int .i64) x ≤ 1048576) (w1 : wfT (.int .i64) x) : law08xCoatReflects l x = some ((true, ()), ()) := by
  simp only [law08xCoatReflects, T_law08xCoatReflects]
  rw [r_bind, awake_ok, Option.bind_some]
  refine (br_f rfl).trans ?_
  obtain ⟨b, hf, hb⟩ := k_few l
  refine (r_bs hf).trans ?_
  cases b with
  | false => exact (br_t rfl).trans (r_ret _)
  | true =>
    have hl := hb rfl
    obtain ⟨v, h1, h2, _⟩ := k_At2 l x
    refine (br_f rfl).trans ?_
    refine (r_bs (k_table hl)).trans ?_
    refine (r_bs h1).trans ?_
    refine (r_bs h2).trans ?_
    refine (r_bs (k_table hl)).trans ?_
    refine (r_bs (k_CheckCurve l)).trans ?_
    refine (r_bs (k_rCheckCurve l)).trans ?_
    refine (br_t (decide_eq_true rfl)).trans ?_
    refine (br_t (decide_eq_true rfl)).trans ?_
    refine (r_ret _).trans ?_
    simp
end Go.Ab
