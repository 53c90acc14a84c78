/- The program's sequence of remainders is a chain of Sturm. -/
import Derived.Test.YtgncmamcgplcgaaSA
import Derived.Test.YtgncmamcgplcgaaV3
namespace Go.Ab
set_option linter.unusedVariables false
set_option linter.unusedSimpArgs false
set_option linter.unusedSectionVars false
set_option maxRecDepth 100000
/-! ### Sums -/
def es (f : Nat → Rat) (z : Rat) : Nat → Rat
  | 0 => 0
  | k + 1 => es f z k + f k * kp z k
theorem kp_succ (z : Rat) (k : Nat) : kp z (k + 1) = kp z k * z := rfl
theorem kp_0 (z : Rat) : kp z 0 = 1 := rfl
theorem es_ext {f g : Nat → Rat} {z : Rat} : ∀ {k : Nat}, (∀ i, i < k → f i = g i) → es f z k = es g z k
  | 0, _ => rfl
  | k + 1, h => by rw [es, es, es_ext (fun i hi => h i (by omega)), h k (by omega)]
theorem es_shift (f : Nat → Rat) (z : Rat) : ∀ k, es f z (k + 1) = f 0 + z * es (fun i => f (i + 1)) z k
  | 0 => by simp only [es, kp]; grind
  | k + 1 => by
    rw [es, es_shift f z k, es, kp_succ]; grind
theorem es_add (f g : Nat → Rat) (z : Rat) : ∀ k, es (fun i => f i + g i) z k = es f z k + es g z k
  | 0 => by simp only [es]; grind
  | k + 1 => by simp only [es, es_add f g z k]; grind
theorem es_scale (c : Rat) (f : Nat → Rat) (z : Rat) : ∀ k, es (fun i => c * f i) z k = c * es f z k
  | 0 => by simp only [es]; grind
  | k + 1 => by simp only [es, es_scale c f z k]; grind
theorem es_der (h : Nat → Rat) (z : Rat) : ∀ n, es (fun i => ((i : Int) + 1 : Rat) * h i) z (n + 1) = es h z (n + 1) + z * es (fun i => ((i : Int) + 1 : Rat) * h (i + 1)) z n
  | 0 => by
    simp only [es, kp]
    have : (((0 : Nat) : Int) : Rat) = 0 := rfl
    rw [this]; grind
  | n + 1 => by
    rw [es, es_der h z n, es, es, es]
    have : (((n + 1 : Nat) : Int) : Rat) = ((n : Int) : Rat) + 1 := by
      rw [show ((n + 1 : Nat) : Int) = (n : Int) + 1 by omega, Rat.intCast_add]; rfl
    rw [this]
    simp only [kp, es]
    grind
theorem es_tail {f : Nat → Rat} {z : Rat} {m n : Nat} (h : m ≤ n) (h0 : ∀ i, m ≤ i → i < n → f i = 0) : es f z n = es f z m := by
  induction h with
  | refl => rfl
  | @step n hn ih =>
    rw [es, ih (fun i a b => h0 i a (by omega)), h0 n hn (by omega)]; grind
theorem es_move (b : Nat → Rat) (z : Rat) (d : Nat) : ∀ m, es (fun i => if d ≤ i then b (i - d) else 0) z (d + m) = kp z d * es b z m
  | 0 => by
    rw [es_tail (m := 0) (by omega) (fun i _ hi => if_neg (by omega))]
    simp only [es]; grind
  | m + 1 => by
    rw [show d + (m + 1) = d + m + 1 by omega, es, es_move b z d m, if_pos (by omega), show d + m - d = m by omega, es]
    have : ∀ j, kp z (d + j) = kp z d * kp z j := by
      intro j
      induction j with
      | zero => rw [Nat.add_zero, kp_0]; grind
      | succ j ih => rw [← Nat.add_assoc, kp_succ, ih, kp_succ]; grind
    rw [this]; grind
def toR (P : List Int) : List Rat := P.map (fun (c : Int) => ((c : Int) : Rat))
def gR (l : List Rat) (i : Nat) : Rat := (l[i]?).getD 0
theorem ev_es (l : List Rat) (z : Rat) : ev l z = es (gR l) z l.length := by
  induction l with
  | nil => rfl
  | cons c l ih =>
    rw [List.length_cons, es_shift, ev, ih]
    rfl
theorem gR_toR (P : List Int) (i : Nat) : gR (toR P) i = ((gN P i : Int) : Rat) := by
  rw [gN_eq]
  simp only [gR, toR, List.getElem?_map]
  cases P[i]? <;> rfl
theorem toR_len (P : List Int) : (toR P).length = P.length := by simp [toR]
def eI (P : List Int) (z : Rat) : Rat := ev (toR P) z
theorem eI_es (P : List Int) (z : Rat) : eI P z = es (fun i => ((gN P i : Int) : Rat)) z P.length := by
  unfold eI
  rw [ev_es, toR_len]
  exact es_ext fun i _ => gR_toR P i
theorem eI_mk (f : Nat → Int) (n : Nat) (z : Rat) : eI (mkL f n) z = es (fun i => ((f i : Int) : Rat)) z n := by
  rw [eI_es, mkL_len]
  exact es_ext fun i hi => by rw [mkL_get, if_pos hi]
theorem pd_es (l : List Rat) (z : Rat) : ev (pd l) z = es (fun i => ((i : Int) + 1 : Rat) * gR l (i + 1)) z (l.length - 1) := by
  induction l with
  | nil => rfl
  | cons c l ih =>
    rw [pd_cons, ih, ev_es, List.length_cons, Nat.add_sub_cancel]
    cases hl : l.length with
    | zero =>
      have : l = [] := List.length_eq_zero_iff.1 hl
      subst this
      simp only [es, ev, pd, List.length_nil, Nat.zero_sub]; try grind
    | succ n =>
      rw [Nat.add_sub_cancel]
      exact (es_der (gR l) z n).symm
theorem eI_d (P : List Int) (z : Rat) : eI (dZ P) z = ev (pd (toR P)) z := by
  unfold dZ
  rw [eI_mk, pd_es, toR_len]
  refine es_ext fun i _ => ?_
  rw [gR_toR, Rat.intCast_mul, Rat.intCast_add, Rat.mul_comm]; rfl
/-! ### Values with whole numbers -/
theorem sgR_scale {c v : Rat} (h : 0 < c) : sgR (c * v) = sgR v := by
  by_cases h0 : v = 0
  · subst h0; rw [Rat.mul_zero]
  · by_cases h1 : 0 < v
    · rw [sgR_pos h1, sgR_pos (Rat.mul_pos h h1)]
    · have := Rat.mul_pos h (show 0 < -v by grind)
      rw [sgR_neg (show v < 0 by grind), sgR_neg (by grind)]
theorem sgR_int (v : Int) : sgR (v : Rat) = sgn v := by
  unfold sgn
  have e0 : ((0 : Int) : Rat) = 0 := rfl
  split
  · rename_i h
    subst h; exact sgR_zero
  · split
    · rename_i h
      have := Rat.intCast_lt_intCast.2 h
      exact sgR_pos (by grind)
    · have := Rat.intCast_lt_intCast.2 (show v < 0 by omega)
      exact sgR_neg (by grind)
/-- Values at a fraction. -/
theorem hs_es (f : Nat → Int) (n : Nat) {a b : Int} (hb : (b : Rat) ≠ 0) : ∀ k, k ≤ n → ((hs f n a b k : Int) : Rat) * b = kp b n * es (fun i => ((f i : Int) : Rat)) ((a : Rat) / b) k
  | 0, _ => by
    simp only [hs, es]
    have : ((0 : Int) : Rat) = 0 := rfl
    rw [this]; grind
  | k + 1, hk => by
    have ih := hs_es f n (a := a) hb k (by omega)
    rw [hs, es, Rat.intCast_add, Rat.intCast_mul, Rat.intCast_mul]
    have hp : ∀ (c : Int) (j : Nat), ((c ^ j : Int) : Rat) = kp c j := by
      intro c j
      induction j with
      | zero => rw [Int.pow_zero]; rfl
      | succ j ih => rw [Int.pow_succ, Rat.intCast_mul, ih, kp_succ]
    have hq : ∀ j, kp ((a : Rat) / b) j * kp b j = kp a j := by
      intro j
      induction j with
      | zero => simp only [kp]; grind
      | succ j ih => simp only [kp_succ]; grind
    have hr : kp (b : Rat) n = kp b k * (kp b (n - 1 - k) * b) := by
      have : ∀ i j, kp (b : Rat) (i + j) = kp b i * kp b j := by
        intro i j
        induction j with
        | zero => rw [Nat.add_zero, kp_0]; grind
        | succ j ih => rw [← Nat.add_assoc, kp_succ, ih, kp_succ]; grind
      rw [← kp_succ, ← this]; congr 1; omega
    rw [hp, hp]
    have h1 := hq k
    generalize kp ((a : Rat) / b) k = u at *
    generalize kp (b : Rat) (n - 1 - k) = w at *
    generalize kp (b : Rat) k = v at *
    generalize es (fun i => ((f i : Int) : Rat)) ((a : Rat) / b) k = E at *
    generalize ((hs f n a b k : Int) : Rat) = H at *
    generalize kp (a : Rat) k = A at *
    generalize kp (b : Rat) n = B at *
    generalize ((f k : Int) : Rat) = F at *
    subst h1
    subst hr
    grind
theorem kp_pos {b : Rat} (h : 0 < b) : ∀ j, 0 < kp b j
  | 0 => by simp only [kp]; decide
  | j + 1 => by rw [kp_succ]; exact Rat.mul_pos (kp_pos h j) h
theorem cast_pos {b : Int} (h : 0 < b) : (0 : Rat) < b := by
  have := Rat.intCast_lt_intCast.2 h
  have e0 : ((0 : Int) : Rat) = 0 := rfl
  grind
theorem sgn_hz (P : List Int) {a b : Int} (hb : 0 < b) : sgn (hz P a b) = sgR (eI P ((a : Rat) / b)) := by
  have hb' := cast_pos hb
  have h := hs_es (gN P) P.length (a := a) (b := b) (by grind) P.length (Nat.le_refl _)
  rw [← hz_eq, ← eI_es] at h
  have h2 := sgR_scale (v := ((hz P a b : Int) : Rat)) hb'
  rw [Rat.mul_comm, h, sgR_scale (kp_pos hb' P.length)] at h2
  rw [← sgR_int, h2]
/-! ### The sign just behind a point -/
def Bh (f : Rat → Rat) (x : Rat) (s : Int) : Prop := ∃ e, 0 < e ∧ ∀ t, 0 < t → t ≤ e → sgR (f (x + t)) = s
theorem Bh.uniq {f : Rat → Rat} {x : Rat} {s s' : Int} (h : Bh f x s) (h' : Bh f x s') : s = s' := by
  obtain ⟨e, he, h⟩ := h
  obtain ⟨e', he', h'⟩ := h'
  by_cases c : e ≤ e'
  · rw [← h e he Rat.le_refl, ← h' e he c]
  · rw [← h e' he' (by grind), ← h' e' he' Rat.le_refl]
theorem lead_small' (l : List Rat) : ∃ e, 0 < e ∧ ∀ t, 0 < t → t ≤ e → sgR (ev l t) = sgR (lead l) := by
  by_cases h : lead l = 0
  · exact ⟨1, by decide, fun t _ _ => by rw [lead0 h t, h]⟩
  · obtain ⟨e, he, hh⟩ := lead_small h
    refine ⟨e, he, fun t h1 h2 => ?_⟩
    have := hh t h1 h2
    by_cases c : 0 < lead l
    · rw [sgR_pos c]
      refine sgR_pos ?_
      by_cases c2 : 0 < ev l t
      · exact c2
      · have := Rat.mul_nonneg (show 0 ≤ -ev l t by grind) (show 0 ≤ lead l by grind); grind
    · rw [sgR_neg (show lead l < 0 by grind)]
      refine sgR_neg ?_
      by_cases c2 : ev l t < 0
      · exact c2
      · have := Rat.mul_nonneg (show 0 ≤ ev l t by grind) (show 0 ≤ -lead l by grind); grind
theorem bh_lead (l : List Rat) (x : Rat) : Bh (ev l) x (sgR (lead (pcomp x 1 l))) := by
  obtain ⟨e, he, hh⟩ := lead_small' (pcomp x 1 l)
  refine ⟨e, he, fun t h1 h2 => ?_⟩
  have := hh t h1 h2
  rw [ev_pcomp, show x + 1 * t = x + t by grind] at this
  exact this
/-- n times a polynomial and its slope times the place. -/
theorem der_small {n : Rat} (hn : 0 < n) {l : List Rat} (h : lead l ≠ 0) : ∃ e, 0 < e ∧ ∀ t, 0 < t → t ≤ e → 0 < (n * ev l t + t * ev (pd l) t) * lead l := by
  induction l generalizing n with
  | nil => exact absurd rfl h
  | cons a l ih =>
    rw [lead] at h ⊢
    by_cases ha : a = 0
    · rw [if_pos ha] at h ⊢
      obtain ⟨e, he, hh⟩ := ih (n := n + 1) (by grind) h
      refine ⟨e, he, fun t h1 h2 => ?_⟩
      have := Rat.mul_pos h1 (hh t h1 h2)
      rw [pd_cons, ev, ha]; grind
    · rw [if_neg ha]
      -- n a + t w
      have hl : lead (n * a :: pad (psc n l) (pd (a :: l))) = n * a := by
        rw [lead, if_neg]
        intro h0
        rcases Rat.mul_eq_zero.1 h0 with q | q <;> grind
      have hne : lead (n * a :: pad (psc n l) (pd (a :: l))) ≠ 0 := by
        rw [hl]; intro h0
        rcases Rat.mul_eq_zero.1 h0 with q | q <;> grind
      obtain ⟨e, he, hh⟩ := lead_small hne
      refine ⟨e, he, fun t h1 h2 => ?_⟩
      have := hh t h1 h2
      rw [hl, ev, ev_pad, ev_psc] at this
      have e1 : (n * a + t * (n * ev l t + ev (pd (a :: l)) t)) * (n * a) = n * ((n * ev (a :: l) t + t * ev (pd (a :: l)) t) * a) := by rw [ev]; grind
      rw [e1] at this
      by_cases c : 0 < (n * ev (a :: l) t + t * ev (pd (a :: l)) t) * a
      · exact c
      · have := Rat.mul_nonneg (show 0 ≤ n by grind) (show 0 ≤ -((n * ev (a :: l) t + t * ev (pd (a :: l)) t) * a) by grind); grind
/-- Products and sums of slopes. -/
theorem pd_pad (l m : List Rat) (z : Rat) : ev (pd (pad l m)) z = ev (pd l) z + ev (pd m) z := by
  induction l generalizing m with
  | nil => simp only [pad, pd, ev]; grind
  | cons a l ih => cases m with
    | nil => simp only [pad]; have : ev (pd []) z = 0 := rfl; rw [this]; grind
    | cons b m => simp only [pad, pd_cons, ev_pad, ih]; grind
theorem pd_psc (k : Rat) (l : List Rat) (z : Rat) : ev (pd (psc k l)) z = k * ev (pd l) z := by
  induction l with
  | nil => simp only [psc, pd, ev]; grind
  | cons a l ih => simp only [psc, pd_cons, ev_psc, ih]; grind
theorem pd_pmul (l m : List Rat) (z : Rat) : ev (pd (pmul l m)) z = ev (pd l) z * ev m z + ev l z * ev (pd m) z := by
  induction l with
  | nil => simp only [pmul, pd, ev]; grind
  | cons a l ih => simp only [pmul, pd_pad, pd_psc, pd_cons, ev_pmul, ih, ev]; grind
theorem pd_pcomp (a b : Rat) (l : List Rat) (y : Rat) : ev (pd (pcomp a b l)) y = b * ev (pd l) (a + b * y) := by
  induction l with
  | nil => simp only [pcomp, pd, ev]; grind
  | cons c l ih =>
    have e1 : ev (pd [c]) y = 0 := by rw [pd_cons]; simp only [ev, pd]; grind
    simp only [pcomp, pd_pad, pd_psc, pd_cons, ev_psc, ih, e1, ev_pcomp]; grind
theorem bhF_bh {a b : Int} (hb : 0 < b) : ∀ (k : Nat) (P : List Int), P.length ≤ k → Bh (eI P) ((a : Rat) / b) (bhF a b k P)
  | 0, P, h => by
    have : P = [] := List.length_eq_zero_iff.1 (by omega)
    subst this
    exact ⟨1, by decide, fun t _ _ => sgR_zero⟩
  | k + 1, P, h => by
    rw [bhF]
    by_cases h0 : P.length = 0
    · rw [if_pos h0]
      have : P = [] := List.length_eq_zero_iff.1 (by omega)
      subst this
      exact ⟨1, by decide, fun t _ _ => sgR_zero⟩
    · rw [if_neg h0]
      have hl := bh_lead (toR P) ((a : Rat) / b)
      change Bh (eI P) _ _ at hl
      have hs := sgn_hz P (a := a) hb
      have hv : ev (pcomp ((a : Rat) / b) 1 (toR P)) 0 = eI P ((a : Rat) / b) := by
        rw [ev_pcomp, show (a : Rat) / b + 1 * 0 = (a : Rat) / b by grind]; rfl
      rw [hs]
      cases hc : pcomp ((a : Rat) / b) 1 (toR P) with
      | nil =>
        exfalso
        cases P with
        | nil => exact h0 rfl
        | cons c P =>
          simp only [toR, List.map_cons, pcomp] at hc
          cases hq : pad (psc ((a : Rat) / b) (pcomp ((a : Rat) / b) 1 (toR P))) (0 :: psc 1 (pcomp ((a : Rat) / b) 1 (toR P))) with
          | nil => simp only [toR] at hq; rw [hq] at hc; simp [pad] at hc
          | cons u v => simp only [toR] at hq; rw [hq] at hc; simp [pad] at hc
      | cons c l =>
        rw [hc] at hv hl
        have hv' : c = eI P ((a : Rat) / b) := by rw [← hv, ev]; grind
        by_cases hz : c = 0
        · rw [← hv', hz, if_pos sgR_zero]
          have ih := bhF_bh (a := a) hb k (dZ P) (by rw [dZ_len]; omega)
          have e1 : lead (c :: l) = lead l := by rw [lead, if_pos hz]
          rw [e1] at hl
          -- the slope has the same first coefficient's sign
          have key : Bh (eI (dZ P)) ((a : Rat) / b) (sgR (lead l)) := by
            have e2 : ∀ t, eI (dZ P) ((a : Rat) / b + t) = ev l t + t * ev (pd l) t := by
              intro t
              rw [eI_d, ← pd_cons c l t, ← hc, pd_pcomp, show (a : Rat) / b + 1 * t = (a : Rat) / b + t by grind]; grind
            by_cases q : lead l = 0
            · refine ⟨1, by decide, fun t h1 h2 => ?_⟩
              have hl0 := lead0 q
              have : ev (pd (psc 0 l)) t = 0 := by rw [pd_psc]; grind
              -- the slope of 0
              have hd : ev (pd l) t = 0 := by
                have : ∀ l : List Rat, lead l = 0 → ev (pd l) t = 0 := by
                  intro l
                  induction l with
                  | nil => intro _; rfl
                  | cons u l ih =>
                    intro hh
                    rw [lead] at hh
                    split at hh
                    · rw [pd_cons, lead0 hh, ih hh]; grind
                    · contradiction
                exact this l q
              rw [e2, hl0, hd, q]; congr 1; grind
            · obtain ⟨e, he, hh⟩ := der_small (n := 1) (by decide) q
              refine ⟨e, he, fun t h1 h2 => ?_⟩
              have := hh t h1 h2
              rw [e2]
              have e3 : 1 * ev l t + t * ev (pd l) t = ev l t + t * ev (pd l) t := by grind
              rw [e3] at this
              generalize ev l t + t * ev (pd l) t = v at *
              by_cases c : 0 < lead l
              · rw [sgR_pos c]
                refine sgR_pos ?_
                by_cases c2 : 0 < v
                · exact c2
                · have := Rat.mul_nonneg (show 0 ≤ -v by grind) (show 0 ≤ lead l by grind); grind
              · rw [sgR_neg (show lead l < 0 by grind)]
                refine sgR_neg ?_
                by_cases c2 : v < 0
                · exact c2
                · have := Rat.mul_nonneg (show 0 ≤ v by grind) (show 0 ≤ -lead l by grind); grind
          rw [ih.uniq key]
          exact hl
        · rw [if_neg (fun h => hz (by rw [hv']; exact sgR_0.1 h)), ← hv']
          rw [lead, if_neg hz] at hl
          exact hl
end Go.Ab
