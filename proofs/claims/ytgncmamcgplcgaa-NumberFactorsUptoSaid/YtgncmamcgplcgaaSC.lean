/- The program's sequence of remainders is a chain of Sturm: its changes do not rise. -/
import Derived.Test.YtgncmamcgplcgaaSB
namespace Go.Ab
set_option linter.unusedVariables false
set_option linter.unusedSimpArgs false
set_option linter.unusedSectionVars false
set_option maxRecDepth 100000
theorem tz_zero (f : Nat → Int) : ∀ n i, tz f n ≤ i → i < n → f i = 0
  | 0, i, h1, h2 => by omega
  | n + 1, i, h1, h2 => by
    rw [tz] at h1
    split at h1
    · rename_i h
      by_cases e : i = n
      · rw [e]; exact h
      · exact tz_zero f n i h1 (by omega)
    · omega
theorem cast0 : ((0 : Int) : Rat) = 0 := rfl
theorem cast1 : ((1 : Int) : Rat) = 1 := rfl
def monoL (c : Rat) (d : Nat) : List Rat := List.replicate d 0 ++ [c]
theorem ev_mono (c : Rat) (z : Rat) : ∀ d, ev (monoL c d) z = c * kp z d
  | 0 => by simp only [monoL, List.replicate, List.nil_append, ev, kp]; grind
  | d + 1 => by
    have := ev_mono c z d
    simp only [monoL, List.replicate, List.cons_append, ev, kp_succ] at *
    rw [this]; grind
theorem stepZ_ev {a b : List Int} (h : b.length ≤ a.length) (hb : 0 < b.length) (z : Rat) :
    ((sgn (gN b (b.length - 1)) * gN b (b.length - 1) : Int) : Rat) * eI a z = ev (monoL ((sgn (gN b (b.length - 1)) * gN a (a.length - 1) : Int) : Rat) (a.length - b.length)) z * eI b z + eI (stepZ a b) z := by
  unfold stepZ
  rw [eI_mk, ← es_tail (m := tz (stF a b) (a.length - 1)) (n := a.length) (by have := tz_le (stF a b) (a.length - 1); omega) (fun i h1 h2 => ?_), ev_mono]
  · have e : ∀ i, ((stF a b i : Int) : Rat) = ((sgn (gN b (b.length - 1)) * gN b (b.length - 1) : Int) : Rat) * ((gN a i : Int) : Rat) + (if a.length - b.length ≤ i then -(((sgn (gN b (b.length - 1)) * gN a (a.length - 1) : Int) : Rat) * ((gN b (i - (a.length - b.length)) : Int) : Rat)) else 0) := by
      intro i
      unfold stF
      rw [Rat.intCast_add, Rat.intCast_mul]
      split
      · rw [Rat.intCast_neg, Rat.intCast_mul (sgn (gN b (b.length - 1)) * gN a (a.length - 1))]
      · rw [cast0]
    rw [es_ext (g := fun i => ((sgn (gN b (b.length - 1)) * gN b (b.length - 1) : Int) : Rat) * ((gN a i : Int) : Rat) + (if a.length - b.length ≤ i then (fun j => -(((sgn (gN b (b.length - 1)) * gN a (a.length - 1) : Int) : Rat) * ((gN b j : Int) : Rat))) (i - (a.length - b.length)) else 0)) (fun i _ => e i)]
    rw [es_add, es_scale, ← eI_es]
    have e2 := es_move (fun j => -(((sgn (gN b (b.length - 1)) * gN a (a.length - 1) : Int) : Rat) * ((gN b j : Int) : Rat))) z (a.length - b.length) b.length
    rw [show a.length - b.length + b.length = a.length by omega] at e2
    rw [e2]
    have e3 : es (fun j => -(((sgn (gN b (b.length - 1)) * gN a (a.length - 1) : Int) : Rat) * ((gN b j : Int) : Rat))) z b.length = -((sgn (gN b (b.length - 1)) * gN a (a.length - 1) : Int) : Rat) * eI b z := by
      rw [eI_es, ← es_scale]
      exact es_ext fun i _ => by grind
    rw [e3]
    grind
  · by_cases e : i = a.length - 1
    · rw [e, stF_top h hb]; rfl
    · rw [tz_zero _ _ _ h1 (by omega)]; rfl
theorem sgn_abs {v : Int} (h : v ≠ 0) : 0 < sgn v * v := by
  unfold sgn
  rw [if_neg h]
  split <;> omega
theorem remF_ev : ∀ (k : Nat) (a b : List Int), 0 < b.length → Top b → ∃ al : Rat, 0 < al ∧ ∃ Q : List Rat, ∀ z, al * eI a z = ev Q z * eI b z + eI (remF k a b) z
  | 0, a, b, hb, ht => ⟨1, by decide, [], fun z => by rw [remF, ev]; grind⟩
  | k + 1, a, b, hb, ht => by
    rw [remF]
    by_cases h : b.length ≤ a.length
    · rw [if_pos h]
      obtain ⟨al, ha, Q, hh⟩ := remF_ev k (stepZ a b) b hb ht
      have hs := cast_pos (sgn_abs (ht hb))
      refine ⟨al * ((sgn (gN b (b.length - 1)) * gN b (b.length - 1) : Int) : Rat), Rat.mul_pos ha hs, pad (psc al (monoL ((sgn (gN b (b.length - 1)) * gN a (a.length - 1) : Int) : Rat) (a.length - b.length))) Q, fun z => ?_⟩
      have h1 := stepZ_ev h hb z
      have h2 := hh z
      rw [ev_pad, ev_psc]
      grind
    · rw [if_neg h]
      exact ⟨1, by decide, [], fun z => by rw [ev]; grind⟩
theorem ngZ_ev (P : List Int) (z : Rat) : eI (ngZ P) z = -eI P z := by
  unfold ngZ
  rw [eI_mk, eI_es, show -es (fun i => ((gN P i : Int) : Rat)) z P.length = -1 * es (fun i => ((gN P i : Int) : Rat)) z P.length by grind, ← es_scale]
  exact es_ext fun i _ => by rw [Rat.intCast_neg]; grind
/-- The program's number of changes just behind a fraction. -/
def vv (p : List Int) (e : Nat) (a b : Int) : Int := (cgS (fun j => bhF a b 8 (seqZ p j).1) (e + 1)).1
structure Chn (p : List Int) (e : Nat) : Prop where
  top : Top p
  ne : 0 < p.length
  le7 : p.length ≤ 7
  fin : (seqZ p e).2.length = 0
  on : ∀ j, j < e → (seqZ p j).2.length ≠ 0
def tS (e : Nat) (al : Nat → Rat) (Q : Nat → List Rat) : Nat → List Rat
  | 0 => [1]
  | 1 => psc (1 / al (e - 1)) (Q (e - 1))
  | i + 2 => psc (1 / al (e - (i + 2))) (pad (pmul (Q (e - (i + 2))) (tS e al Q (i + 1))) (psc (-1) (tS e al Q i)))
theorem seqZ_fst (p : List Int) (i : Nat) : (seqZ p (i + 1)).1 = (seqZ p i).2 := by rw [seqZ]
theorem top_ne {P : List Int} (h : Top P) (h0 : 0 < P.length) : Nz (toR P) := by
  -- the sum of the coefficients' powers is not always 0
  have key : ∀ l : List Rat, (0 < l.length → gR l (l.length - 1) ≠ 0) → 0 < l.length → lead l ≠ 0 := by
    intro l
    induction l with
    | nil => intro _ h; simp at h
    | cons c l ih =>
      intro h1 _
      rw [lead]
      split
      · rename_i hc
        by_cases q : 0 < l.length
        · refine ih (fun _ => ?_) q
          have := h1 (by simp)
          rw [List.length_cons] at this
          obtain ⟨k, hk⟩ : ∃ k, l.length = k + 1 := ⟨l.length - 1, by omega⟩
          rw [hk] at this ⊢
          exact this
        · exfalso
          have : l = [] := List.length_eq_zero_iff.1 (by omega)
          subst this
          exact h1 (by simp) hc
      · assumption
  have := key (toR P) (fun _ => by
    rw [gR_toR, toR_len]
    have := h h0
    intro hh
    have : gN P (P.length - 1) = 0 := by
      have h3 : ((gN P (P.length - 1) : Int) : Rat) = ((0 : Int) : Rat) := hh
      exact Rat.intCast_inj.1 h3
    contradiction) (by rw [toR_len]; exact h0)
  obtain ⟨e, he, hh⟩ := lead_small this
  have := hh e he Rat.le_refl
  exact ⟨e, fun h0 => by rw [h0] at this; grind⟩
theorem cg_scale {s t : Nat → Int} {c : Int} (hc : c = 1 ∨ c = -1) : ∀ n, (∀ i, i < n → s i = c * t i) → (cgS s n).1 = (cgS t n).1 ∧ (cgS s n).2 = c * (cgS t n).2
  | 0, _ => ⟨rfl, by simp [cgS]⟩
  | n + 1, h => by
    obtain ⟨h1, h2⟩ := cg_scale hc n (fun i hi => h i (by omega))
    rw [cgS, cgS, h1, h2, h n (by omega)]
    have e : c * t n * (c * (cgS t n).2) = t n * (cgS t n).2 := by
      rcases hc with rfl | rfl <;> grind
    rw [e]
    refine ⟨rfl, ?_⟩
    dsimp only
    by_cases q : t n = 0
    · rw [if_pos q, if_pos (by rw [q]; simp)]
    · rw [if_neg q, if_neg (by rcases hc with rfl | rfl <;> omega)]
theorem sgR_mul (u v : Rat) : sgR (u * v) = sgR u * sgR v := by
  by_cases h0 : u = 0
  · subst h0; rw [Rat.zero_mul, sgR_zero]; simp
  · by_cases h1 : 0 < u
    · rw [sgR_scale h1, sgR_pos h1]; omega
    · have := sgR_scale (c := -u) (v := -v) (by grind)
      rw [show -u * -v = u * v by grind] at this
      rw [this, sgR_neg (show u < 0 by grind)]
      by_cases q : v = 0
      · subst q; rfl
      · by_cases q1 : 0 < v
        · rw [sgR_pos q1, sgR_neg (show -v < 0 by grind)]; rfl
        · rw [sgR_neg (show v < 0 by grind), sgR_pos (show 0 < -v by grind)]; rfl
/-- A common step for finitely many. -/
theorem small_all {Pr : Nat → Rat → Prop} : ∀ n, (∀ j, j < n → ∃ e, 0 < e ∧ ∀ t, 0 < t → t ≤ e → Pr j t) → ∃ e, 0 < e ∧ ∀ t, 0 < t → t ≤ e → ∀ j, j < n → Pr j t
  | 0, _ => ⟨1, by decide, fun _ _ _ j h => by omega⟩
  | n + 1, h => by
    obtain ⟨e, he, h1⟩ := small_all n (fun j hj => h j (by omega))
    obtain ⟨e', he', h2⟩ := h n (by omega)
    have go : ∀ d, 0 < d → d ≤ e → d ≤ e' → ∃ e, 0 < e ∧ ∀ t, 0 < t → t ≤ e → ∀ j, j < n + 1 → Pr j t := fun d h0 ha hb => ⟨d, h0, fun t t1 t2 j hj => by
      by_cases q : j = n
      · rw [q]; exact h2 t t1 (by grind)
      · exact h1 t t1 (by grind) j (by omega)⟩
    by_cases c : e ≤ e'
    · exact go e he Rat.le_refl c
    · exact go e' he' (by grind) Rat.le_refl
theorem small_two {A B : Rat → Prop} (h1 : ∃ e, 0 < e ∧ ∀ t, 0 < t → t ≤ e → A t) (h2 : ∃ e, 0 < e ∧ ∀ t, 0 < t → t ≤ e → B t) : ∃ e, 0 < e ∧ ∀ t, 0 < t → t ≤ e → A t ∧ B t := by
  obtain ⟨e, he, h1⟩ := h1
  obtain ⟨e', he', h2⟩ := h2
  by_cases c : e ≤ e'
  · exact ⟨e, he, fun t t1 t2 => ⟨h1 t t1 t2, h2 t t1 (by grind)⟩⟩
  · exact ⟨e', he', fun t t1 t2 => ⟨h1 t t1 (by grind), h2 t t1 t2⟩⟩
theorem link {p : List Int} {e : Nat} (h : Chn p e) : ∃ g S Q al, Sturm e g (toR p) S Q al ∧ ∀ a b : Int, 0 < b → ∃ d, 0 < d ∧ ∀ t, 0 < t → t ≤ d → chg S e ((a : Rat) / b + t) = vv p e a b := by
  have hrem : ∀ j, ∃ al : Rat, ∃ Q : List Rat, 0 < al ∧ (j < e → ∀ z, al * eI (seqZ p j).1 z = ev Q z * eI (seqZ p (j + 1)).1 z - eI (seqZ p (j + 1)).2 z) := by
    intro j
    by_cases hj : j < e
    · obtain ⟨t1, t2, _⟩ := seqZ_ok h.top h.le7 j
      obtain ⟨al, ha, Q, hh⟩ := remF_ev 8 (seqZ p j).1 (seqZ p j).2 (by have := h.on j hj; omega) t2
      refine ⟨al, Q, ha, fun _ z => ?_⟩
      rw [hh z, seqZ]
      dsimp only
      rw [ngZ_ev]
      unfold remZ
      grind
    · exact ⟨1, [], by decide, fun h => absurd h hj⟩
  obtain ⟨al, hal⟩ := Classical.axiomOfChoice hrem
  obtain ⟨Q, hQ⟩ := Classical.axiomOfChoice hal
  have hlen : 0 < (seqZ p e).1.length := by
    cases e with
    | zero => exact h.ne
    | succ k => rw [seqZ_fst]; have := h.on k (by omega); omega
  have htop := (seqZ_ok h.top h.le7 e).1
  have hg : Nz (toR (seqZ p e).1) := top_ne htop hlen
  have hfin : ∀ z, eI (seqZ p e).2 z = 0 := by
    intro z
    have : (seqZ p e).2 = [] := List.length_eq_zero_iff.1 h.fin
    rw [this]; rfl
  -- the members are those of the reduced chain, times the last one
  have key : ∀ n i, i ≤ n → i ≤ e → ∀ z, eI (seqZ p (e - i)).1 z = eI (seqZ p e).1 z * ev (tS e al Q i) z := by
    intro n
    induction n with
    | zero =>
      intro i hi _ z
      have : i = 0 := by omega
      subst this
      simp only [tS, ev, Nat.sub_zero]; grind
    | succ n ih =>
      intro i hi he z
      match i, hi, he with
      | 0, _, _ => exact ih 0 (by omega) (by omega) z
      | 1, _, he =>
        obtain ⟨a0, hq⟩ := hQ (e - 1)
        have := hq (by omega) z
        rw [show e - 1 + 1 = e by omega, hfin] at this
        rw [tS, ev_psc]
        grind
      | i + 2, hi, he =>
        obtain ⟨a0, hq⟩ := hQ (e - (i + 2))
        have hq := hq (by omega) z
        have i1 := ih (i + 1) (by omega) (by omega) z
        have i0 := ih i (by omega) (by omega) z
        rw [show e - (i + 1) = e - (i + 2) + 1 by omega] at i1
        rw [show e - i = e - (i + 2) + 1 + 1 by omega, seqZ_fst] at i0
        rw [i1, i0] at hq
        rw [tS, ev_psc, ev_pad, ev_pmul, ev_psc]
        generalize eI (seqZ p e).1 z = G at *
        generalize al (e - (i + 2)) = A at *
        generalize eI (seqZ p (e - (i + 2))).1 z = X at *
        have e1 : X = 1 / A * (A * X) := by grind
        rw [e1, hq]
        grind
  have key2 : ∀ k, k ≤ e → ∀ z, eI (seqZ p k).1 z = eI (seqZ p e).1 z * ev (tS e al Q (e - k)) z := by
    intro k hk z
    have := key (e - k) (e - k) (Nat.le_refl _) (by omega) z
    rw [show e - (e - k) = k by omega] at this
    exact this
  refine ⟨toR (seqZ p e).1, fun k => tS e al Q (e - k), Q, al, ⟨fun z => ?_, fun h1 z => ?_, fun z => ?_, fun k => (hQ k).1, fun k hk z => ?_, hg⟩, ?_⟩
  · exact key2 0 (by omega) z
  · rw [← eI_d]
    have := key2 1 h1 z
    rw [seqZ_fst] at this
    exact this
  · rw [Nat.sub_self]; simp only [tS, ev]; grind
  · show al k * ev (tS e al Q (e - k)) z = ev (Q k) z * ev (tS e al Q (e - (k + 1))) z - ev (tS e al Q (e - (k + 2))) z
    have h1 : e - k = (e - (k + 2)) + 2 := by omega
    have h2 : e - (k + 1) = (e - (k + 2)) + 1 := by omega
    have h0 : e - (e - (k + 2) + 2) = k := by omega
    rw [h1, h2, tS, h0, ev_psc, ev_pad, ev_pmul, ev_psc]
    have hA := (hQ k).1
    generalize ev (tS e al Q (e - (k + 2) + 1)) z = U
    generalize ev (tS e al Q (e - (k + 2))) z = V
    generalize ev (Q k) z = W
    generalize al k = A at hA
    have e1 : A * (1 / A * (W * U + -1 * V)) = (A * (1 / A)) * (W * U + -1 * V) := by grind
    have e2 : A * (1 / A) = 1 := by clear key key2 hQ hal hrem; grind
    rw [e1, e2]; clear key key2 hQ hal hrem; grind
  · intro a b hb
    have hgr := hg.right ((a : Rat) / b)
    have hall := small_all (Pr := fun j t => sgR (eI (seqZ p j).1 ((a : Rat) / b + t)) = bhF a b 8 (seqZ p j).1) (e + 1) (fun j hj => by
      have := (seqZ_ok h.top h.le7 j).2.2.1
      exact bhF_bh hb 8 _ (by omega))
    obtain ⟨d, hd, hh⟩ := small_two hgr hall
    refine ⟨d, hd, fun t t1 t2 => ?_⟩
    obtain ⟨g1, g2⟩ := hh t t1 t2
    unfold chg vv
    have hs0 : sgR (ev (toR (seqZ p e).1) ((a : Rat) / b + t)) = 1 ∨ sgR (ev (toR (seqZ p e).1) ((a : Rat) / b + t)) = -1 := by
      rcases sgR_sgn (ev (toR (seqZ p e).1) ((a : Rat) / b + t)) with q | q | q
      · rw [sgR_0.1 q] at g1; grind
      · exact .inl q
      · exact .inr q
    refine (cg_scale hs0 (e + 1) (fun i hi => ?_)).1.symm
    rw [← g2 i hi, key2 i (by omega), sgR_mul]
    rfl
end Go.Ab
