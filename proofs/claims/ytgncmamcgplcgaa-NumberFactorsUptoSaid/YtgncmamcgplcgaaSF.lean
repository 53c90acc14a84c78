/- The program's changes as a function of a fraction: they do not rise, fall at roots, and those of the derivative fall between. -/
import Derived.Test.YtgncmamcgplcgaaSE
namespace Go.Ab
set_option linter.unusedVariables false
set_option linter.unusedSimpArgs false
set_option linter.unusedSectionVars false
set_option maxRecDepth 100000
theorem cg_le (s : Nat → Int) : ∀ n : Nat, (cgS s (n + 1)).1 ≤ n
  | 0 => by simp [cgS]
  | n + 1 => by
    have := cg_le s n
    rw [cg_step]
    split <;> omega
theorem Piece.exact {s t : Nat → Int} {m : Nat} (h : Piece s t m) (hm : 1 ≤ m) (h1 : s 1 = t 1) (h1' : s 1 ≠ 0) : (cgS s (m + 1)).1 - (if s 1 * s 0 < 0 then 1 else 0) = (cgS t (m + 1)).1 - (if t 1 * t 0 < 0 then 1 else 0) := by
  have key : ∀ n k, k < n → 1 ≤ k → k ≤ m → s k = t k → s k ≠ 0 → (cgS s (k + 1)).1 - (if s 1 * s 0 < 0 then 1 else 0) = (cgS t (k + 1)).1 - (if t 1 * t 0 < 0 then 1 else 0) := by
    intro n
    induction n with
    | zero => intro k h1; omega
    | succ n ih =>
      intro k hk hk1 hm e0 e1
      match k with
      | 0 => omega
      | 1 =>
        have zs : (cgS s 1).1 = 0 := by simp [cgS]
        have zt : (cgS t 1).1 = 0 := by simp [cgS]
        have ps : (cgS s 1).2 = s 0 := by simp [cgS]; omega
        have pt : (cgS t 1).2 = t 0 := by simp [cgS]; omega
        rw [cg_step (k := 1), cg_step (s := t) (k := 1), zs, zt, ps, pt]
        split <;> split <;> omega
      | k + 2 =>
        by_cases st : s (k + 1) = t (k + 1) ∧ s (k + 1) ≠ 0
        · have i : (cgS s (k + 2)).1 - _ = (cgS t (k + 2)).1 - _ := ih (k + 1) (by omega) (by omega) (by omega) st.1 st.2
          rw [cg_step (s := t) (k := k + 2), cg_step (s := s) (k := k + 2), cg_stable st.2, cg_stable (s := t) (k := k + 1) (by rw [← st.1]; exact st.2), ← e0, ← st.1]
          generalize (if s 1 * s 0 < 0 then (1 : Int) else 0) = u at *
          generalize (if t 1 * t 0 < 0 then (1 : Int) else 0) = w at *
          split <;> omega
        · by_cases hk0 : k = 0
          · subst hk0
            exact absurd ⟨h1, h1'⟩ st
          have md := h.mid k hm st
          have st0 : s k = t k ∧ s k ≠ 0 := by
            rcases h.adj k (by omega) with q | q
            · exact q
            · exact absurd q st
          have i := ih k (by omega) (by omega) (by omega) st0.1 st0.2
          have c1 := (cg_between h.hs st0.2 md).1
          have c2 := (cg_between h.ht (k := k) (by rw [← st0.1]; exact st0.2) (by rw [← e0, ← st0.1]; exact md)).1
          show (cgS s (k + 3)).1 - _ = (cgS t (k + 3)).1 - _
          rw [c1, c2]
          omega
  exact key (m + 1) m (by omega) hm (Nat.le_refl _) h.last.1 h.last.2
/-- Where the changes fall from one point to the next. -/
theorem Sturm.fall {m : Nat} {g p : List Rat} {S Q : Nat → List Rat} {al : Nat → Rat} (h : Sturm m g p S Q al) (hm : 1 ≤ m) {x y : Rat} (pc : Piece (fun k => sgR (ev (S k) x)) (fun k => sgR (ev (S k) y)) m)
    (hx : ev p x ≠ 0) (hy : ev p y ≠ 0) (hc : chg S m x ≠ chg S m y) : ev p x * ev (pd p) x < 0 ∧ 0 < ev p y * ev (pd p) y := by
  have n0 : ¬ (sgR (ev (S 0) x) = sgR (ev (S 0) y) ∧ sgR (ev (S 0) x) ≠ 0) := fun q => hc (pc.flat q.1 q.2).symm
  have n1 : sgR (ev (S 1) x) = sgR (ev (S 1) y) ∧ sgR (ev (S 1) x) ≠ 0 := by
    rcases pc.adj 0 (by omega) with q | q
    · exact absurd q n0
    · exact q
  have ex : chg S m x - (if sgR (ev (S 1) x) * sgR (ev (S 0) x) < 0 then 1 else 0) = chg S m y - (if sgR (ev (S 1) y) * sgR (ev (S 0) y) < 0 then 1 else 0) := pc.exact hm n1.1 n1.2
  have f := pc.fst hm n0
  change sgR (ev (S 1) y) * sgR (ev (S 0) y) < 0 → sgR (ev (S 1) x) * sgR (ev (S 0) x) < 0 at f
  have a : sgR (ev (S 1) x) * sgR (ev (S 0) x) < 0 ∧ ¬ sgR (ev (S 1) y) * sgR (ev (S 0) y) < 0 := by
    by_cases c1 : sgR (ev (S 1) x) * sgR (ev (S 0) x) < 0
    · refine ⟨c1, fun c2 => ?_⟩
      rw [if_pos c1, if_pos c2] at ex
      exact hc (by omega)
    · have c2 : ¬ sgR (ev (S 1) y) * sgR (ev (S 0) y) < 0 := fun c2 => c1 (f c2)
      rw [if_neg c1, if_neg c2] at ex
      exact absurd (by omega) hc
  obtain ⟨a1, a2⟩ := a
  rw [← sgR_mul] at a1 a2
  have b1 : ev (S 1) x * ev (S 0) x < 0 := by
    have := sgR_sgn (ev (S 1) x * ev (S 0) x)
    exact sgR_m1.1 (by unfold Sgn at this; omega)
  have gx : 0 < ev g x * ev g x := by
    have := sqn (ev g x)
    have : ev g x * ev g x ≠ 0 := by
      intro hh; rcases Rat.mul_eq_zero.1 hh with hh | hh <;> exact hx (by rw [h.hp, hh]; grind)
    grind
  have gy : 0 < ev g y * ev g y := by
    have := sqn (ev g y)
    have : ev g y * ev g y ≠ 0 := by
      intro hh; rcases Rat.mul_eq_zero.1 hh with hh | hh <;> exact hy (by rw [h.hp, hh]; grind)
    grind
  have s0y : ev (S 0) y ≠ 0 := by intro hh; exact hy (by rw [h.hp, hh]; grind)
  have s1y : ev (S 1) y ≠ 0 := by intro hh; rw [n1.1, hh] at n1; exact n1.2 sgR_zero
  have b2 : 0 < ev (S 1) y * ev (S 0) y := by
    have k := sgR_sgn (ev (S 1) y * ev (S 0) y)
    rcases k with k | k | k
    · rcases Rat.mul_eq_zero.1 (sgR_0.1 k) with q | q
      · exact absurd q s1y
      · exact absurd q s0y
    · exact sgR_1.1 k
    · omega
  rw [h.pp hm, h.pp hm]
  have w1 := Rat.mul_pos gx (show 0 < -(ev (S 1) x * ev (S 0) x) by grind)
  have w2 := Rat.mul_pos gy b2
  constructor <;> grind
/-- Between two falls of the changes there is one of the slope's. -/
theorem rolle {m m' : Nat} {g g' p d : List Rat} {S Q S' Q' : Nat → List Rat} {al al' : Nat → Rat} (h : Sturm m g p S Q al) (h' : Sturm m' g' d S' Q' al') (hm : 1 ≤ m) (hm' : 1 ≤ m') (hp : Nz p) (hdn : Nz d) (hd : ∀ z, ev d z = ev (pd p) z)
    {X : Nat → Rat} {n : Nat} (hX : ∀ i j, i < j → j ≤ n → X i < X j) (hpc : ∀ j, j < n → Piece (fun k => sgR (ev (S k) (X j))) (fun k => sgR (ev (S k) (X (j + 1)))) m) (hne : ∀ j, j ≤ n → ev p (X j) ≠ 0) :
    chg S m (X 0) - chg S m (X n) - 1 ≤ chg S' m' (X 0) - chg S' m' (X n) := by
  have key : ∀ j, j ≤ n → chg S m (X 0) = chg S m (X j) ∨ ∃ l, l ≤ j ∧ chg S m (X l) = chg S m (X j) ∧ 0 < ev p (X l) * ev (pd p) (X l) ∧ chg S m (X 0) - chg S m (X j) - 1 ≤ chg S' m' (X 0) - chg S' m' (X l) := by
    intro j
    induction j with
    | zero => intro _; exact .inl rfl
    | succ j ih =>
      intro hj
      have pc := hpc j (by omega)
      have ct := pc.count
      change chg S m (X (j + 1)) ≤ chg S m (X j) ∧ chg S m (X j) ≤ chg S m (X (j + 1)) + 1 at ct
      by_cases e : chg S m (X j) = chg S m (X (j + 1))
      · rcases ih (by omega) with i | ⟨l, i1, i2, i3, i4⟩
        · left; omega
        · right; exact ⟨l, by omega, by omega, i3, by omega⟩
      · right
        obtain ⟨f1, f2⟩ := h.fall hm pc (hne j (by omega)) (hne (j + 1) hj) e
        refine ⟨j + 1, Nat.le_refl _, rfl, f2, ?_⟩
        have mj := h'.mono (Rat.le_of_lt (hX j (j + 1) (by omega) hj))
        rcases ih (by omega) with i | ⟨l, i1, i2, i3, i4⟩
        · by_cases j0 : j = 0
          · subst j0; omega
          · have := h'.mono (Rat.le_of_lt (hX 0 j (by omega) (by omega)))
            omega
        · have hl : l < j := by
            by_cases c : l = j
            · rw [c] at i3; grind
            · omega
          have hlt := hX l j hl (by omega)
          have a1 := hne l (by omega)
          have a2 := hne j (by omega)
          have sp : 0 < ev p (X l) * ev p (X j) := by
            by_cases c : ev p (X l) * ev p (X j) < 0
            · have := h.signs hm hp hlt c
              omega
            · by_cases c0 : ev p (X l) * ev p (X j) = 0
              · rcases Rat.mul_eq_zero.1 c0 with q | q
                · exact absurd q a1
                · exact absurd q a2
              · grind
          have sd : ev d (X l) * ev d (X j) < 0 := by
            rw [hd, hd]
            generalize ev p (X l) = u at *
            generalize ev p (X j) = v at *
            generalize ev (pd p) (X l) = u' at *
            generalize ev (pd p) (X j) = v' at *
            have w := Rat.mul_pos i3 (show 0 < -(v * v') by grind)
            by_cases c : u' * v' < 0
            · exact c
            · have := Rat.mul_nonneg (show 0 ≤ u * v by grind) (show 0 ≤ u' * v' by grind)
              grind
          have := h'.signs hm' hdn hlt sd
          omega
  rcases key n (Nat.le_refl _) with i | ⟨l, i1, i2, i3, i4⟩
  · by_cases n0 : n = 0
    · subst n0; omega
    · have := h'.mono (Rat.le_of_lt (hX 0 n (by omega) (Nat.le_refl _)))
      omega
  · by_cases c : l = n
    · rw [c] at i4; exact i4
    · have := h'.mono (Rat.le_of_lt (hX l n (by omega) (Nat.le_refl _)))
      omega
/-! ### The program's changes -/
def vq (p : List Int) (e : Nat) (x : Rat) : Int := vv p e x.num x.den
theorem rat_eq (x : Rat) : ((x.num : Int) : Rat) / (((x.den : Int) : Int) : Rat) = x := by
  rw [← Rat.divInt_eq_div, Rat.num_divInt_den]
theorem den_pos (x : Rat) : (0 : Int) < (x.den : Int) := by have := x.den_pos; omega
section
variable {p : List Int} {e : Nat} (h : Chn p e)
include h
theorem Chn.near : ∃ g S Q al, Sturm e g (toR p) S Q al ∧ ∀ x, ∃ d, 0 < d ∧ ∀ t, 0 < t → t ≤ d → chg S e (x + t) = vq p e x := by
  obtain ⟨g, S, Q, al, hS, hn⟩ := link h
  refine ⟨g, S, Q, al, hS, fun x => ?_⟩
  have := hn x.num x.den (den_pos x)
  rw [rat_eq] at this
  exact this
theorem Chn.vv_eq {a b : Int} (hb : 0 < b) : vv p e a b = vq p e ((a : Rat) / b) := by
  obtain ⟨g, S, Q, al, hS, hn⟩ := link h
  have h1 := hn a b hb
  have h2 := hn ((a : Rat) / b).num ((a : Rat) / b).den (den_pos _)
  rw [rat_eq] at h2
  obtain ⟨d, hd, hh⟩ := small_two h1 h2
  obtain ⟨q1, q2⟩ := hh d hd Rat.le_refl
  rw [← q1, q2]; rfl
theorem Chn.mono {x y : Rat} (hxy : x ≤ y) : vq p e y ≤ vq p e x := by
  obtain ⟨g, S, Q, al, hS, hn⟩ := h.near
  obtain ⟨d, hd, hh⟩ := small_two (hn x) (hn y)
  obtain ⟨q1, q2⟩ := hh d hd Rat.le_refl
  rw [← q1, ← q2]
  exact hS.mono (by grind)
theorem Chn.nz : Nz (toR p) := top_ne h.top h.ne
theorem Chn.len_ge : ∀ j, j ≤ e → (seqZ p j).1.length + j ≤ p.length
  | 0, _ => by simp [seqZ]
  | j + 1, hj => by
    have := Chn.len_ge j (by omega)
    have := (seqZ_ok h.top h.le7 j).2.2.2.2
    have := h.on j (by omega)
    rw [seqZ_fst]
    omega
theorem Chn.e_le : e + 1 ≤ p.length := by
  have := h.len_ge e (Nat.le_refl _)
  have : 0 < (seqZ p e).1.length := by
    cases e with
    | zero => exact h.ne
    | succ k => rw [seqZ_fst]; have := h.on k (by omega); omega
  omega
theorem Chn.le (x : Rat) : 0 ≤ vq p e x ∧ vq p e x ≤ e := by
  unfold vq vv
  exact ⟨(cgS_bd (fun j => bhF_vals _ _ 8 _) (e + 1)).1.1, cg_le _ e⟩
theorem Chn.root_pos {r : Rat} (hr : eI p r = 0) : 1 ≤ e := by
  by_cases c : 1 ≤ e
  · exact c
  exfalso
  have : e = 0 := by omega
  subst this
  have hf := h.fin
  have : (seqZ p 0).2 = dZ p := rfl
  rw [this, dZ_len] at hf
  have hl := h.ne
  obtain ⟨c, hc⟩ : ∃ c, p = [c] := List.length_eq_one_iff.1 (by omega)
  subst hc
  have ht := h.top (by simp)
  have e1 : eI [c] r = (c : Rat) := by simp only [eI, toR, List.map, ev]; grind
  rw [e1] at hr
  exact ht (Rat.intCast_inj.1 hr)
/-- Behind a root there are fewer changes. -/
theorem Chn.root {x r : Rat} (hxr : x < r) (hr : eI p r = 0) : vq p e r + 1 ≤ vq p e x := by
  obtain ⟨g, S, Q, al, hS, hn⟩ := h.near
  have hm := h.root_pos hr
  obtain ⟨d, hd, hh⟩ := small_two (small_two (hn x) (hn r)) (small_two (hS.root hm h.nz hr) ⟨(r - x) / 2, by grind, fun t (_ : 0 < t) (h : t ≤ (r - x) / 2) => h⟩)
  obtain ⟨⟨q1, q2⟩, q3, q4⟩ := hh d hd Rat.le_refl
  have := hS.mono (show x + d ≤ r - d by grind)
  omega
/-- A root with none between. -/
theorem Chn.root_one {x r : Rat} (hxr : x < r) (hr : eI p r = 0) (hf : ∃ d, 0 < d ∧ ∀ t, 0 < t → t ≤ d → ∃ c, 0 < c ∧ ∀ z, x + t ≤ z → z ≤ r - t → c ≤ eI p z ∨ eI p z ≤ -c) : vq p e x = vq p e r + 1 := by
  obtain ⟨g, S, Q, al, hS, hn⟩ := h.near
  have hm := h.root_pos hr
  obtain ⟨d, hd, hh⟩ := small_two (small_two (small_two (hn x) (hn r)) (small_two (hS.root hm h.nz hr) ⟨(r - x) / 2, by grind, fun t (_ : 0 < t) (h : t ≤ (r - x) / 2) => h⟩)) hf
  obtain ⟨⟨⟨q1, q2⟩, q3, q4⟩, c, hc, q5⟩ := hh d hd Rat.le_refl
  have := hS.flat (show x + d ≤ r - d by grind) hc q5
  omega
theorem Chn.flat {x y : Rat} (hxy : x ≤ y) (hf : ∃ d, 0 < d ∧ ∀ t, 0 < t → t ≤ d → ∃ c, 0 < c ∧ ∀ z, x + t ≤ z → z ≤ y + t → c ≤ eI p z ∨ eI p z ≤ -c) : vq p e x = vq p e y := by
  obtain ⟨g, S, Q, al, hS, hn⟩ := h.near
  obtain ⟨d, hd, hh⟩ := small_two (small_two (hn x) (hn y)) hf
  obtain ⟨⟨q1, q2⟩, c, hc, q5⟩ := hh d hd Rat.le_refl
  have := hS.flat (show x + d ≤ y + d by grind) hc q5
  omega
theorem Chn.rolle {e' : Nat} (h' : Chn (dZ p) e') {x y : Rat} (hxy : x < y) : vq p e x - vq p e y - 1 ≤ vq (dZ p) e' x - vq (dZ p) e' y := by
  have mono' := h'.mono (Rat.le_of_lt hxy)
  by_cases he : e ≤ 1
  · have a := h.le x
    have b := h.le y
    omega
  have he' : 1 ≤ e' := by
    by_cases c : 1 ≤ e'
    · exact c
    exfalso
    have : e' = 0 := by omega
    subst this
    have hf := h'.fin
    have : (seqZ (dZ p) 0).2 = dZ (dZ p) := rfl
    rw [this, dZ_len, dZ_len] at hf
    have := h.e_le
    omega
  obtain ⟨g, S, Q, al, hS, hn⟩ := h.near
  obtain ⟨g', S', Q', al', hS', hn'⟩ := h'.near
  have hZ : 0 ≤ rabs x + rabs y + 1 := by have := rabs_le x; have := rabs_le y; grind
  have x1 : -(rabs x + rabs y + 1) ≤ x := by have := rabs_le x; have := rabs_le y; grind
  have y1 : y + 1 ≤ rabs x + rabs y + 1 := by have := rabs_le x; have := rabs_le y; grind
  generalize rabs x + rabs y + 1 = Z at *
  obtain ⟨h0, n, s0, hend, _, hin, hst, _⟩ := hS.grid hZ hxy x1 (show y ≤ Z by grind) (d := 1) (by decide)
  obtain ⟨ef, hef, hfine⟩ := hS.fine hZ (d := 1) (by decide)
  -- a grid that is fine enough: again, with the step told
  obtain ⟨N, hN, hNlt⟩ := arch ((y - x) / ef)
  have hs' := step_nn hxy hN
  have hend' := gp_end (x := x) (y := y) hN
  have hle : (y - x) / ((N : Int) : Rat) ≤ ef := by
    have hN0 := cast_pos (show (0 : Int) < (N : Int) by omega)
    generalize ((N : Int) : Rat) = M at *
    have k3 := Rat.mul_lt_mul_of_pos_right hNlt hef
    have e4 : (y - x) / ef * ef = y - x := by grind
    rw [e4] at k3
    by_cases q : (y - x) / M ≤ ef
    · exact q
    · have k4 := Rat.mul_nonneg (show 0 ≤ (y - x) / M - ef by grind) (show 0 ≤ M by grind)
      have e5 : (y - x) / M * M = y - x := by grind
      grind
  generalize (y - x) / ((N : Int) : Rat) = hh0 at *
  have hnz : ∀ z : Rat, ∃ d, 0 < d ∧ ∀ t, 0 < t → t ≤ d → ev (toR p) (z + t) ≠ 0 := by
    intro z
    obtain ⟨d, hd, hq⟩ := h.nz.right z
    exact ⟨d, hd, fun t t1 t2 h0 => by have := hq t t1 t2; rw [h0] at this; grind⟩
  obtain ⟨d, hd, hh⟩ := small_two (small_two (small_two (hn x) (hn y)) (small_two (hn' x) (hn' y))) (small_two (small_all (Pr := fun j t => ev (toR p) (gp x hh0 j + t) ≠ 0) (N + 1) (fun j _ => hnz _)) ⟨(1 : Rat), by decide, fun t (_ : 0 < t) (h : t ≤ 1) => h⟩)
  obtain ⟨⟨⟨q1, q2⟩, q3, q4⟩, q5, q6⟩ := hh d hd Rat.le_refl
  have gin : ∀ j, j ≤ N → x ≤ gp x hh0 j ∧ gp x hh0 j ≤ y := fun j hj => ⟨gp_ge (by grind) j, by rw [← hend']; exact gp_le (by grind) hj⟩
  have glt : ∀ i j, i < j → gp x hh0 i < gp x hh0 j := by
    intro i j hij
    have a : gp x hh0 (i + 1) ≤ gp x hh0 j := gp_le (by grind) (by omega)
    rw [gp] at a; grind
  have r := Go.Ab.rolle hS hS' (by omega) he' h.nz h'.nz (fun z => eI_d p z) (X := fun j => gp x hh0 j + d) (n := N) (fun i j hij _ => by have := glt i j hij; grind) (fun j hj => by
    have a := gin j (by omega)
    have b := gin (j + 1) (by omega)
    have c := glt j (j + 1) (by omega)
    refine hS.piece hZ (by grind) (by grind) (by grind) ?_
    have e1 : gp x hh0 (j + 1) + d - (gp x hh0 j + d) = hh0 := by rw [gp]; grind
    rw [e1]
    exact (hfine hh0 hs' hle).1) (fun j hj => q5 j (by omega))
  rw [hend'] at r
  have e0 : gp x hh0 0 = x := rfl
  rw [e0] at r
  omega
end
end Go.Ab
