/- Blanks: what CheckGlass, Volume, Mass and Centre of the program and of the reference compute; BlankGlasses answers true. -/
import Derived.Test.YtlihngoejfmheaaGreatDoorC1
import Derived.Test.YtlihngoejfmheaaGreatDoorR1
namespace Go.Ab
open Go
set_option maxRecDepth 1000000
set_option maxHeartbeats 1000000
set_option linter.unusedVariables false
set_option linter.unusedSimpArgs false

abbrev Prt := Int × Int × Int × Int × Int × Bool
abbrev Cap := Int × Int × Int × Bool × Bool
abbrev Gla := Int × Int × List Prt × List Cap
def ptE (t : Int) (p : Prt) : Int :=
  if 1 ≤ p.1 ∧ p.1 ≤ 1000 then if 0 ≤ p.2.1 ∧ p.2.1 ≤ p.1 - 1 then if 0 ≤ p.2.2.1 ∧ p.2.2.1 ≤ t then if 0 ≤ p.2.2.2.1 ∧ p.2.2.2.1 ≤ t then if 0 ≤ p.2.2.2.2.1 ∧ p.2.2.2.2.1 ≤ 100 then
    if p.2.2.2.1 ≤ p.2.2.1 then 9 else if p.2.2.2.2.1 ≠ 0 ∧ p.2.1 ≠ 0 then 3 else 0 else 2 else 2 else 2 else 2 else 2
def cpE (t : Int) (c : Cap) : Int :=
  if 1 ≤ c.1 ∧ c.1 ≤ 100000 then if 1 ≤ c.2.1 ∧ c.2.1 ≤ min c.1 500 then if 0 ≤ c.2.2.1 ∧ c.2.2.1 ≤ t then
    if 0 ≤ (if c.2.2.2.1 = true then c.2.2.1 + c.2.1 else c.2.2.1 - c.2.1) ∧ (if c.2.2.2.1 = true then c.2.2.1 + c.2.1 else c.2.2.1 - c.2.1) ≤ t then 0 else 2 else 2 else 2 else 2

theorem k_checkPart (p : Prt) {t : Int} (ht : t ≤ 500) : blank_checkPart p t = some ((ptE t p, ()), ()) := by
  simp only [blank_checkPart, T_blank_checkPart, ptE]
  refine (r_bs (k_within _ _ _)).trans ?_
  by_cases h1 : 1 ≤ p.1 ∧ p.1 ≤ 1000
  · refine (br_f (nd h1)).trans ?_
    rw [if_pos h1, w64' (x := p.1 - 1) (by omega) (by omega)]
    refine (r_bs (k_within _ _ _)).trans ?_
    by_cases h2 : 0 ≤ p.2.1 ∧ p.2.1 ≤ p.1 - 1
    · refine (br_f (nd h2)).trans ?_
      rw [if_pos h2]
      refine (r_bs (k_within _ _ _)).trans ?_
      by_cases h3 : 0 ≤ p.2.2.1 ∧ p.2.2.1 ≤ t
      · refine (br_f (nd h3)).trans ?_
        rw [if_pos h3]
        refine (r_bs (k_within _ _ _)).trans ?_
        by_cases h4 : 0 ≤ p.2.2.2.1 ∧ p.2.2.2.1 ≤ t
        · refine (br_f (nd h4)).trans ?_
          rw [if_pos h4]
          refine (r_bs (k_within _ _ _)).trans ?_
          by_cases h5 : 0 ≤ p.2.2.2.2.1 ∧ p.2.2.2.2.1 ≤ 100
          · refine (br_f (nd h5)).trans ?_
            rw [if_pos h5]
            by_cases h6 : p.2.2.2.1 ≤ p.2.2.1
            · refine (br_t (decide_eq_true h6)).trans ?_
              rw [if_pos h6]; exact r_ret _
            · refine (br_f (decide_eq_false h6)).trans ?_
              rw [if_neg h6]
              by_cases h7 : p.2.2.2.2.1 = 0
              · refine (br_f (nd h7)).trans ?_
                rw [if_neg (by omega)]; exact r_ret _
              · refine (br_t (nd' h7)).trans ?_
                by_cases h8 : p.2.1 = 0
                · refine (br_f (nd h8)).trans ?_
                  rw [if_neg (by omega)]; exact r_ret _
                · refine (br_t (nd' h8)).trans ?_
                  rw [if_pos ⟨h7, h8⟩]; exact r_ret _
          · refine (br_t (nd' h5)).trans ?_
            rw [if_neg h5]; exact r_ret _
        · refine (br_t (nd' h4)).trans ?_
          rw [if_neg h4]; exact r_ret _
      · refine (br_t (nd' h3)).trans ?_
        rw [if_neg h3]; exact r_ret _
    · refine (br_t (nd' h2)).trans ?_
      rw [if_neg h2]; exact r_ret _
  · refine (br_t (nd' h1)).trans ?_
    rw [if_neg h1]; exact r_ret _
theorem k_rcheckPart (p : Prt) {t : Int} (ht : t ≤ 500) : ref03xcheckPart p t = some ((ptE t p, ()), ()) := by
  simp only [ref03xcheckPart, T_ref03xcheckPart, ptE]
  refine (r_bs (k_Within _ _ _)).trans ?_
  by_cases h1 : 1 ≤ p.1 ∧ p.1 ≤ 1000
  · refine (br_f (nd h1)).trans ?_
    rw [if_pos h1, w64' (x := p.1 - 1) (by omega) (by omega)]
    refine (r_bs (k_Within _ _ _)).trans ?_
    by_cases h2 : 0 ≤ p.2.1 ∧ p.2.1 ≤ p.1 - 1
    · refine (br_f (nd h2)).trans ?_
      rw [if_pos h2]
      refine (r_bs (k_Within _ _ _)).trans ?_
      by_cases h3 : 0 ≤ p.2.2.1 ∧ p.2.2.1 ≤ t
      · refine (br_f (nd h3)).trans ?_
        rw [if_pos h3]
        refine (r_bs (k_Within _ _ _)).trans ?_
        by_cases h4 : 0 ≤ p.2.2.2.1 ∧ p.2.2.2.1 ≤ t
        · refine (br_f (nd h4)).trans ?_
          rw [if_pos h4]
          refine (r_bs (k_Within _ _ _)).trans ?_
          by_cases h5 : 0 ≤ p.2.2.2.2.1 ∧ p.2.2.2.2.1 ≤ 100
          · refine (br_f (nd h5)).trans ?_
            rw [if_pos h5]
            by_cases h6 : p.2.2.2.1 ≤ p.2.2.1
            · refine (br_t (decide_eq_true h6)).trans ?_
              rw [if_pos h6]; exact r_ret _
            · refine (br_f (decide_eq_false h6)).trans ?_
              rw [if_neg h6]
              by_cases h7 : p.2.2.2.2.1 = 0
              · refine (br_f (nd h7)).trans ?_
                rw [if_neg (by omega)]; exact r_ret _
              · refine (br_t (nd' h7)).trans ?_
                by_cases h8 : p.2.1 = 0
                · refine (br_f (nd h8)).trans ?_
                  rw [if_neg (by omega)]; exact r_ret _
                · refine (br_t (nd' h8)).trans ?_
                  rw [if_pos ⟨h7, h8⟩]; exact r_ret _
          · refine (br_t (nd' h5)).trans ?_
            rw [if_neg h5]; exact r_ret _
        · refine (br_t (nd' h4)).trans ?_
          rw [if_neg h4]; exact r_ret _
      · refine (br_t (nd' h3)).trans ?_
        rw [if_neg h3]; exact r_ret _
    · refine (br_t (nd' h2)).trans ?_
      rw [if_neg h2]; exact r_ret _
  · refine (br_t (nd' h1)).trans ?_
    rw [if_neg h1]; exact r_ret _
theorem k_checkCap (c : Cap) {t : Int} (ht : t ≤ 500) : blank_checkCap c t = some ((cpE t c, ()), ()) := by
  simp only [blank_checkCap, T_blank_checkCap, cpE, if_true]
  refine (r_bs (k_within _ _ _)).trans ?_
  by_cases h1 : 1 ≤ c.1 ∧ c.1 ≤ 100000
  · refine (br_f (nd h1)).trans ?_
    rw [if_pos h1]
    refine (r_bs (k_within _ _ _)).trans ?_
    by_cases h2 : 1 ≤ c.2.1 ∧ c.2.1 ≤ min c.1 500
    · refine (br_f (nd h2)).trans ?_
      rw [if_pos h2]
      refine (r_bs (k_within _ _ _)).trans ?_
      by_cases h3 : 0 ≤ c.2.2.1 ∧ c.2.2.1 ≤ t
      · refine (br_f (nd h3)).trans ?_
        rw [if_pos h3]
        by_cases hu : c.2.2.2.1 = true
        · refine (br_t hu).trans ?_
          simp only [if_pos hu]
          rw [w64' (x := c.2.2.1 + c.2.1) (by omega) (by omega)]
          refine (r_bs (k_within _ _ _)).trans ?_
          by_cases h4 : 0 ≤ c.2.2.1 + c.2.1 ∧ c.2.2.1 + c.2.1 ≤ t
          · refine (br_f (nd h4)).trans ?_
            rw [if_pos h4]; exact r_ret _
          · refine (br_t (nd' h4)).trans ?_
            rw [if_neg h4]; exact r_ret _
        · refine (br_f (by simpa using hu)).trans ?_
          simp only [if_neg hu]
          rw [w64' (x := c.2.2.1 - c.2.1) (by omega) (by omega)]
          refine (r_bs (k_within _ _ _)).trans ?_
          by_cases h4 : 0 ≤ c.2.2.1 - c.2.1 ∧ c.2.2.1 - c.2.1 ≤ t
          · refine (br_f (nd h4)).trans ?_
            rw [if_pos h4]; exact r_ret _
          · refine (br_t (nd' h4)).trans ?_
            rw [if_neg h4]; exact r_ret _
      · refine (br_t (nd' h3)).trans ?_
        rw [if_neg h3]; exact r_ret _
    · refine (br_t (nd' h2)).trans ?_
      rw [if_neg h2]; exact r_ret _
  · refine (br_t (nd' h1)).trans ?_
    rw [if_neg h1]; exact r_ret _
theorem k_rcheckCap (c : Cap) {t : Int} (ht : t ≤ 500) : ref03xcheckCap c t = some ((cpE t c, ()), ()) := by
  simp only [ref03xcheckCap, T_ref03xcheckCap, cpE, if_true]
  refine (r_bs (k_Within _ _ _)).trans ?_
  by_cases h1 : 1 ≤ c.1 ∧ c.1 ≤ 100000
  · refine (br_f (nd h1)).trans ?_
    rw [if_pos h1]
    refine (r_bs (k_Within _ _ _)).trans ?_
    by_cases h2 : 1 ≤ c.2.1 ∧ c.2.1 ≤ min c.1 500
    · refine (br_f (nd h2)).trans ?_
      rw [if_pos h2]
      refine (r_bs (k_Within _ _ _)).trans ?_
      by_cases h3 : 0 ≤ c.2.2.1 ∧ c.2.2.1 ≤ t
      · refine (br_f (nd h3)).trans ?_
        rw [if_pos h3]
        by_cases hu : c.2.2.2.1 = true
        · refine (br_t hu).trans ?_
          simp only [if_pos hu]
          rw [w64' (x := c.2.2.1 + c.2.1) (by omega) (by omega)]
          refine (r_bs (k_Within _ _ _)).trans ?_
          by_cases h4 : 0 ≤ c.2.2.1 + c.2.1 ∧ c.2.2.1 + c.2.1 ≤ t
          · refine (br_f (nd h4)).trans ?_
            rw [if_pos h4]; exact r_ret _
          · refine (br_t (nd' h4)).trans ?_
            rw [if_neg h4]; exact r_ret _
        · refine (br_f (by simpa using hu)).trans ?_
          simp only [if_neg hu]
          rw [w64' (x := c.2.2.1 - c.2.1) (by omega) (by omega)]
          refine (r_bs (k_Within _ _ _)).trans ?_
          by_cases h4 : 0 ≤ c.2.2.1 - c.2.1 ∧ c.2.2.1 - c.2.1 ≤ t
          · refine (br_f (nd h4)).trans ?_
            rw [if_pos h4]; exact r_ret _
          · refine (br_t (nd' h4)).trans ?_
            rw [if_neg h4]; exact r_ret _
      · refine (br_t (nd' h3)).trans ?_
        rw [if_neg h3]; exact r_ret _
    · refine (br_t (nd' h2)).trans ?_
      rw [if_neg h2]; exact r_ret _
  · refine (br_t (nd' h1)).trans ?_
    rw [if_neg h1]; exact r_ret _

theorem ptE_0 {t : Int} {p : Prt} (h : ptE t p = 0) : (1 ≤ p.1 ∧ p.1 ≤ 1000) ∧ (0 ≤ p.2.1 ∧ p.2.1 ≤ p.1 - 1) ∧ 0 ≤ p.2.2.1 ∧ p.2.2.1 < p.2.2.2.1 ∧ p.2.2.2.1 ≤ t ∧ (0 ≤ p.2.2.2.2.1 ∧ p.2.2.2.2.1 ≤ 100) ∧ (p.2.2.2.2.1 ≠ 0 → p.2.1 = 0) := by
  unfold ptE at h
  split at h
  · rename_i h1
    split at h
    · rename_i h2
      split at h
      · rename_i h3
        split at h
        · rename_i h4
          split at h
          · rename_i h5
            split at h
            · cases h
            · rename_i h6
              split at h
              · cases h
              · rename_i h7
                exact ⟨h1, h2, h3.1, by omega, h4.2, h5, fun q => by omega⟩
          · cases h
        · cases h
      · cases h
    · cases h
  · cases h
theorem cpE_0 {t : Int} {c : Cap} (h : cpE t c = 0) : (1 ≤ c.1 ∧ c.1 ≤ 100000) ∧ (1 ≤ c.2.1 ∧ c.2.1 ≤ c.1 ∧ c.2.1 ≤ 500) ∧ 0 ≤ c.2.2.1 ∧ c.2.2.1 ≤ t := by
  unfold cpE at h
  split at h
  · rename_i h1
    split at h
    · rename_i h2
      split at h
      · rename_i h3
        exact ⟨h1, by omega, h3⟩
      · cases h
    · cases h
  · cases h

/-! ### Volumes and moments -/
def pV (p : Prt) : Int := 3 * (p.1 * p.1 - p.2.1 * p.2.1) * (p.2.2.2.1 - p.2.2.1) * max p.2.2.2.2.1 1
def pM (p : Prt) : Int := pV p * (p.2.2.1 + p.2.2.2.1)
def cV (c : Cap) : Int := 4 * c.2.1 * c.2.1 * (3 * c.1 - c.2.1)
def cB (c : Cap) : Int := 2 * c.2.1 * c.2.1 * c.2.1 * (8 * c.1 - 3 * c.2.1)
def cM (c : Cap) : Int := 2 * cV c * c.2.2.1 + (if c.2.2.2.1 = true then cB c else -cB c)
def sg (n : Int) (cut : Bool) : Int := if cut = true then -n else n
theorem sg_bd {n m : Int} {cut : Bool} (h1 : -m ≤ n) (h2 : n ≤ m) : -m ≤ sg n cut ∧ sg n cut ≤ m := by
  unfold sg; split <;> omega

theorem sq_bd {o i : Int} (h1 : 1 ≤ o) (h2 : o ≤ 1000) (h3 : 0 ≤ i) (h4 : i ≤ o - 1) : (1 ≤ o * o - i * i ∧ o * o - i * i ≤ 1000000) ∧ (0 ≤ o * o ∧ o * o ≤ 1000000) ∧ 0 ≤ i * i ∧ i * i ≤ 1000000 := by
  have m1 := mul_bd (a := o) (b := o) (m := 1000) (n := 1000) (by omega) (by omega) (by omega) (by omega)
  have m2 := mul_bd (a := i) (b := i) (m := 1000) (n := 1000) (by omega) (by omega) (by omega) (by omega)
  have n1 := Int.mul_nonneg (show 0 ≤ o by omega) (show 0 ≤ o by omega)
  have n2 := Int.mul_nonneg h3 h3
  have n3 := Int.mul_nonneg (show 0 ≤ o - i - 1 by omega) (show 0 ≤ o + i by omega)
  have e : (o - i - 1) * (o + i) = o * o - i * i - (o + i) := by grind
  omega
theorem pV_bd {t : Int} {p : Prt} (ht : t ≤ 500) (h : ptE t p = 0) : (1 ≤ pV p ∧ pV p ≤ 150000000000) ∧ 0 ≤ pM p ∧ pM p ≤ 150000000000000 := by
  obtain ⟨h1, h2, h3, h4, h5, h6, h7⟩ := ptE_0 h
  have hs := (sq_bd h1.1 h1.2 h2.1 h2.2).1
  unfold pM pV
  generalize p.1 * p.1 - p.2.1 * p.2.1 = s at *
  have hd : 1 ≤ p.2.2.2.1 - p.2.2.1 ∧ p.2.2.2.1 - p.2.2.1 ≤ 500 := by omega
  have hc : 1 ≤ max p.2.2.2.2.1 1 ∧ max p.2.2.2.2.1 1 ≤ 100 := by omega
  have he : 0 ≤ p.2.2.1 + p.2.2.2.1 ∧ p.2.2.1 + p.2.2.2.1 ≤ 1000 := by omega
  generalize p.2.2.2.1 - p.2.2.1 = d at *
  generalize max p.2.2.2.2.1 1 = c at *
  generalize p.2.2.1 + p.2.2.2.1 = e at *
  have a1 := Int.mul_pos (show 0 < 3 * s by omega) (show 0 < d by omega)
  have b1 := mul_bd (a := 3 * s) (b := d) (m := 3000000) (n := 500) (by omega) (by omega) (by omega) (by omega)
  have a2 := Int.mul_pos a1 (show 0 < c by omega)
  have b2 := mul_bd (a := 3 * s * d) (b := c) (m := 1500000000) (n := 100) (by omega) (by omega) (by omega) (by omega)
  have a3 := Int.mul_nonneg (show 0 ≤ 3 * s * d * c by omega) he.1
  have b3 := mul_bd (a := 3 * s * d * c) (b := e) (m := 150000000000) (n := 1000) (by omega) (by omega) (by omega) (by omega)
  omega
theorem cV_bd {t : Int} {c : Cap} (ht : t ≤ 500) (h : cpE t c = 0) : (0 ≤ cV c ∧ cV c ≤ 300000000000) ∧ (0 ≤ cB c ∧ cB c ≤ 200000000000000) ∧ (0 ≤ 2 * cV c * c.2.2.1 ∧ 2 * cV c * c.2.2.1 ≤ 300000000000000) ∧ -500000000000000 ≤ cM c ∧ cM c ≤ 500000000000000 := by
  obtain ⟨h1, h2, h3⟩ := cpE_0 h
  have a1 := Int.mul_nonneg (show 0 ≤ 4 * c.2.1 by omega) (show 0 ≤ c.2.1 by omega)
  have b1 := mul_bd (a := 4 * c.2.1) (b := c.2.1) (m := 2000) (n := 500) (by omega) (by omega) (by omega) (by omega)
  have a2 := Int.mul_nonneg a1 (show 0 ≤ 3 * c.1 - c.2.1 by omega)
  have b2 := mul_bd (a := 4 * c.2.1 * c.2.1) (b := 3 * c.1 - c.2.1) (m := 1000000) (n := 300000) (by omega) (by omega) (by omega) (by omega)
  have a3 := Int.mul_nonneg (show 0 ≤ 2 * c.2.1 by omega) (show 0 ≤ c.2.1 by omega)
  have b3 := mul_bd (a := 2 * c.2.1) (b := c.2.1) (m := 1000) (n := 500) (by omega) (by omega) (by omega) (by omega)
  have a4 := Int.mul_nonneg a3 (show 0 ≤ c.2.1 by omega)
  have b4 := mul_bd (a := 2 * c.2.1 * c.2.1) (b := c.2.1) (m := 500000) (n := 500) (by omega) (by omega) (by omega) (by omega)
  have a5 := Int.mul_nonneg a4 (show 0 ≤ 8 * c.1 - 3 * c.2.1 by omega)
  have b5 := mul_bd (a := 2 * c.2.1 * c.2.1 * c.2.1) (b := 8 * c.1 - 3 * c.2.1) (m := 250000000) (n := 800000) (by omega) (by omega) (by omega) (by omega)
  have e1 : 0 ≤ cV c ∧ cV c ≤ 300000000000 := by unfold cV; omega
  have e2 : 0 ≤ cB c ∧ cB c ≤ 200000000000000 := by unfold cB; omega
  have a6 := Int.mul_nonneg (show 0 ≤ 2 * cV c by omega) h3.1
  have b6 := mul_bd (a := 2 * cV c) (b := c.2.2.1) (m := 600000000000) (n := 500) (by omega) (by omega) (by omega) (by omega)
  refine ⟨e1, e2, by omega, ?_⟩
  unfold cM
  split <;> omega

theorem k_ofPart {t : Int} {p : Prt} (ht : t ≤ 500) (h : ptE t p = 0) : blank_ofPart p = some (((pV p, pM p), ()), ()) := by
  obtain ⟨h1, h2, h3, h4, h5, h6, h7⟩ := ptE_0 h
  have hs := sq_bd h1.1 h1.2 h2.1 h2.2
  have hb := pV_bd ht h
  simp only [blank_ofPart, T_blank_ofPart]
  by_cases hc : p.2.2.2.2.1 = 0
  · refine (br_f (nd hc)).trans ?_
    have e : pV p = 3 * (p.1 * p.1 - p.2.1 * p.2.1) * (p.2.2.2.1 - p.2.2.1) := by
      unfold pV; rw [hc]; show _ * (1 : Int) = _; rw [Int.mul_one]
    rw [w64' (x := p.1 * p.1) (by omega) (by omega), w64' (x := p.2.1 * p.2.1) (by omega) (by omega), w64' (x := p.1 * p.1 - p.2.1 * p.2.1) (by omega) (by omega), w64' (x := 3 * (p.1 * p.1 - p.2.1 * p.2.1)) (by omega) (by omega),
      w64' (x := p.2.2.2.1 - p.2.2.1) (by omega) (by omega), ← e, w64' (x := pV p) (by omega) (by omega), w64' (x := p.2.2.1 + p.2.2.2.1) (by omega) (by omega)]
    unfold pM at hb ⊢
    rw [w64' (x := pV p * (p.2.2.1 + p.2.2.2.1)) (by omega) (by omega)]
    exact r_ret _
  · refine (br_t (nd' hc)).trans ?_
    have hi := h7 hc
    have e : pV p = 3 * p.2.2.2.2.1 * p.1 * p.1 * (p.2.2.2.1 - p.2.2.1) := by
      unfold pV; rw [hi, show max p.2.2.2.2.1 1 = p.2.2.2.2.1 by omega]; grind
    have m1 := mul_bd (a := 3 * p.2.2.2.2.1) (b := p.1) (m := 300) (n := 1000) (by omega) (by omega) (by omega) (by omega)
    have m2 := mul_bd (a := 3 * p.2.2.2.2.1 * p.1) (b := p.1) (m := 300000) (n := 1000) (by omega) (by omega) (by omega) (by omega)
    rw [w64' (x := 3 * p.2.2.2.2.1) (by omega) (by omega), w64' (x := 3 * p.2.2.2.2.1 * p.1) (by omega) (by omega), w64' (x := 3 * p.2.2.2.2.1 * p.1 * p.1) (by omega) (by omega),
      w64' (x := p.2.2.2.1 - p.2.2.1) (by omega) (by omega), ← e, w64' (x := pV p) (by omega) (by omega), w64' (x := p.2.2.1 + p.2.2.2.1) (by omega) (by omega)]
    unfold pM at hb ⊢
    rw [w64' (x := pV p * (p.2.2.1 + p.2.2.2.1)) (by omega) (by omega)]
    exact r_ret _
theorem k_partVolume {t : Int} {p : Prt} (ht : t ≤ 500) (h : ptE t p = 0) : ref03xpartVolume p = some ((pV p, ()), ()) := by
  obtain ⟨h1, h2, h3, h4, h5, h6, h7⟩ := ptE_0 h
  have hs := sq_bd h1.1 h1.2 h2.1 h2.2
  have hb := pV_bd ht h
  have m1 := mul_bd (a := 3 * (p.1 * p.1 - p.2.1 * p.2.1)) (b := p.2.2.2.1 - p.2.2.1) (m := 3000000) (n := 500) (by omega) (by omega) (by omega) (by omega)
  simp only [ref03xpartVolume, T_ref03xpartVolume]
  rw [w64' (x := p.1 * p.1) (by omega) (by omega), w64' (x := p.2.1 * p.2.1) (by omega) (by omega), w64' (x := p.1 * p.1 - p.2.1 * p.2.1) (by omega) (by omega), w64' (x := 3 * (p.1 * p.1 - p.2.1 * p.2.1)) (by omega) (by omega),
      w64' (x := p.2.2.2.1 - p.2.2.1) (by omega) (by omega), w64' (x := 3 * (p.1 * p.1 - p.2.1 * p.2.1) * (p.2.2.2.1 - p.2.2.1)) (by omega) (by omega)]
  rw [show (if false = true then min p.2.2.2.2.1 1 else max p.2.2.2.2.1 1) = max p.2.2.2.2.1 1 from if_neg (by decide)]
  unfold pV at hb ⊢
  rw [w64' (x := 3 * (p.1 * p.1 - p.2.1 * p.2.1) * (p.2.2.2.1 - p.2.2.1) * max p.2.2.2.2.1 1) (by omega) (by omega)]
  exact r_ret _
theorem cap_w {t : Int} {c : Cap} (ht : t ≤ 500) (h : cpE t c = 0) : IntKind.i64.wrap (IntKind.i64.wrap (IntKind.i64.wrap (4 * c.2.1) * c.2.1) * IntKind.i64.wrap (IntKind.i64.wrap (3 * c.1) - c.2.1)) = cV c ∧
    IntKind.i64.wrap (IntKind.i64.wrap (2 * cV c) * c.2.2.1) = 2 * cV c * c.2.2.1 ∧
    IntKind.i64.wrap (IntKind.i64.wrap (IntKind.i64.wrap (IntKind.i64.wrap (2 * c.2.1) * c.2.1) * c.2.1) * IntKind.i64.wrap (IntKind.i64.wrap (8 * c.1) - IntKind.i64.wrap (3 * c.2.1))) = cB c := by
  obtain ⟨h1, h2, h3⟩ := cpE_0 h
  have hb := cV_bd ht h
  have b1 := mul_bd (a := 4 * c.2.1) (b := c.2.1) (m := 2000) (n := 500) (by omega) (by omega) (by omega) (by omega)
  have b3 := mul_bd (a := 2 * c.2.1) (b := c.2.1) (m := 1000) (n := 500) (by omega) (by omega) (by omega) (by omega)
  have b4 := mul_bd (a := 2 * c.2.1 * c.2.1) (b := c.2.1) (m := 500000) (n := 500) (by omega) (by omega) (by omega) (by omega)
  refine ⟨?_, ?_, ?_⟩
  · rw [w64' (x := 4 * c.2.1) (by omega) (by omega), w64' (x := 4 * c.2.1 * c.2.1) (by omega) (by omega), w64' (x := 3 * c.1) (by omega) (by omega), w64' (x := 3 * c.1 - c.2.1) (by omega) (by omega)]
    unfold cV at hb ⊢
    exact w64' (by omega) (by omega)
  · rw [w64' (x := 2 * cV c) (by omega) (by omega)]
    exact w64' (by omega) (by omega)
  · rw [w64' (x := 2 * c.2.1) (by omega) (by omega), w64' (x := 2 * c.2.1 * c.2.1) (by omega) (by omega), w64' (x := 2 * c.2.1 * c.2.1 * c.2.1) (by omega) (by omega), w64' (x := 8 * c.1) (by omega) (by omega), w64' (x := 3 * c.2.1) (by omega) (by omega), w64' (x := 8 * c.1 - 3 * c.2.1) (by omega) (by omega)]
    have := hb.2.1
    unfold cB at this ⊢
    exact w64' (by omega) (by omega)
theorem k_ofCap {t : Int} {c : Cap} (ht : t ≤ 500) (h : cpE t c = 0) : blank_ofCap c = some (((cV c, cM c), ()), ()) := by
  obtain ⟨w1, w2, w3⟩ := cap_w ht h
  have hb := cV_bd ht h
  simp only [blank_ofCap, T_blank_ofCap]
  rw [w1, w2, w3]
  by_cases hu : c.2.2.2.1 = true
  · refine (br_f (by rw [hu]; rfl)).trans ?_
    rw [w64' (x := 2 * cV c * c.2.2.1 + cB c) (by omega) (by omega)]
    refine (r_ret _).trans ?_
    unfold cM; rw [if_pos hu]
  · refine (br_t (by simpa using hu)).trans ?_
    rw [w64' (x := 0 - cB c) (by omega) (by omega), w64' (x := 2 * cV c * c.2.2.1 + (0 - cB c)) (by omega) (by omega)]
    refine (r_ret _).trans ?_
    unfold cM; rw [if_neg hu, Int.zero_sub]
theorem k_capVolume {t : Int} {c : Cap} (ht : t ≤ 500) (h : cpE t c = 0) : ref03xcapVolume c = some ((cV c, ()), ()) := by
  obtain ⟨w1, w2, w3⟩ := cap_w ht h
  simp only [ref03xcapVolume, T_ref03xcapVolume]
  rw [w1]
  exact r_ret _
theorem k_signed {n : Int} (cut : Bool) (h1 : -9000000000000000000 ≤ n) (h2 : n ≤ 9000000000000000000) : ref03xsigned n cut = some ((sg n cut, ()), ()) := by
  simp only [ref03xsigned, T_ref03xsigned, sg]
  cases cut with
  | true =>
    refine (br_t rfl).trans ?_
    rw [w64' (x := 0 - n) (by omega) (by omega), Int.zero_sub]
    exact r_ret _
  | false => exact (br_f rfl).trans (r_ret _)
theorem k_plus {b c : Int × Int} (cut : Bool) (h1 : -4000000000000000000 ≤ b.1) (h2 : b.1 ≤ 4000000000000000000) (h3 : -4000000000000000000 ≤ b.2) (h4 : b.2 ≤ 4000000000000000000)
    (h5 : -4000000000000000000 ≤ c.1) (h6 : c.1 ≤ 4000000000000000000) (h7 : -4000000000000000000 ≤ c.2) (h8 : c.2 ≤ 4000000000000000000) :
    blank_bulk_plus b c cut = some (((b.1 + sg c.1 cut, b.2 + sg c.2 cut), ()), ()) := by
  simp only [blank_bulk_plus, T_blank_bulk_plus, sg]
  cases cut with
  | true =>
    refine (br_t rfl).trans ?_
    rw [w64' (x := 0 - c.1) (by omega) (by omega), w64' (x := 0 - c.2) (by omega) (by omega), w64' (x := b.1 + (0 - c.1)) (by omega) (by omega), w64' (x := b.2 + (0 - c.2)) (by omega) (by omega), Int.zero_sub, Int.zero_sub]
    exact r_ret _
  | false =>
    refine (br_f rfl).trans ?_
    rw [w64' (x := b.1 + c.1) (by omega) (by omega), w64' (x := b.2 + c.2) (by omega) (by omega)]
    exact r_ret _

/-- A blank whose numbers are right. -/
structure Gl (g : Gla) : Prop where
  de : 1 ≤ g.1 ∧ g.1 ≤ 10000
  th : 1 ≤ g.2.1 ∧ g.2.1 ≤ 500
  np : g.2.2.1.length ≤ 40
  nc : g.2.2.2.length ≤ 4
  pt : ∀ i : Nat, i < g.2.2.1.length → ptE g.2.1 (gi g.2.2.1 (i : Int)) = 0
  cp : ∀ i : Nat, i < g.2.2.2.length → cpE g.2.1 (gi g.2.2.2 (i : Int)) = 0
/-- Volume and moment of the first parts; of all parts and the first caps. -/
def whP (g : Gla) : Nat → Int × Int
  | 0 => (0, 0)
  | k + 1 => ((whP g k).1 + sg (pV (gi g.2.2.1 (k : Int))) (gi g.2.2.1 (k : Int)).2.2.2.2.2, (whP g k).2 + sg (pM (gi g.2.2.1 (k : Int))) (gi g.2.2.1 (k : Int)).2.2.2.2.2)
def whC (g : Gla) : Nat → Int × Int
  | 0 => whP g g.2.2.1.length
  | k + 1 => ((whC g k).1 + sg (cV (gi g.2.2.2 (k : Int))) (gi g.2.2.2 (k : Int)).2.2.2.2, (whC g k).2 + sg (cM (gi g.2.2.2 (k : Int))) (gi g.2.2.2 (k : Int)).2.2.2.2)
def wh (g : Gla) : Int × Int := whC g g.2.2.2.length
theorem whP_bd {g : Gla} (h : Gl g) : ∀ k : Nat, k ≤ g.2.2.1.length → (-((k : Int) * 150000000000) ≤ (whP g k).1 ∧ (whP g k).1 ≤ (k : Int) * 150000000000) ∧ -((k : Int) * 150000000000000) ≤ (whP g k).2 ∧ (whP g k).2 ≤ (k : Int) * 150000000000000
  | 0, _ => by simp [whP]
  | k + 1, hk => by
    have ih := whP_bd h k (by omega)
    have b := pV_bd h.th.2 (h.pt k (by omega))
    have s1 := sg_bd (n := pV (gi g.2.2.1 (k : Int))) (m := 150000000000) (cut := (gi g.2.2.1 (k : Int)).2.2.2.2.2) (by omega) (by omega)
    have s2 := sg_bd (n := pM (gi g.2.2.1 (k : Int))) (m := 150000000000000) (cut := (gi g.2.2.1 (k : Int)).2.2.2.2.2) (by omega) (by omega)
    simp only [whP]
    omega
theorem whC_bd {g : Gla} (h : Gl g) : ∀ k : Nat, k ≤ g.2.2.2.length → (-(6000000000000 + (k : Int) * 300000000000) ≤ (whC g k).1 ∧ (whC g k).1 ≤ 6000000000000 + (k : Int) * 300000000000) ∧ -(6000000000000000 + (k : Int) * 500000000000000) ≤ (whC g k).2 ∧ (whC g k).2 ≤ 6000000000000000 + (k : Int) * 500000000000000
  | 0, _ => by
    have := whP_bd h g.2.2.1.length (Nat.le_refl _)
    have hn := h.np
    simp only [whC]
    omega
  | k + 1, hk => by
    have ih := whC_bd h k (by omega)
    have b := cV_bd h.th.2 (h.cp k (by omega))
    have s1 := sg_bd (n := cV (gi g.2.2.2 (k : Int))) (m := 300000000000) (cut := (gi g.2.2.2 (k : Int)).2.2.2.2) (by omega) (by omega)
    have s2 := sg_bd (n := cM (gi g.2.2.2 (k : Int))) (m := 500000000000000) (cut := (gi g.2.2.2 (k : Int)).2.2.2.2) (by omega) (by omega)
    simp only [whC]
    omega
theorem k_whole {g : Gla} (h : Gl g) : blank_whole g = some ((wh g, ()), ()) := by
  have hn := h.np
  have hm := h.nc
  simp only [blank_whole, T_blank_whole]
  rw [r_iter]
  refine iter_eq (fun k y => y = ((k : Int), whP g k, ())) _ g.2.2.1.length (by omega) ?_ rfl
  rintro k y hk rfl
  dsimp only
  unfold T_blank_whole_l0
  by_cases e : k < g.2.2.1.length
  · left
    have b := whP_bd h k hk
    have p := pV_bd h.th.2 (h.pt k e)
    refine ⟨(((k + 1 : Nat) : Int), whP g (k + 1), ()), ?_, e, rfl⟩
    refine (br_t (decide_eq_true (by omega))).trans ?_
    refine (q_of (inB_t' (by omega) (by omega))).trans ?_
    refine (r_bs (k_ofPart h.th.2 (h.pt k e))).trans ?_
    refine (r_bs (k_plus (b := whP g k) (c := (pV (gi g.2.2.1 (k : Int)), pM (gi g.2.2.1 (k : Int)))) (gi g.2.2.1 (k : Int)).2.2.2.2.2 (by omega) (by omega) (by omega) (by omega) (by dsimp only; omega) (by dsimp only; omega) (by dsimp only; omega) (by dsimp only; omega))).trans ?_
    rw [w64' (x := (k : Int) + 1) (by omega) (by omega)]
    exact r_ret _
  · right
    have e : k = g.2.2.1.length := by omega
    subst e
    refine (br_f (decide_eq_false (by omega))).trans ?_
    rw [r_iter]
    refine iter_eq (fun k y => y = ((k : Int), whC g k, ())) _ g.2.2.2.length (by omega) ?_ rfl
    rintro k y hk rfl
    dsimp only
    unfold T_blank_whole_l3
    by_cases e : k < g.2.2.2.length
    · left
      have b := whC_bd h k hk
      have p := cV_bd h.th.2 (h.cp k e)
      refine ⟨(((k + 1 : Nat) : Int), whC g (k + 1), ()), ?_, e, rfl⟩
      refine (br_t (decide_eq_true (by omega))).trans ?_
      refine (q_of (inB_t' (by omega) (by omega))).trans ?_
      refine (r_bs (k_ofCap h.th.2 (h.cp k e))).trans ?_
      refine (r_bs (k_plus (b := whC g k) (c := (cV (gi g.2.2.2 (k : Int)), cM (gi g.2.2.2 (k : Int)))) (gi g.2.2.2 (k : Int)).2.2.2.2 (by omega) (by omega) (by omega) (by omega) (by dsimp only; omega) (by dsimp only; omega) (by dsimp only; omega) (by dsimp only; omega))).trans ?_
      rw [w64' (x := (k : Int) + 1) (by omega) (by omega)]
      exact r_ret _
    · right
      have e : k = g.2.2.2.length := by omega
      subst e
      refine (br_f (decide_eq_false (by omega))).trans ?_
      exact r_ret _
theorem k_rVolume {g : Gla} (h : Gl g) : ref03xVolume g = some (((wh g).1, ()), ()) := by
  have hn := h.np
  have hm := h.nc
  simp only [ref03xVolume, T_ref03xVolume]
  rw [r_iter]
  refine iter_eq (fun k y => y = ((whP g k).1, (k : Int), ())) _ g.2.2.1.length (by omega) ?_ rfl
  rintro k y hk rfl
  dsimp only
  unfold T_ref03xVolume_l0
  by_cases e : k < g.2.2.1.length
  · left
    have b := whP_bd h k hk
    have p := pV_bd h.th.2 (h.pt k e)
    have s1 := sg_bd (n := pV (gi g.2.2.1 (k : Int))) (m := 150000000000) (cut := (gi g.2.2.1 (k : Int)).2.2.2.2.2) (by omega) (by omega)
    refine ⟨((whP g (k + 1)).1, ((k + 1 : Nat) : Int), ()), ?_, e, rfl⟩
    refine (br_t (decide_eq_true (by omega))).trans ?_
    refine (q_of (inB_t' (by omega) (by omega))).trans ?_
    refine (r_bs (k_partVolume h.th.2 (h.pt k e))).trans ?_
    refine (q_of (inB_t' (by omega) (by omega))).trans ?_
    refine (r_bs (k_signed (n := pV (gi g.2.2.1 (k : Int))) (gi g.2.2.1 (k : Int)).2.2.2.2.2 (by omega) (by omega))).trans ?_
    dsimp only
    rw [w64' (x := (k : Int) + 1) (by omega) (by omega), w64' (x := (whP g k).1 + sg (pV (gi g.2.2.1 (k : Int))) (gi g.2.2.1 (k : Int)).2.2.2.2.2) (by omega) (by omega)]
    exact r_ret _
  · right
    have e : k = g.2.2.1.length := by omega
    subst e
    refine (br_f (decide_eq_false (by omega))).trans ?_
    rw [r_iter]
    refine iter_eq (fun k y => y = ((whC g k).1, (k : Int), ())) _ g.2.2.2.length (by omega) ?_ rfl
    rintro k y hk rfl
    dsimp only
    unfold T_ref03xVolume_l3
    by_cases e : k < g.2.2.2.length
    · left
      have b := whC_bd h k hk
      have p := cV_bd h.th.2 (h.cp k e)
      have s1 := sg_bd (n := cV (gi g.2.2.2 (k : Int))) (m := 300000000000) (cut := (gi g.2.2.2 (k : Int)).2.2.2.2) (by omega) (by omega)
      refine ⟨((whC g (k + 1)).1, ((k + 1 : Nat) : Int), ()), ?_, e, rfl⟩
      refine (br_t (decide_eq_true (by omega))).trans ?_
      refine (q_of (inB_t' (by omega) (by omega))).trans ?_
      refine (r_bs (k_capVolume h.th.2 (h.cp k e))).trans ?_
      refine (q_of (inB_t' (by omega) (by omega))).trans ?_
      refine (r_bs (k_signed (n := cV (gi g.2.2.2 (k : Int))) (gi g.2.2.2 (k : Int)).2.2.2.2 (by omega) (by omega))).trans ?_
      dsimp only
      rw [w64' (x := (k : Int) + 1) (by omega) (by omega), w64' (x := (whC g k).1 + sg (cV (gi g.2.2.2 (k : Int))) (gi g.2.2.2 (k : Int)).2.2.2.2) (by omega) (by omega)]
      exact r_ret _
    · right
      have e : k = g.2.2.2.length := by omega
      subst e
      refine (br_f (decide_eq_false (by omega))).trans ?_
      exact r_ret _
/-! ### The error of a blank -/
def ptsE (g : Gla) : Int := firstErr (fun k => ptE g.2.1 (gi g.2.2.1 (k : Int))) g.2.2.1.length
def cpsE (g : Gla) : Int := firstErr (fun k => cpE g.2.1 (gi g.2.2.2 (k : Int))) g.2.2.2.length
def gl3 (g : Gla) : Int := if cpsE g = 0 then if (wh g).1 ≤ 0 then 11 else 0 else cpsE g
def gl2 (g : Gla) : Int := if 4 < g.2.2.2.length then 8 else gl3 g
def glE (g : Gla) : Int := if 1 ≤ g.1 ∧ g.1 ≤ 10000 then if 1 ≤ g.2.1 ∧ g.2.1 ≤ 500 then if 40 < g.2.2.1.length then 8 else if ptsE g = 0 then gl2 g else ptsE g else 2 else 2
theorem gl_of {g : Gla} (h1 : 1 ≤ g.1 ∧ g.1 ≤ 10000) (h2 : 1 ≤ g.2.1 ∧ g.2.1 ≤ 500) (h3 : ¬ 40 < g.2.2.1.length) (h4 : ptsE g = 0) (h5 : ¬ 4 < g.2.2.2.length) (h6 : cpsE g = 0) : Gl g :=
  ⟨h1, h2, by omega, by omega, fun i hi => firstErr_eq0 h4 i hi, fun i hi => firstErr_eq0 h6 i hi⟩
theorem glE_0 {g : Gla} (h : glE g = 0) : Gl g ∧ 0 < (wh g).1 := by
  unfold glE at h
  split at h
  · rename_i h1
    split at h
    · rename_i h2
      split at h
      · cases h
      · rename_i h3
        split at h
        · rename_i h4
          unfold gl2 at h
          split at h
          · cases h
          · rename_i h5
            unfold gl3 at h
            split at h
            · rename_i h6
              split at h
              · cases h
              · rename_i h7
                exact ⟨gl_of h1 h2 h3 h4 h5 h6, by omega⟩
            · rename_i h6; exact absurd h h6
        · rename_i h4; exact absurd h h4
    · cases h
  · cases h

theorem k_CheckGlass (g : Gla) : blank_CheckGlass g = some ((glE g, ()), ()) := by
  simp only [blank_CheckGlass, T_blank_CheckGlass, glE]
  refine (r_bs (k_within _ _ _)).trans ?_
  by_cases h1 : 1 ≤ g.1 ∧ g.1 ≤ 10000
  · refine (br_f (nd h1)).trans ?_
    rw [if_pos h1]
    refine (r_bs (k_within _ _ _)).trans ?_
    by_cases h2 : 1 ≤ g.2.1 ∧ g.2.1 ≤ 500
    · refine (br_f (nd h2)).trans ?_
      rw [if_pos h2]
      by_cases h3 : 40 < g.2.2.1.length
      · refine (br_t (decide_eq_true (by omega))).trans ?_
        rw [if_pos h3]; exact r_ret _
      · refine (br_f (decide_eq_false (by omega))).trans ?_
        rw [if_neg h3, r_iter]
        refine (iter_err (fun i => ((i : Int), ())) (fun k => ptE g.2.1 (gi g.2.2.1 (k : Int))) g.2.2.1.length (by omega) (fun e => (((if e = 0 then gl2 g else e), ()), ())) (fun i hi _ he => ?_) (fun i hi _ he => ?_) (fun hall => ?_)).trans rfl
        · unfold T_blank_CheckGlass_l2
          refine (br_t (decide_eq_true (by omega))).trans ?_
          refine (q_of (inB_t' (by omega) (by omega))).trans ?_
          refine (r_bs (k_checkPart _ h2.2)).trans ?_
          refine (br_t (nd' he)).trans ?_
          refine (r_ret _).trans ?_
          rw [if_neg he]
        · unfold T_blank_CheckGlass_l2
          refine (br_t (decide_eq_true (by omega))).trans ?_
          refine (q_of (inB_t' (by omega) (by omega))).trans ?_
          refine (r_bs (k_checkPart _ h2.2)).trans ?_
          refine (br_f (nd he)).trans ?_
          rw [w64' (x := (i : Int) + 1) (by omega) (by omega)]
          exact r_ret _
        · unfold T_blank_CheckGlass_l2
          refine (br_f (decide_eq_false (by omega))).trans ?_
          rw [if_pos rfl]
          unfold gl2
          by_cases h4 : 4 < g.2.2.2.length
          · refine (br_t (decide_eq_true (by omega))).trans ?_
            rw [if_pos h4]; exact r_ret _
          · refine (br_f (decide_eq_false (by omega))).trans ?_
            rw [if_neg h4, r_iter]
            refine (iter_err (fun i => ((i : Int), ())) (fun k => cpE g.2.1 (gi g.2.2.2 (k : Int))) g.2.2.2.length (by omega) (fun e => (Sum.inr ((if e = 0 then (if (wh g).1 ≤ 0 then 11 else 0) else e, ()), ()) : (Int × Unit) ⊕ ((Int × Unit) × Unit))) (fun i hi _ he => ?_) (fun i hi _ he => ?_) (fun hal2 => ?_)).trans rfl
            · unfold T_blank_CheckGlass_l4
              refine (br_t (decide_eq_true (by omega))).trans ?_
              refine (q_of (inB_t' (by omega) (by omega))).trans ?_
              refine (r_bs (k_checkCap _ h2.2)).trans ?_
              refine (br_t (nd' he)).trans ?_
              refine (r_ret _).trans ?_
              rw [if_neg he]
            · unfold T_blank_CheckGlass_l4
              refine (br_t (decide_eq_true (by omega))).trans ?_
              refine (q_of (inB_t' (by omega) (by omega))).trans ?_
              refine (r_bs (k_checkCap _ h2.2)).trans ?_
              refine (br_f (nd he)).trans ?_
              rw [w64' (x := (i : Int) + 1) (by omega) (by omega)]
              exact r_ret _
            · unfold T_blank_CheckGlass_l4
              have hg : Gl g := ⟨h1, h2, by omega, by omega, fun i hi => hall i hi, fun i hi => hal2 i hi⟩
              refine (br_f (decide_eq_false (by omega))).trans ?_
              refine (r_bs (k_whole hg)).trans ?_
              rw [if_pos rfl]
              by_cases h5 : (wh g).1 ≤ 0
              · refine (br_t (decide_eq_true h5)).trans ?_
                rw [if_pos h5]; exact r_ret _
              · refine (br_f (decide_eq_false h5)).trans ?_
                rw [if_neg h5]; exact r_ret _
    · refine (br_t (nd' h2)).trans ?_
      rw [if_neg h2]; exact r_ret _
  · refine (br_t (nd' h1)).trans ?_
    rw [if_neg h1]; exact r_ret _
theorem k_rCheckGlass (g : Gla) : ref03xCheckGlass g = some ((glE g, ()), ()) := by
  simp only [ref03xCheckGlass, T_ref03xCheckGlass, glE]
  refine (r_bs (k_Within _ _ _)).trans ?_
  by_cases h1 : 1 ≤ g.1 ∧ g.1 ≤ 10000
  · refine (br_f (nd h1)).trans ?_
    rw [if_pos h1]
    refine (r_bs (k_Within _ _ _)).trans ?_
    by_cases h2 : 1 ≤ g.2.1 ∧ g.2.1 ≤ 500
    · refine (br_f (nd h2)).trans ?_
      rw [if_pos h2]
      by_cases h3 : 40 < g.2.2.1.length
      · refine (br_t (decide_eq_true (by omega))).trans ?_
        rw [if_pos h3]; exact r_ret _
      · refine (br_f (decide_eq_false (by omega))).trans ?_
        rw [if_neg h3, r_iter]
        refine (iter_err (fun i => ((i : Int), ())) (fun k => ptE g.2.1 (gi g.2.2.1 (k : Int))) g.2.2.1.length (by omega) (fun e => (((if e = 0 then gl2 g else e), ()), ())) (fun i hi _ he => ?_) (fun i hi _ he => ?_) (fun hall => ?_)).trans rfl
        · unfold T_ref03xCheckGlass_l2
          refine (br_t (decide_eq_true (by omega))).trans ?_
          refine (q_of (inB_t' (by omega) (by omega))).trans ?_
          refine (r_bs (k_rcheckPart _ h2.2)).trans ?_
          refine (br_t (nd' he)).trans ?_
          refine (r_ret _).trans ?_
          rw [if_neg he]
        · unfold T_ref03xCheckGlass_l2
          refine (br_t (decide_eq_true (by omega))).trans ?_
          refine (q_of (inB_t' (by omega) (by omega))).trans ?_
          refine (r_bs (k_rcheckPart _ h2.2)).trans ?_
          refine (br_f (nd he)).trans ?_
          rw [w64' (x := (i : Int) + 1) (by omega) (by omega)]
          exact r_ret _
        · unfold T_ref03xCheckGlass_l2
          refine (br_f (decide_eq_false (by omega))).trans ?_
          rw [if_pos rfl]
          unfold gl2
          by_cases h4 : 4 < g.2.2.2.length
          · refine (br_t (decide_eq_true (by omega))).trans ?_
            rw [if_pos h4]; exact r_ret _
          · refine (br_f (decide_eq_false (by omega))).trans ?_
            rw [if_neg h4, r_iter]
            refine (iter_err (fun i => ((i : Int), ())) (fun k => cpE g.2.1 (gi g.2.2.2 (k : Int))) g.2.2.2.length (by omega) (fun e => (Sum.inr ((if e = 0 then (if (wh g).1 ≤ 0 then 11 else 0) else e, ()), ()) : (Int × Unit) ⊕ ((Int × Unit) × Unit))) (fun i hi _ he => ?_) (fun i hi _ he => ?_) (fun hal2 => ?_)).trans rfl
            · unfold T_ref03xCheckGlass_l4
              refine (br_t (decide_eq_true (by omega))).trans ?_
              refine (q_of (inB_t' (by omega) (by omega))).trans ?_
              refine (r_bs (k_rcheckCap _ h2.2)).trans ?_
              refine (br_t (nd' he)).trans ?_
              refine (r_ret _).trans ?_
              rw [if_neg he]
            · unfold T_ref03xCheckGlass_l4
              refine (br_t (decide_eq_true (by omega))).trans ?_
              refine (q_of (inB_t' (by omega) (by omega))).trans ?_
              refine (r_bs (k_rcheckCap _ h2.2)).trans ?_
              refine (br_f (nd he)).trans ?_
              rw [w64' (x := (i : Int) + 1) (by omega) (by omega)]
              exact r_ret _
            · unfold T_ref03xCheckGlass_l4
              have hg : Gl g := ⟨h1, h2, by omega, by omega, fun i hi => hall i hi, fun i hi => hal2 i hi⟩
              refine (br_f (decide_eq_false (by omega))).trans ?_
              refine (r_bs (k_rVolume hg)).trans ?_
              rw [if_pos rfl]
              by_cases h5 : (wh g).1 ≤ 0
              · refine (br_t (decide_eq_true h5)).trans ?_
                rw [if_pos h5]; exact r_ret _
              · refine (br_f (decide_eq_false h5)).trans ?_
                rw [if_neg h5]; exact r_ret _
    · refine (br_t (nd' h2)).trans ?_
      rw [if_neg h2]; exact r_ret _
  · refine (br_t (nd' h1)).trans ?_
    rw [if_neg h1]; exact r_ret _

theorem k_copied {g : Gla} (h1 : g.2.2.1.length ≤ 43) (h2 : g.2.2.2.length ≤ 7) : law03xcopied g = some ((g, ()), ()) := by
  unfold law03xcopied T_law03xcopied
  refine (q_of (app_t' (by omega) (by omega))).trans ?_
  refine (q_of (app_t' (by omega) (by omega))).trans ?_
  exact r_ret _
end Go.Ab
