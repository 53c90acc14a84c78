/- NumberCounts. -/
import Derived.Test.YtgncmamcgplcgaaR1
import Derived.Test.YtgncmamcgplcgaaW8
namespace Go.Ab
open Go
set_option maxRecDepth 1000000
set_option maxHeartbeats 1000000
set_option linter.unusedVariables false
set_option linter.unusedSimpArgs false

set_option linter.unusedSectionVars false
theorem cmpI_le {a b : Int} : cmpI a b ≤ 0 ↔ a ≤ b := by
  unfold cmpI
  by_cases h : a < b
  · rw [if_pos h]; omega
  · rw [if_neg h]
    by_cases h' : b < a
    · rw [if_pos h']; omega
    · rw [if_neg h']; omega
def bdE (p : List Int) (lo hi : Int × Int) : Int := if pcE p = 0 then if e2 lo hi = 0 then if hi.1 * lo.2 ≤ lo.1 * hi.2 then 9 else 0 else e2 lo hi else pcE p
section
variable {p : List Int} {lo hi : Int × Int} (h1 : I64 lo.1) (h2 : I64 lo.2) (h3 : I64 hi.1) (h4 : I64 hi.2)
include h1 h2 h3 h4
theorem k_checkSpan : number_checkSpan p lo hi = some ((bdE p lo hi, ()), ()) := by
  simp only [number_checkSpan, T_number_checkSpan, bdE]
  refine (r_bs (k_CheckPoly p)).trans ?_
  by_cases h : pcE p = 0
  · rw [if_pos h]
    refine (br_f (nd h)).trans ?_
    refine (r_bs (k_ck2 h1 h2 h3 h4)).trans ?_
    by_cases he : e2 lo hi = 0
    · obtain ⟨ha, hb⟩ := e2_zero he
      have hbd := ha.bds hb
      rw [if_pos he]
      refine (br_f (nd he)).trans ?_
      rw [w64' (x := hi.1 * lo.2) (by omega) (by omega), w64' (x := lo.1 * hi.2) (by omega) (by omega)]
      by_cases hc : hi.1 * lo.2 ≤ lo.1 * hi.2
      · rw [if_pos hc]; exact (br_t (decide_eq_true hc)).trans (r_ret _)
      · rw [if_neg hc]; exact (br_f (decide_eq_false hc)).trans (r_ret _)
    · rw [if_neg he]; exact (br_t (nd' he)).trans (r_ret _)
  · rw [if_neg h]; exact (br_t (nd' h)).trans (r_ret _)
theorem k_bounds : law01xbounds p lo hi = some ((bdE p lo hi, ()), ()) := by
  simp only [law01xbounds, T_law01xbounds, bdE]
  refine (r_bs (k_rCheckPoly p)).trans ?_
  by_cases h : pcE p = 0
  · rw [if_pos h]
    refine (br_f (nd h)).trans ?_
    refine (r_bs (k_fr2 h1 h2 h3 h4)).trans ?_
    by_cases he : e2 lo hi = 0
    · obtain ⟨ha, hb⟩ := e2_zero he
      rw [if_pos he]
      refine (br_f (nd he)).trans ?_
      refine (r_bs (k_bCmp hb ha)).trans ?_
      by_cases hc : hi.1 * lo.2 ≤ lo.1 * hi.2
      · rw [if_pos hc]
        exact (br_t (decide_eq_true (cmpI_le.2 hc))).trans (r_ret _)
      · rw [if_neg hc]
        exact (br_f (decide_eq_false (fun h => hc (cmpI_le.1 h)))).trans (r_ret _)
    · rw [if_neg he]; exact (br_t (nd' he)).trans (r_ret _)
  · rw [if_neg h]; exact (br_t (nd' h)).trans (r_ret _)
theorem k_RootsIn_e (h : bdE p lo hi ≠ 0) : number_RootsIn p lo hi = some ((0, bdE p lo hi, ()), ()) := by
  simp only [number_RootsIn, T_number_RootsIn]
  refine (r_bs (k_checkSpan h1 h2 h3 h4)).trans ?_
  exact (br_t (nd' h)).trans (r_ret _)
theorem bdE_zero (h : bdE p lo hi = 0) : pcE p = 0 ∧ Small lo ∧ Small hi ∧ lo.1 * hi.2 < hi.1 * lo.2 := by
  unfold bdE at h
  split at h
  · split at h
    · split at h
      · cases h
      · rename_i a b c
        obtain ⟨x, y⟩ := e2_zero b
        exact ⟨a, x, y, by omega⟩
    · contradiction
  · contradiction
end
theorem rootsZ_bd (p : List Int) {e : Nat} (he : e ≤ 6) (lo hi : Int × Int) : -7 ≤ rootsZ p e lo hi ∧ rootsZ p e lo hi ≤ 7 := by
  have c1 := (cgS_bd (s := fun j => bhF lo.1 lo.2 8 (seqZ p j).1) (fun j => bhF_vals _ _ 8 _) (e + 1)).1
  have c2 := (cgS_bd (s := fun j => bhF hi.1 hi.2 8 (seqZ p j).1) (fun j => bhF_vals _ _ 8 _) (e + 1)).1
  unfold rootsZ
  omega
theorem k_RootsIn {p : List Int} {lo hi : Int × Int} (h : bdE p lo hi = 0) (h1 : I64 lo.1) (h2 : I64 lo.2) (h3 : I64 hi.1) (h4 : I64 hi.2) :
    ∃ e, number_RootsIn p lo hi = some ((rootsZ p e lo hi, 0, ()), ()) ∧ ∃ c, CH B32 p e c := by
  obtain ⟨hp, hlo, hhi, _⟩ := bdE_zero h1 h2 h3 h4 h
  obtain ⟨l1, l2, l3, _⟩ := pcE_zero hp
  obtain ⟨r, k1, k2⟩ := pc_series hp
  obtain ⟨c, e, k3, k4⟩ := k_chain (n := 2) k2 (pc_top hp) (by omega) l2
  have s7 : ∀ j, (seqZ p j).1.length ≤ 7 := fun j => by have := (seqZ_ok (pc_top hp) l2 j).2.2.1; omega
  have b1 := hlo.2.1
  have b2 := hlo.2.2.1
  have b3 := hlo.2.2.2
  have b4 := hlo.1.1
  have d1 := hhi.2.1
  have d2 := hhi.2.2.1
  have d3 := hhi.2.2.2
  have d4 := hhi.1.1
  obtain ⟨x, kx, x1, x2⟩ := k_pointOf (a := lo.1) (b := lo.2) (by omega) (by omega) (by omega) (by omega)
  obtain ⟨y, ky, y1, y2⟩ := k_pointOf (a := hi.1) (b := hi.2) (by omega) (by omega) (by omega) (by omega)
  refine ⟨e, ?_, c, k4⟩
  have hb := rootsZ_bd p k4.le lo hi
  simp only [number_RootsIn, T_number_RootsIn]
  refine (r_bs (k_checkSpan h1 h2 h3 h4)).trans ?_
  refine (br_f (nd h)).trans ?_
  refine (r_bs k1).trans ?_
  refine (r_bs k3).trans ?_
  refine (r_bs kx).trans ?_
  refine (r_bs (k_changes k4 s7 x1 x2)).trans ?_
  refine (r_bs ky).trans ?_
  refine (r_bs (k_changes k4 s7 y1 y2)).trans ?_
  refine (r_ret _).trans ?_
  have e1 : IntKind.i64.wrap (rootsZ p e lo hi) = rootsZ p e lo hi := w64' (by omega) (by omega)
  exact congrArg (fun z => some (((z, 0, ()), ()) : (Int × Int × Unit) × Unit)) e1
theorem k_low (p : List Int) : ∃ b : Bool, law01xlow p = some ((b, ()), ()) := by
  simp only [law01xlow, T_law01xlow]
  by_cases h : (p.length : Int) ≤ 5
  · exact ⟨_, (br_t (decide_eq_true h)).trans (r_ret _)⟩
  · by_cases h2 : 7 < (p.length : Int)
    · exact ⟨_, (br_f (decide_eq_false h)).trans ((br_t (decide_eq_true h2)).trans (r_ret _))⟩
    · exact ⟨_, (br_f (decide_eq_false h)).trans ((br_f (decide_eq_false h2)).trans (r_ret _))⟩

end Go.Ab
