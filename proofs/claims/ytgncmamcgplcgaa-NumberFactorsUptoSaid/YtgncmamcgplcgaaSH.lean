/- RootsIn, told by the changes. -/
import Derived.Test.YtgncmamcgplcgaaSG
namespace Go.Ab
open Go
set_option maxRecDepth 1000000
set_option maxHeartbeats 1000000
set_option linter.unusedVariables false
set_option linter.unusedSimpArgs false

theorem bdE_of {p : List Int} {lo hi : Int × Int} (hp : pcE p = 0) (hlo : Small lo) (hhi : Small hi) (hlt : lo.1 * hi.2 < hi.1 * lo.2) : bdE p lo hi = 0 := by
  unfold bdE
  rw [if_pos hp]
  have : e2 lo hi = 0 := by unfold e2; rw [if_pos (cfE_of hlo)]; exact cfE_of hhi
  rw [if_pos this, if_neg (by omega)]
theorem vv_bd (p : List Int) (e : Nat) (a b : Int) : 0 ≤ vv p e a b ∧ vv p e a b ≤ e := ⟨(cgS_bd (fun j => bhF_vals _ _ 8 _) (e + 1)).1.1, cg_le _ e⟩
theorem k_RI {p : List Int} {lo hi : Int × Int} (hp : pcE p = 0) (hlo : Small lo) (hhi : Small hi) (hlt : lo.1 * hi.2 < hi.1 * lo.2) {e : Nat} (hc : Chn p e) :
    number_RootsIn p lo hi = some ((vv p e lo.1 lo.2 - vv p e hi.1 hi.2, 0, ()), ()) := by
  obtain ⟨e', k, c, kc⟩ := k_RootsIn (bdE_of hp hlo hhi hlt) hlo.i1 hlo.i2 hhi.i1 hhi.i2
  have := (kc.chn hp).uniq hc
  subst this
  exact k
end Go.Ab
