/- TopSphereMiddle answers true: 72 cases, each reckoned. -/
import Derived.Test.YtpgagefaneaioaaH1
import Derived.Test.YtpgagefaneaioaaR1
import Derived.Test.YtpgagefaneaioaaQLTopSphereMiddle
namespace Go.Ab
open Go
set_option maxRecDepth 1000000
set_option maxHeartbeats 1000000
set_option linter.unusedVariables false
set_option linter.unusedSimpArgs false
attribute [local congr] bindC iterC

theorem seen_ok : top_seen = some ((true, ()), ()) := by kernel_rfl
theorem emod_eq' {a b : Int} (hb : 0 < b) : a % b = if a.tmod b < 0 then a.tmod b + b else a.tmod b := by
  have h1 := Int.tmod_add_mul_tdiv a b
  have h2 := Int.tmod_lt_of_pos a hb
  have h3 := Int.lt_tmod_of_pos a hb
  split
  · refine (Int.ediv_emod_unique (r := a.tmod b + b) (q := a.tdiv b - 1) hb).2 ⟨?_, by omega, by omega⟩ |>.2
    rw [Int.mul_sub]; omega
  · refine (Int.ediv_emod_unique (r := a.tmod b) (q := a.tdiv b) hb).2 ⟨h1, by omega, h2⟩ |>.2
theorem k_Mod {n b : Int} (hb : 0 < b) (hb' : b ≤ 9223372036854775807) : base_Mod n b = some ((n % b, ()), ()) := by
  have e := emod_eq' (a := n) hb
  have h2 := Int.tmod_lt_of_pos n hb
  have h3 := Int.lt_tmod_of_pos n hb
  have z : b ≠ 0 := by omega
  simp only [base_Mod, T_base_Mod]
  by_cases c : n.tmod b < 0
  · rw [if_pos c] at e
    simp (maxSteps := 1000000) (disch := first | omega | assumption) only [↓r_ret, ↓r_fail, ↓r_br, ↓r_bind, ↓r_iter, ↓r_req, decide_eq_true_eq, Bool.not_eq_eq_eq_not, decide_eq_false_iff_not, ite_not, inB_t', app_t', bnd_t', str_t', nz_t, Int.reduceEq, Int.reduceLT, Int.reduceLE, w64', Option.bind_some, Option.bind_none, List.length_cons, List.length_nil, List.length_append, Nat.zero_add, if_pos, if_neg, decide_true, decide_false, if_true, if_false, Bool.not_true, Bool.not_false, Bool.false_eq_true, Bool.true_eq_false, not_true_eq_false, not_false_eq_true, ↓reduceIte, List.nil_append, c, z, e]
  · rw [if_neg c] at e
    simp (maxSteps := 1000000) (disch := first | omega | assumption) only [↓r_ret, ↓r_fail, ↓r_br, ↓r_bind, ↓r_iter, ↓r_req, decide_eq_true_eq, Bool.not_eq_eq_eq_not, decide_eq_false_iff_not, ite_not, inB_t', app_t', bnd_t', str_t', nz_t, Int.reduceEq, Int.reduceLT, Int.reduceLE, w64', Option.bind_some, Option.bind_none, List.length_cons, List.length_nil, List.length_append, Nat.zero_add, if_pos, if_neg, decide_true, decide_false, if_true, if_false, Bool.not_true, Bool.not_false, Bool.false_eq_true, Bool.true_eq_false, not_true_eq_false, not_false_eq_true, ↓reduceIte, List.nil_append, c, z, e]
theorem mid_congr {k w w' : Int} (h : base_Mod w 6 = base_Mod w' 6) : T_top_TopSphereMiddle k w = T_top_TopSphereMiddle k w' := by
  unfold T_top_TopSphereMiddle
  rw [h]
theorem mid1m0 : (T_top_TopSphereMiddle 1 0).run = some ((true, ()), ()) := by kernel_rfl
theorem mid1m1 : (T_top_TopSphereMiddle 1 1).run = some ((true, ()), ()) := by kernel_rfl
theorem mid1m2 : (T_top_TopSphereMiddle 1 2).run = some ((true, ()), ()) := by kernel_rfl
theorem mid1m3 : (T_top_TopSphereMiddle 1 3).run = some ((true, ()), ()) := by kernel_rfl
theorem mid1m4 : (T_top_TopSphereMiddle 1 4).run = some ((true, ()), ()) := by kernel_rfl
theorem mid1m5 : (T_top_TopSphereMiddle 1 5).run = some ((true, ()), ()) := by kernel_rfl
theorem mid2m0 : (T_top_TopSphereMiddle 2 0).run = some ((true, ()), ()) := by kernel_rfl
theorem mid2m1 : (T_top_TopSphereMiddle 2 1).run = some ((true, ()), ()) := by kernel_rfl
theorem mid2m2 : (T_top_TopSphereMiddle 2 2).run = some ((true, ()), ()) := by kernel_rfl
theorem mid2m3 : (T_top_TopSphereMiddle 2 3).run = some ((true, ()), ()) := by kernel_rfl
theorem mid2m4 : (T_top_TopSphereMiddle 2 4).run = some ((true, ()), ()) := by kernel_rfl
theorem mid2m5 : (T_top_TopSphereMiddle 2 5).run = some ((true, ()), ()) := by kernel_rfl
theorem mid3m0 : (T_top_TopSphereMiddle 3 0).run = some ((true, ()), ()) := by kernel_rfl
theorem mid3m1 : (T_top_TopSphereMiddle 3 1).run = some ((true, ()), ()) := by kernel_rfl
theorem mid3m2 : (T_top_TopSphereMiddle 3 2).run = some ((true, ()), ()) := by kernel_rfl
theorem mid3m3 : (T_top_TopSphereMiddle 3 3).run = some ((true, ()), ()) := by kernel_rfl
theorem mid3m4 : (T_top_TopSphereMiddle 3 4).run = some ((true, ()), ()) := by kernel_rfl
theorem mid3m5 : (T_top_TopSphereMiddle 3 5).run = some ((true, ()), ()) := by kernel_rfl
theorem mid4m0 : (T_top_TopSphereMiddle 4 0).run = some ((true, ()), ()) := by kernel_rfl
theorem mid4m1 : (T_top_TopSphereMiddle 4 1).run = some ((true, ()), ()) := by kernel_rfl
theorem mid4m2 : (T_top_TopSphereMiddle 4 2).run = some ((true, ()), ()) := by kernel_rfl
theorem mid4m3 : (T_top_TopSphereMiddle 4 3).run = some ((true, ()), ()) := by kernel_rfl
theorem mid4m4 : (T_top_TopSphereMiddle 4 4).run = some ((true, ()), ()) := by kernel_rfl
theorem mid4m5 : (T_top_TopSphereMiddle 4 5).run = some ((true, ()), ()) := by kernel_rfl
theorem mid5m0 : (T_top_TopSphereMiddle 5 0).run = some ((true, ()), ()) := by kernel_rfl
theorem mid5m1 : (T_top_TopSphereMiddle 5 1).run = some ((true, ()), ()) := by kernel_rfl
theorem mid5m2 : (T_top_TopSphereMiddle 5 2).run = some ((true, ()), ()) := by kernel_rfl
theorem mid5m3 : (T_top_TopSphereMiddle 5 3).run = some ((true, ()), ()) := by kernel_rfl
theorem mid5m4 : (T_top_TopSphereMiddle 5 4).run = some ((true, ()), ()) := by kernel_rfl
theorem mid5m5 : (T_top_TopSphereMiddle 5 5).run = some ((true, ()), ()) := by kernel_rfl
theorem mid6m0 : (T_top_TopSphereMiddle 6 0).run = some ((true, ()), ()) := by kernel_rfl
theorem mid6m1 : (T_top_TopSphereMiddle 6 1).run = some ((true, ()), ()) := by kernel_rfl
theorem mid6m2 : (T_top_TopSphereMiddle 6 2).run = some ((true, ()), ()) := by kernel_rfl
theorem mid6m3 : (T_top_TopSphereMiddle 6 3).run = some ((true, ()), ()) := by kernel_rfl
theorem mid6m4 : (T_top_TopSphereMiddle 6 4).run = some ((true, ()), ()) := by kernel_rfl
theorem mid6m5 : (T_top_TopSphereMiddle 6 5).run = some ((true, ()), ()) := by kernel_rfl
theorem mid7m0 : (T_top_TopSphereMiddle 7 0).run = some ((true, ()), ()) := by kernel_rfl
theorem mid7m1 : (T_top_TopSphereMiddle 7 1).run = some ((true, ()), ()) := by kernel_rfl
theorem mid7m2 : (T_top_TopSphereMiddle 7 2).run = some ((true, ()), ()) := by kernel_rfl
theorem mid7m3 : (T_top_TopSphereMiddle 7 3).run = some ((true, ()), ()) := by kernel_rfl
theorem mid7m4 : (T_top_TopSphereMiddle 7 4).run = some ((true, ()), ()) := by kernel_rfl
theorem mid7m5 : (T_top_TopSphereMiddle 7 5).run = some ((true, ()), ()) := by kernel_rfl
theorem mid8m0 : (T_top_TopSphereMiddle 8 0).run = some ((true, ()), ()) := by kernel_rfl
theorem mid8m1 : (T_top_TopSphereMiddle 8 1).run = some ((true, ()), ()) := by kernel_rfl
theorem mid8m2 : (T_top_TopSphereMiddle 8 2).run = some ((true, ()), ()) := by kernel_rfl
theorem mid8m3 : (T_top_TopSphereMiddle 8 3).run = some ((true, ()), ()) := by kernel_rfl
theorem mid8m4 : (T_top_TopSphereMiddle 8 4).run = some ((true, ()), ()) := by kernel_rfl
theorem mid8m5 : (T_top_TopSphereMiddle 8 5).run = some ((true, ()), ()) := by kernel_rfl
theorem mid9m0 : (T_top_TopSphereMiddle 9 0).run = some ((true, ()), ()) := by kernel_rfl
theorem mid9m1 : (T_top_TopSphereMiddle 9 1).run = some ((true, ()), ()) := by kernel_rfl
theorem mid9m2 : (T_top_TopSphereMiddle 9 2).run = some ((true, ()), ()) := by kernel_rfl
theorem mid9m3 : (T_top_TopSphereMiddle 9 3).run = some ((true, ()), ()) := by kernel_rfl
theorem mid9m4 : (T_top_TopSphereMiddle 9 4).run = some ((true, ()), ()) := by kernel_rfl
theorem mid9m5 : (T_top_TopSphereMiddle 9 5).run = some ((true, ()), ()) := by kernel_rfl
theorem mid10m0 : (T_top_TopSphereMiddle 10 0).run = some ((true, ()), ()) := by kernel_rfl
theorem mid10m1 : (T_top_TopSphereMiddle 10 1).run = some ((true, ()), ()) := by kernel_rfl
theorem mid10m2 : (T_top_TopSphereMiddle 10 2).run = some ((true, ()), ()) := by kernel_rfl
theorem mid10m3 : (T_top_TopSphereMiddle 10 3).run = some ((true, ()), ()) := by kernel_rfl
theorem mid10m4 : (T_top_TopSphereMiddle 10 4).run = some ((true, ()), ()) := by kernel_rfl
theorem mid10m5 : (T_top_TopSphereMiddle 10 5).run = some ((true, ()), ()) := by kernel_rfl
theorem mid11m0 : (T_top_TopSphereMiddle 11 0).run = some ((true, ()), ()) := by kernel_rfl
theorem mid11m1 : (T_top_TopSphereMiddle 11 1).run = some ((true, ()), ()) := by kernel_rfl
theorem mid11m2 : (T_top_TopSphereMiddle 11 2).run = some ((true, ()), ()) := by kernel_rfl
theorem mid11m3 : (T_top_TopSphereMiddle 11 3).run = some ((true, ()), ()) := by kernel_rfl
theorem mid11m4 : (T_top_TopSphereMiddle 11 4).run = some ((true, ()), ()) := by kernel_rfl
theorem mid11m5 : (T_top_TopSphereMiddle 11 5).run = some ((true, ()), ()) := by kernel_rfl
theorem mid12m0 : (T_top_TopSphereMiddle 12 0).run = some ((true, ()), ()) := by kernel_rfl
theorem mid12m1 : (T_top_TopSphereMiddle 12 1).run = some ((true, ()), ()) := by kernel_rfl
theorem mid12m2 : (T_top_TopSphereMiddle 12 2).run = some ((true, ()), ()) := by kernel_rfl
theorem mid12m3 : (T_top_TopSphereMiddle 12 3).run = some ((true, ()), ()) := by kernel_rfl
theorem mid12m4 : (T_top_TopSphereMiddle 12 4).run = some ((true, ()), ()) := by kernel_rfl
theorem mid12m5 : (T_top_TopSphereMiddle 12 5).run = some ((true, ()), ()) := by kernel_rfl
theorem k_TopSphereMiddle {k : Int} {which : Int} (b0 : bulkT (.int .i64) k ≤ 1048576) (w0 : wfT (.int .i64) k) (b1 : bulkT (.int .i64) which ≤ 1048576) (w1 : wfT (.int .i64) which) : top_TopSphereMiddle k which = some ((true, ()), ()) := by
  show (T_top_TopSphereMiddle k which).run = _
  by_cases hk : 1 ≤ k ∧ k ≤ 12
  · have m0 : 0 ≤ which % 6 := Int.emod_nonneg _ (by decide)
    have m1 : which % 6 < 6 := Int.emod_lt_of_pos _ (by decide)
    have hm : ∀ m : Int, which % 6 = m → base_Mod which 6 = base_Mod m 6 := fun m h => by
      rw [k_Mod (by decide) (by decide), k_Mod (by decide) (by decide), h]
      have : m % 6 = m := by omega
      rw [this]
    have hk' : k = 1 ∨ k = 2 ∨ k = 3 ∨ k = 4 ∨ k = 5 ∨ k = 6 ∨ k = 7 ∨ k = 8 ∨ k = 9 ∨ k = 10 ∨ k = 11 ∨ k = 12 := by omega
    have hw' : which % 6 = 0 ∨ which % 6 = 1 ∨ which % 6 = 2 ∨ which % 6 = 3 ∨ which % 6 = 4 ∨ which % 6 = 5 := by omega
    rcases hw' with h | h | h | h | h | h
    · rw [mid_congr (hm 0 h)]
      rcases hk' with rfl | rfl | rfl | rfl | rfl | rfl | rfl | rfl | rfl | rfl | rfl | rfl
      · exact mid1m0
      · exact mid2m0
      · exact mid3m0
      · exact mid4m0
      · exact mid5m0
      · exact mid6m0
      · exact mid7m0
      · exact mid8m0
      · exact mid9m0
      · exact mid10m0
      · exact mid11m0
      · exact mid12m0
    · rw [mid_congr (hm 1 h)]
      rcases hk' with rfl | rfl | rfl | rfl | rfl | rfl | rfl | rfl | rfl | rfl | rfl | rfl
      · exact mid1m1
      · exact mid2m1
      · exact mid3m1
      · exact mid4m1
      · exact mid5m1
      · exact mid6m1
      · exact mid7m1
      · exact mid8m1
      · exact mid9m1
      · exact mid10m1
      · exact mid11m1
      · exact mid12m1
    · rw [mid_congr (hm 2 h)]
      rcases hk' with rfl | rfl | rfl | rfl | rfl | rfl | rfl | rfl | rfl | rfl | rfl | rfl
      · exact mid1m2
      · exact mid2m2
      · exact mid3m2
      · exact mid4m2
      · exact mid5m2
      · exact mid6m2
      · exact mid7m2
      · exact mid8m2
      · exact mid9m2
      · exact mid10m2
      · exact mid11m2
      · exact mid12m2
    · rw [mid_congr (hm 3 h)]
      rcases hk' with rfl | rfl | rfl | rfl | rfl | rfl | rfl | rfl | rfl | rfl | rfl | rfl
      · exact mid1m3
      · exact mid2m3
      · exact mid3m3
      · exact mid4m3
      · exact mid5m3
      · exact mid6m3
      · exact mid7m3
      · exact mid8m3
      · exact mid9m3
      · exact mid10m3
      · exact mid11m3
      · exact mid12m3
    · rw [mid_congr (hm 4 h)]
      rcases hk' with rfl | rfl | rfl | rfl | rfl | rfl | rfl | rfl | rfl | rfl | rfl | rfl
      · exact mid1m4
      · exact mid2m4
      · exact mid3m4
      · exact mid4m4
      · exact mid5m4
      · exact mid6m4
      · exact mid7m4
      · exact mid8m4
      · exact mid9m4
      · exact mid10m4
      · exact mid11m4
      · exact mid12m4
    · rw [mid_congr (hm 5 h)]
      rcases hk' with rfl | rfl | rfl | rfl | rfl | rfl | rfl | rfl | rfl | rfl | rfl | rfl
      · exact mid1m5
      · exact mid2m5
      · exact mid3m5
      · exact mid4m5
      · exact mid5m5
      · exact mid6m5
      · exact mid7m5
      · exact mid8m5
      · exact mid9m5
      · exact mid10m5
      · exact mid11m5
      · exact mid12m5
  · unfold T_top_TopSphereMiddle
    have kw := k_Within k 1 12
    rw [r_bind, seen_ok, Option.bind_some]
    refine (br_f rfl).trans ?_
    refine (r_bs kw).trans ?_
    exact (br_t (by simp; omega)).trans (r_ret _)
end Go.Ab
