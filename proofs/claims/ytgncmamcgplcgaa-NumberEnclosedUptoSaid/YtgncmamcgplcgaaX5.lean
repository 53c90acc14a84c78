/- NumberEnclosed. -/
import Derived.Test.YtgncmamcgplcgaaR1
import Derived.Test.YtgncmamcgplcgaaSG
import Derived.Test.YtgncmamcgplcgaaQLNumberEnclosed
namespace Go.Ab
open Go
set_option maxRecDepth 1000000
set_option maxHeartbeats 1000000
set_option linter.unusedVariables false
set_option linter.unusedSimpArgs false

theorem k_NumberEnclosed {p : List (Int)} {x : ((Int × Int) × ((Int × Int) × Int))} (b0 : bulkT (.list (.int .i64)) p ≤ 1048576) (w0 : wfT (.list (.int .i64)) p) (b1 : bulkT (.pair (.pair (.int .i64) (.int .i64)) (.pair (.pair (.int .i64) (.int .i64)) (.int .i64))) x ≤ 1048576) (w1 : wfT (.pair (.pair (.int .i64) (.int .i64)) (.pair (.pair (.int .i64) (.int .i64)) (.int .i64))) x) : law01xNumberEnclosed p x = some ((true, ()), ()) := by
  have hp : p.length ≤ 1048576 := by
    exact Nat.le_trans (bulk_len (a := .int .i64) (by decide)) b0
  obtain ⟨⟨l1, l2⟩, ⟨h1, h2⟩, t⟩ := x
  have i1 : I64 l1 := w1.1.1
  have i2 : I64 l2 := w1.1.2
  have i3 : I64 h1 := w1.2.1.1
  have i4 : I64 h2 := w1.2.1.2
  show (T_law01xNumberEnclosed p ((l1, l2), (h1, h2), t)).run = _
  unfold T_law01xNumberEnclosed
  rw [r_bind, awake_ok, Option.bind_some]
  refine (br_f rfl).trans ?_
  obtain ⟨b, kb⟩ := k_low p
  refine (r_bs kb).trans ?_
  cases b with
  | false => exact (br_t rfl).trans (r_ret _)
  | true =>
    refine (br_f rfl).trans ?_
    refine (r_bs (k_CopyInts hp)).trans ?_
    by_cases h : bdE p (l1, l2) (h1, h2) = 0
    · by_cases ht : 1 ≤ t ∧ t ≤ 1000000
      · obtain ⟨e, c1, r, k1, ri⟩ := k_RootIn (lo := (l1, l2)) (hi := (h1, h2)) i1 i2 i3 i4 h ht.1 ht.2
        obtain ⟨q1, q2, q3, q4⟩ := bdE_zero (lo := (l1, l2)) (hi := (h1, h2)) i1 i2 i3 i4 h
        obtain ⟨e', c2, r', k2, ri'⟩ := k_rRootIn q1 q2 q3 q4 ht.1 ht.2
        have := c1.uniq c2
        subst this
        have := ri.uniq ri'
        subst this
        refine (r_bs k1).trans ?_
        refine (r_bs (k_bounds (lo := (l1, l2)) (hi := (h1, h2)) i1 i2 i3 i4)).trans ?_
        refine (br_t (decide_eq_true h)).trans ?_
        refine (r_bs (k_Within t 1 1000000)).trans ?_
        refine (br_f (nd ht)).trans ?_
        refine (br_f (nd h)).trans ?_
        refine (r_bs k2).trans ?_
        refine (br_t (decide_eq_true rfl)).trans ?_
        refine (r_ret _).trans ?_
        rw [same2']
      · refine (r_bs (k_RootIn_t (lo := (l1, l2)) (hi := (h1, h2)) i1 i2 i3 i4 h ht)).trans ?_
        refine (r_bs (k_bounds (lo := (l1, l2)) (hi := (h1, h2)) i1 i2 i3 i4)).trans ?_
        refine (br_t (decide_eq_true h)).trans ?_
        refine (r_bs (k_Within t 1 1000000)).trans ?_
        refine (br_t (nd' ht)).trans ?_
        refine (br_t rfl).trans ?_
        refine (br_t (decide_eq_true rfl)).trans ?_
        exact r_ret _
    · refine (r_bs (k_RootIn_e (lo := (l1, l2)) (hi := (h1, h2)) i1 i2 i3 i4 h)).trans ?_
      refine (r_bs (k_bounds (lo := (l1, l2)) (hi := (h1, h2)) i1 i2 i3 i4)).trans ?_
      refine (br_f (decide_eq_false h)).trans ?_
      refine (br_t (nd' h)).trans ?_
      refine (br_t (decide_eq_true rfl)).trans ?_
      exact r_ret _
end Go.Ab
