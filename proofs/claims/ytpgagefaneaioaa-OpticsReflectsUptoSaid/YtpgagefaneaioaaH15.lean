/- OpticsReflects answers true. -/
import Derived.Test.YtpgagefaneaioaaH14
import Derived.Test.YtpgagefaneaioaaR1
import Derived.Test.YtpgagefaneaioaaQLOpticsReflects
namespace Go.Ab
open Go
set_option maxRecDepth 1000000
set_option maxHeartbeats 1000000
set_option linter.unusedVariables false
set_option linter.unusedSimpArgs false
attribute [local congr] bindC iterC
theorem k_OpticsReflects {c : (Int × (Int × Int))} {p : ((Int × Int) × (Int × Int))} {toward : (Int × Int)} (b0 : bulkT (.pair (.int .i64) (.pair (.int .i64) (.int .i64))) c ≤ 1048576) (w0 : wfT (.pair (.int .i64) (.pair (.int .i64) (.int .i64))) c) (b1 : bulkT (.pair (.pair (.int .i64) (.int .i64)) (.pair (.int .i64) (.int .i64))) p ≤ 1048576) (w1 : wfT (.pair (.pair (.int .i64) (.int .i64)) (.pair (.int .i64) (.int .i64))) p) (b2 : bulkT (.pair (.int .i64) (.int .i64)) toward ≤ 1048576) (w2 : wfT (.pair (.int .i64) (.int .i64)) toward) : law02xOpticsReflects c p toward = some ((true, ()), ()) := by
  have i1 : I64 c.2.1 := w0.2.1
  have i2 : I64 c.2.2 := w0.2.2
  have j1 : IF p.1 := w1.1
  have j2 : IF p.2 := w1.2
  have kr := k_rCheckRays i1 i2
  have ks := k_CheckSpot j1 j2
  have kt := k_CheckToward toward
  simp only [law02xOpticsReflects, T_law02xOpticsReflects]
  by_cases h : raE c = 0
  · by_cases hp : spE p = 0
    · obtain ⟨h1, h2⟩ := spE_ok hp
      have ko := k_OnConic h h1 h2 i1 i2
      have kq := k_rOnConic h h1 h2
      generalize onB c p = x1 at *
      generalize e8 (offL c p) = x2 at *
      by_cases ht : twE toward = 0
      · have k1 := k_Reflect h h1 h2 ht i1 i2
        have k2 := k_rReflect h h1 h2 ht
        generalize refR c p toward = R at *
        simp (maxSteps := 1000000) (disch := first | omega | assumption) only [↓r_ret, ↓r_fail, ↓r_br, ↓r_bind, ↓r_iter, ↓r_req, decide_eq_true_eq, Bool.not_eq_eq_eq_not, decide_eq_false_iff_not, ite_not, inB_t', app_t', bnd_t', str_t', nz_t, Int.reduceEq, Int.reduceLT, Int.reduceLE, w64', Option.bind_some, Option.bind_none, List.length_cons, List.length_nil, List.length_append, Nat.zero_add, if_pos, if_neg, decide_true, decide_false, if_true, if_false, Bool.not_true, Bool.not_false, Bool.false_eq_true, Bool.true_eq_false, not_true_eq_false, not_false_eq_true, ↓reduceIte, List.nil_append, awake_ok, eta2, kr, ks, kt, h, hp, ht, ko, kq, k1, k2, Bool.and_self, bne_self_eq_false]
      · have k1 := k_ReflectE (tw := toward) j1 j2 i1 i2 (fun hh => ht hh.2.2)
        rw [if_neg (by rw [h]; decide), if_neg (by rw [hp]; decide)] at k1
        simp (maxSteps := 1000000) (disch := first | omega | assumption) only [↓r_ret, ↓r_fail, ↓r_br, ↓r_bind, ↓r_iter, ↓r_req, decide_eq_true_eq, Bool.not_eq_eq_eq_not, decide_eq_false_iff_not, ite_not, inB_t', app_t', bnd_t', str_t', nz_t, Int.reduceEq, Int.reduceLT, Int.reduceLE, w64', Option.bind_some, Option.bind_none, List.length_cons, List.length_nil, List.length_append, Nat.zero_add, if_pos, if_neg, decide_true, decide_false, if_true, if_false, Bool.not_true, Bool.not_false, Bool.false_eq_true, Bool.true_eq_false, not_true_eq_false, not_false_eq_true, ↓reduceIte, List.nil_append, awake_ok, eta2, kr, ks, kt, h, hp, ht, ko, kq, k1, z22, Bool.and_self, bne_self_eq_false]
    · have ko := k_OnConicE2 h j1 j2 hp i1 i2
      have k1 := k_ReflectE (tw := toward) j1 j2 i1 i2 (fun hh => hp hh.2.1)
      rw [if_neg (by rw [h]; decide), if_pos hp] at k1
      simp (maxSteps := 1000000) (disch := first | omega | assumption) only [↓r_ret, ↓r_fail, ↓r_br, ↓r_bind, ↓r_iter, ↓r_req, decide_eq_true_eq, Bool.not_eq_eq_eq_not, decide_eq_false_iff_not, ite_not, inB_t', app_t', bnd_t', str_t', nz_t, Int.reduceEq, Int.reduceLT, Int.reduceLE, w64', Option.bind_some, Option.bind_none, List.length_cons, List.length_nil, List.length_append, Nat.zero_add, if_pos, if_neg, decide_true, decide_false, if_true, if_false, Bool.not_true, Bool.not_false, Bool.false_eq_true, Bool.true_eq_false, not_true_eq_false, not_false_eq_true, ↓reduceIte, List.nil_append, awake_ok, eta2, kr, ks, h, hp, ko, k1, z22, Bool.and_self]
  · have ko := k_OnConicE (p := p) h i1 i2
    have k1 := k_ReflectE (tw := toward) j1 j2 i1 i2 (fun hh => h hh.1)
    rw [if_pos h] at k1
    simp (maxSteps := 1000000) (disch := first | omega | assumption) only [↓r_ret, ↓r_fail, ↓r_br, ↓r_bind, ↓r_iter, ↓r_req, decide_eq_true_eq, Bool.not_eq_eq_eq_not, decide_eq_false_iff_not, ite_not, inB_t', app_t', bnd_t', str_t', nz_t, Int.reduceEq, Int.reduceLT, Int.reduceLE, w64', Option.bind_some, Option.bind_none, List.length_cons, List.length_nil, List.length_append, Nat.zero_add, if_pos, if_neg, decide_true, decide_false, if_true, if_false, Bool.not_true, Bool.not_false, Bool.false_eq_true, Bool.true_eq_false, not_true_eq_false, not_false_eq_true, ↓reduceIte, List.nil_append, awake_ok, eta2, kr, h, ko, k1, z22, Bool.and_self]
end Go.Ab
