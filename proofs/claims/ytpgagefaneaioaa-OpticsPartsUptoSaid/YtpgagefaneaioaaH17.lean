/- OpticsParts answers true. -/
import Derived.Test.YtpgagefaneaioaaH5
import Derived.Test.YtpgagefaneaioaaG2
import Derived.Test.YtpgagefaneaioaaQLOpticsParts
namespace Go.Ab
open Go
set_option maxRecDepth 1000000
set_option maxHeartbeats 1000000
set_option linter.unusedVariables false
set_option linter.unusedSimpArgs false
attribute [local congr] bindC iterC

abbrev Q4 := Rat × Rat × Rat × Rat
def mq (m : Mx) : Q4 := (qr m.1, qr m.2.1, qr m.2.2.1, qr m.2.2.2)
def stepQ (m : Q4) (x : Int × Int) : Q4 :=
  if x.1 = 1 then (m.1 + x.2 * m.2.2.1, m.2.1 + x.2 * m.2.2.2, m.2.2.1, m.2.2.2)
  else (m.1, m.2.1, m.2.2.1 - qr (if x.1 = 2 then 2 else 1, 1) / x.2 * m.1, m.2.2.2 - qr (if x.1 = 2 then 2 else 1, 1) / x.2 * m.2.1)
def oneQ : Q4 := (1, 0, 0, 1)
def mulQ (n m : Q4) : Q4 := (n.1 * m.1 + n.2.1 * m.2.2.1, n.1 * m.2.1 + n.2.1 * m.2.2.2, n.2.2.1 * m.1 + n.2.2.2 * m.2.2.1, n.2.2.1 * m.2.1 + n.2.2.2 * m.2.2.2)
theorem q4 {a b c d a' b' c' d' : Rat} (h1 : a = a') (h2 : b = b') (h3 : c = c') (h4 : d = d') : ((a, b, c, d) : Q4) = (a', b', c', d') := by rw [h1, h2, h3, h4]
theorem one_mulQ (m : Q4) : mulQ oneQ m = m := by
  obtain ⟨a, b, c, d⟩ := m
  unfold mulQ oneQ
  exact q4 (by grind) (by grind) (by grind) (by grind)
theorem step_mulQ (n m : Q4) (x : Int × Int) : stepQ (mulQ n m) x = mulQ (stepQ n x) m := by
  obtain ⟨a, b, c, d⟩ := m
  unfold stepQ mulQ
  by_cases h : x.1 = 1
  · rw [if_pos h, if_pos h]
    exact q4 (by grind) (by grind) rfl rfl
  · rw [if_neg h, if_neg h]
    generalize qr (if x.1 = 2 then (2 : Int) else 1, (1 : Int)) / (x.2 : Rat) = p
    exact q4 rfl rfl (by grind) (by grind)
theorem fold_mulQ : ∀ (l : List (Int × Int)) (n m : Q4), l.foldl stepQ (mulQ n m) = mulQ (l.foldl stepQ n) m
  | [], _, _ => rfl
  | x :: l, n, m => by
    simp only [List.foldl_cons]
    rw [step_mulQ, fold_mulQ l]
theorem step_q {x : Int × Int} {m : Mx} {l : Bool} (hx : ElOk x) (hm : SmallM m) (h : stepL l x m = false) : l = false ∧ mq (stepV x m) = stepQ (mq m) x := by
  obtain ⟨m1, m2, m3, m4⟩ := hm
  obtain ⟨c1, c2, c3, c4⟩ := hx
  have sx : Small (x.2, 1) := small_one (by omega) (by omega)
  unfold stepL at h
  unfold stepV stepQ
  split at h
  · rename_i k
    rw [if_pos k, if_pos k]
    simp only [Bool.or_eq_false_iff] at h
    obtain ⟨⟨⟨⟨h0, h1⟩, h2⟩, h3⟩, h4⟩ := h
    refine ⟨h0, ?_⟩
    have e1 := qr_mul sx m3 h1
    have e2 := qr_add m1 (small_mulv _ _) h2
    have e3 := qr_mul sx m4 h3
    have e4 := qr_add m2 (small_mulv _ _) h4
    rw [qr_one] at e1 e3
    unfold mq
    dsimp only
    rw [e2, e4, e1, e3]
  · rename_i k
    rw [if_neg k, if_neg k]
    have sb : Small (if x.1 = 2 then 2 else 1, 1) := by split <;> exact small_one (by decide) (by decide)
    generalize (if x.1 = 2 then (2 : Int) else 1, (1 : Int)) = b at *
    simp only [Bool.or_eq_false_iff] at h
    obtain ⟨⟨⟨⟨⟨h0, h5⟩, h1⟩, h2⟩, h3⟩, h4⟩ := h
    refine ⟨h0, ?_⟩
    have e0 := (qr_quo sb sx h5).2
    have e1 := qr_mul (small_quov _ _) m1 h1
    have e2 := qr_sub m3 (small_mulv _ _) h2
    have e3 := qr_mul (small_quov _ _) m2 h3
    have e4 := qr_sub m4 (small_mulv _ _) h4
    rw [e0, qr_one] at e1 e3
    unfold mq
    dsimp only
    rw [e2, e4, e1, e3]
theorem mat_q {l : List (Int × Int)} (hx : ∀ i : Nat, i < l.length → ElOk (gi l i)) : ∀ n, n ≤ l.length → (matP l n).1 = false → mq (matP l n).2 = (l.take n).foldl stepQ oneQ
  | 0, _, _ => by
    simp only [List.take_zero, List.foldl_nil]
    unfold mq matP one4 oneQ
    dsimp only
    rw [qr_one, qr_one]
    exact q4 (by grind) (by grind) (by grind) (by grind)
  | n + 1, hn, h => by
    obtain ⟨h1, h2⟩ := step_q (l := (matP l n).1) (hx n (by omega)) (matP_small l n) h
    show mq (stepV (gi l n) (matP l n).2) = _
    rw [h2, mat_q hx n (by omega) h1, List.take_add_one, List.foldl_append]
    have : l[n]?.toList = [gi l (n : Int)] := by simp [gi, List.getD, List.getElem?_eq_getElem (show n < l.length by omega)]
    rw [this]
    rfl
theorem join_q {m n : Mx} (hm : SmallM m) (hn : SmallM n) (h : joinL m n = false) : mq (joinV m n) = mulQ (mq n) (mq m) := by
  obtain ⟨m1, m2, m3, m4⟩ := hm
  obtain ⟨n1, n2, n3, n4⟩ := hn
  simp only [joinL, Bool.or_eq_false_iff] at h
  obtain ⟨⟨⟨⟨⟨⟨⟨⟨⟨⟨⟨⟨_, a1⟩, a2⟩, a3⟩, b1⟩, b2⟩, b3⟩, c1⟩, c2⟩, c3⟩, d1⟩, d2⟩, d3⟩ := h
  unfold mq joinV mulQ
  dsimp only
  rw [qr_add (small_mulv _ _) (small_mulv _ _) a3, qr_mul n1 m1 a1, qr_mul n2 m3 a2, qr_add (small_mulv _ _) (small_mulv _ _) b3, qr_mul n1 m2 b1, qr_mul n2 m4 b2,
    qr_add (small_mulv _ _) (small_mulv _ _) c3, qr_mul n3 m1 c1, qr_mul n4 m3 c2, qr_add (small_mulv _ _) (small_mulv _ _) d3, qr_mul n3 m2 d1, qr_mul n4 m4 d2]
theorem mq_eq {m n : Mx} (hm : SmallM m) (hn : SmallM n) (h : mq m = mq n) : m = n := by
  obtain ⟨m1, m2, m3, m4⟩ := hm
  obtain ⟨n1, n2, n3, n4⟩ := hn
  unfold mq at h
  simp only [Prod.mk.injEq] at h
  exact Prod.ext (qr_eq m1.1 n1.1 h.1) (Prod.ext (qr_eq m2.1 n2.1 h.2.1) (Prod.ext (qr_eq m3.1 n3.1 h.2.2.1) (qr_eq m4.1 n4.1 h.2.2.2)))
theorem joinV_small (m n : Mx) : SmallM (joinV m n) := ⟨small_addv _ _, small_addv _ _, small_addv _ _, small_addv _ _⟩
/-- What MatrixOf answers: an error, or the matrix. -/
theorem k_MatAll {l : List (Int × Int)} (hl : l.length ≤ 1099511627776) : ∃ (m : Mx) (e : Int), optics_MatrixOf l = some ((m, e, ()), ()) ∧ (e = 0 → SmallM m ∧ mq m = l.foldl stepQ oneQ) := by
  by_cases c : elE l = 0
  · refine ⟨_, _, k_MatrixOf c, fun he => ?_⟩
    have hL : (matP l l.length).1 = false := by
      cases h : (matP l l.length).1 with
      | true => rw [h] at he; cases he
      | false => rfl
    have hm : matR l = (matP l l.length).2 := if_neg (by rw [hL]; decide)
    rw [hm]
    refine ⟨matP_small _ _, ?_⟩
    rw [mat_q (elE_ok c).2 l.length (Nat.le_refl _) hL, List.take_length]
  · exact ⟨_, _, k_MatrixOfE hl c, fun he => absurd he c⟩
theorem emod_eq' {a b : Int} (hb : 0 < b) : a % b = if a.tmod b < 0 then a.tmod b + b else a.tmod b := by
  have h1 := Int.tmod_add_mul_tdiv a b
  have h2 := Int.tmod_lt_of_pos a hb
  have h3 := Int.lt_tmod_of_pos a hb
  split
  · refine (Int.ediv_emod_unique (r := a.tmod b + b) (q := a.tdiv b - 1) hb).2 ⟨?_, by omega, by omega⟩ |>.2
    rw [Int.mul_sub]; omega
  · refine (Int.ediv_emod_unique (r := a.tmod b) (q := a.tdiv b) hb).2 ⟨h1, by omega, h2⟩ |>.2
theorem k_Mod {n b : Int} (hb : 0 < b) (hb' : b ≤ 9223372036854775807) : base_Mod n b = some ((n % b, ()), ()) := by
  have e := emod_eq' (a := n) hb
  have h2 := Int.tmod_lt_of_pos n hb
  have h3 := Int.lt_tmod_of_pos n hb
  have z : b ≠ 0 := by omega
  simp only [base_Mod, T_base_Mod]
  by_cases c : n.tmod b < 0
  · rw [if_pos c] at e
    simp (maxSteps := 1000000) (disch := first | omega | assumption) only [↓r_ret, ↓r_fail, ↓r_br, ↓r_bind, ↓r_iter, ↓r_req, decide_eq_true_eq, Bool.not_eq_eq_eq_not, decide_eq_false_iff_not, ite_not, inB_t', app_t', bnd_t', str_t', nz_t, Int.reduceEq, Int.reduceLT, Int.reduceLE, w64', Option.bind_some, Option.bind_none, List.length_cons, List.length_nil, List.length_append, Nat.zero_add, if_pos, if_neg, decide_true, decide_false, if_true, if_false, Bool.not_true, Bool.not_false, Bool.false_eq_true, Bool.true_eq_false, not_true_eq_false, not_false_eq_true, ↓reduceIte, List.nil_append, c, z, e]
  · rw [if_neg c] at e
    simp (maxSteps := 1000000) (disch := first | omega | assumption) only [↓r_ret, ↓r_fail, ↓r_br, ↓r_bind, ↓r_iter, ↓r_req, decide_eq_true_eq, Bool.not_eq_eq_eq_not, decide_eq_false_iff_not, ite_not, inB_t', app_t', bnd_t', str_t', nz_t, Int.reduceEq, Int.reduceLT, Int.reduceLE, w64', Option.bind_some, Option.bind_none, List.length_cons, List.length_nil, List.length_append, Nat.zero_add, if_pos, if_neg, decide_true, decide_false, if_true, if_false, Bool.not_true, Bool.not_false, Bool.false_eq_true, Bool.true_eq_false, not_true_eq_false, not_false_eq_true, ↓reduceIte, List.nil_append, c, z, e]
theorem parts_app {α : Type} {l : List α} {k : Int} (h0 : 0 ≤ k) (h1 : k ≤ l.length) : part l 0 k ++ part l k l.length = l := by
  simp only [part, Int.toNat_zero, List.drop_zero, Int.toNat_natCast, List.take_length]
  exact List.take_append_drop _ _

theorem k_OpticsParts {l : List ((Int × Int))} {at_ : Int} (b0 : bulkT (.list (.pair (.int .i64) (.int .i64))) l ≤ 1048576) (w0 : wfT (.list (.pair (.int .i64) (.int .i64))) l) (b1 : bulkT (.int .i64) at_ ≤ 1048576) (w1 : wfT (.int .i64) at_) : law02xOpticsParts l at_ = some ((true, ()), ()) := by
  simp only [law02xOpticsParts, T_law02xOpticsParts]
  by_cases c : 8 < l.length
  · have c' : (8 : Int) < l.length := by omega
    simp (maxSteps := 1000000) (disch := first | omega | assumption) only [↓r_ret, ↓r_fail, ↓r_br, ↓r_bind, ↓r_iter, ↓r_req, decide_eq_true_eq, Bool.not_eq_eq_eq_not, decide_eq_false_iff_not, ite_not, inB_t', app_t', bnd_t', str_t', nz_t, Int.reduceEq, Int.reduceLT, Int.reduceLE, w64', Option.bind_some, Option.bind_none, List.length_cons, List.length_nil, List.length_append, Nat.zero_add, if_pos, if_neg, decide_true, decide_false, if_true, if_false, Bool.not_true, Bool.not_false, Bool.false_eq_true, Bool.true_eq_false, not_true_eq_false, not_false_eq_true, ↓reduceIte, List.nil_append, awake_ok, c']
  · have c' : ¬ (8 : Int) < l.length := by omega
    have km := k_Mod (n := at_) (b := (l.length : Int) + 1) (by omega) (by omega)
    have k0 : 0 ≤ at_ % ((l.length : Int) + 1) := Int.emod_nonneg _ (by omega)
    have k1 : at_ % ((l.length : Int) + 1) < (l.length : Int) + 1 := Int.emod_lt_of_pos _ (by omega)
    have e1 : IntKind.i64.wrap ((l.length : Int) + 1) = (l.length : Int) + 1 := w64' (by omega) (by omega)
    generalize at_ % ((l.length : Int) + 1) = k at *
    have hp := parts_app (l := l) k0 (by omega)
    have hl := congrArg List.length hp
    rw [List.length_append] at hl
    obtain ⟨m, e, q1, s1⟩ := k_MatAll (l := l) (by omega)
    obtain ⟨a, f, q2, s2⟩ := k_MatAll (l := part l 0 k) (by omega)
    obtain ⟨b, g, q3, s3⟩ := k_MatAll (l := part l k l.length) (by omega)
    by_cases d1 : e = 0
    · by_cases d2 : f = 0
      · by_cases d3 : g = 0
        · obtain ⟨s1, t1⟩ := s1 d1
          obtain ⟨s2, t2⟩ := s2 d2
          obtain ⟨s3, t3⟩ := s3 d3
          have kj := k_Join s2 s3 ⟨s2.1.i, s2.2.1.i, s2.2.2.1.i, s2.2.2.2.i⟩ ⟨s3.1.i, s3.2.1.i, s3.2.2.1.i, s3.2.2.2.i⟩
          unfold joinR at kj
          cases hL : joinL a b with
          | true =>
            rw [hL, if_pos rfl, show e8 true = 8 from rfl] at kj
            simp (maxSteps := 1000000) (disch := first | omega | assumption) only [↓r_ret, ↓r_fail, ↓r_br, ↓r_bind, ↓r_iter, ↓r_req, decide_eq_true_eq, Bool.not_eq_eq_eq_not, decide_eq_false_iff_not, ite_not, inB_t', app_t', bnd_t', str_t', nz_t, Int.reduceEq, Int.reduceLT, Int.reduceLE, w64', Option.bind_some, Option.bind_none, List.length_cons, List.length_nil, List.length_append, Nat.zero_add, if_pos, if_neg, decide_true, decide_false, if_true, if_false, Bool.not_true, Bool.not_false, Bool.false_eq_true, Bool.true_eq_false, not_true_eq_false, not_false_eq_true, ↓reduceIte, List.nil_append, awake_ok, c', e1, km, q1, q2, q3, d1, d2, d3, kj, eta2]
          | false =>
            have hj : joinV a b = m := by
              refine mq_eq (joinV_small a b) s1 ?_
              rw [join_q s2 s3 hL, t1, t2, t3, ← fold_mulQ, one_mulQ, ← List.foldl_append, hp]
            rw [hL, if_neg (by decide), show e8 false = 0 from rfl, hj] at kj
            simp (maxSteps := 1000000) (disch := first | omega | assumption) only [↓r_ret, ↓r_fail, ↓r_br, ↓r_bind, ↓r_iter, ↓r_req, decide_eq_true_eq, Bool.not_eq_eq_eq_not, decide_eq_false_iff_not, ite_not, inB_t', app_t', bnd_t', str_t', nz_t, Int.reduceEq, Int.reduceLT, Int.reduceLE, w64', Option.bind_some, Option.bind_none, List.length_cons, List.length_nil, List.length_append, Nat.zero_add, if_pos, if_neg, decide_true, decide_false, if_true, if_false, Bool.not_true, Bool.not_false, Bool.false_eq_true, Bool.true_eq_false, not_true_eq_false, not_false_eq_true, ↓reduceIte, List.nil_append, awake_ok, c', e1, km, q1, q2, q3, d1, d2, d3, kj, eta2, Bool.and_self]
        · simp (maxSteps := 1000000) (disch := first | omega | assumption) only [↓r_ret, ↓r_fail, ↓r_br, ↓r_bind, ↓r_iter, ↓r_req, decide_eq_true_eq, Bool.not_eq_eq_eq_not, decide_eq_false_iff_not, ite_not, inB_t', app_t', bnd_t', str_t', nz_t, Int.reduceEq, Int.reduceLT, Int.reduceLE, w64', Option.bind_some, Option.bind_none, List.length_cons, List.length_nil, List.length_append, Nat.zero_add, if_pos, if_neg, decide_true, decide_false, if_true, if_false, Bool.not_true, Bool.not_false, Bool.false_eq_true, Bool.true_eq_false, not_true_eq_false, not_false_eq_true, ↓reduceIte, List.nil_append, awake_ok, c', e1, km, q1, q2, q3, d1, d2, d3, eta2]
      · simp (maxSteps := 1000000) (disch := first | omega | assumption) only [↓r_ret, ↓r_fail, ↓r_br, ↓r_bind, ↓r_iter, ↓r_req, decide_eq_true_eq, Bool.not_eq_eq_eq_not, decide_eq_false_iff_not, ite_not, inB_t', app_t', bnd_t', str_t', nz_t, Int.reduceEq, Int.reduceLT, Int.reduceLE, w64', Option.bind_some, Option.bind_none, List.length_cons, List.length_nil, List.length_append, Nat.zero_add, if_pos, if_neg, decide_true, decide_false, if_true, if_false, Bool.not_true, Bool.not_false, Bool.false_eq_true, Bool.true_eq_false, not_true_eq_false, not_false_eq_true, ↓reduceIte, List.nil_append, awake_ok, c', e1, km, q1, q2, q3, d1, d2, eta2]
    · simp (maxSteps := 1000000) (disch := first | omega | assumption) only [↓r_ret, ↓r_fail, ↓r_br, ↓r_bind, ↓r_iter, ↓r_req, decide_eq_true_eq, Bool.not_eq_eq_eq_not, decide_eq_false_iff_not, ite_not, inB_t', app_t', bnd_t', str_t', nz_t, Int.reduceEq, Int.reduceLT, Int.reduceLE, w64', Option.bind_some, Option.bind_none, List.length_cons, List.length_nil, List.length_append, Nat.zero_add, if_pos, if_neg, decide_true, decide_false, if_true, if_false, Bool.not_true, Bool.not_false, Bool.false_eq_true, Bool.true_eq_false, not_true_eq_false, not_false_eq_true, ↓reduceIte, List.nil_append, awake_ok, c', e1, km, q1, q2, q3, d1, eta2]
end Go.Ab
