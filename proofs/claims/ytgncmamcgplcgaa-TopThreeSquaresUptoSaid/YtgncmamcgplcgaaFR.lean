/- NumberRoots. -/
import Derived.Test.YtgncmamcgplcgaaF4
namespace Go.Ab
open Go
set_option maxRecDepth 1000000
set_option maxHeartbeats 1000000
set_option linter.unusedVariables false
set_option linter.unusedSimpArgs false
attribute [local congr] bindC iterC

/-- The table of the lengths of bytes. -/
def tab : List UInt8 := [0, 1, 2, 2, 3, 3, 3, 3, 4, 4, 4, 4, 4, 4, 4, 4, 5, 5, 5, 5, 5, 5, 5, 5, 5, 5, 5, 5, 5, 5, 5, 5, 6, 6, 6, 6, 6, 6, 6, 6, 6, 6, 6, 6, 6, 6, 6, 6, 6, 6, 6, 6, 6, 6, 6, 6, 6, 6, 6, 6, 6, 6, 6, 6, 7, 7, 7, 7, 7, 7, 7, 7, 7, 7, 7, 7, 7, 7, 7, 7, 7, 7, 7, 7, 7, 7, 7, 7, 7, 7, 7, 7, 7, 7, 7, 7, 7, 7, 7, 7, 7, 7, 7, 7, 7, 7, 7, 7, 7, 7, 7, 7, 7, 7, 7, 7, 7, 7, 7, 7, 7, 7, 7, 7, 7, 7, 7, 7, 8, 8, 8, 8, 8, 8, 8, 8, 8, 8, 8, 8, 8, 8, 8, 8, 8, 8, 8, 8, 8, 8, 8, 8, 8, 8, 8, 8, 8, 8, 8, 8, 8, 8, 8, 8, 8, 8, 8, 8, 8, 8, 8, 8, 8, 8, 8, 8, 8, 8, 8, 8, 8, 8, 8, 8, 8, 8, 8, 8, 8, 8, 8, 8, 8, 8, 8, 8, 8, 8, 8, 8, 8, 8, 8, 8, 8, 8, 8, 8, 8, 8, 8, 8, 8, 8, 8, 8, 8, 8, 8, 8, 8, 8, 8, 8, 8, 8, 8, 8, 8, 8, 8, 8, 8, 8, 8, 8, 8, 8, 8, 8, 8, 8, 8, 8, 8, 8, 8, 8, 8, 8, 8, 8, 8, 8, 8, 8]
theorem tab_ok : ∀ y : Fin 256, (gi tab (y.val : Int)).toNat ≤ 8 ∧ y.val < 2 ^ (gi tab (y.val : Int)).toNat := by decide +kernel
def LenT (t : List UInt8) (x : Int) : Tr (((Int × Unit) × Unit)) := .br (decide ((4294967296 : Int) ≤ x)) (.req (nneg (32 : Int)) (.br (decide ((65536 : Int) ≤ Int.fdiv x ((2 : Int) ^ (32 : Nat)))) (.req (nneg (16 : Int)) (.br (decide ((256 : Int) ≤ (Int.fdiv x ((2 : Int) ^ (32 : Nat))).fdiv ((2 : Int) ^ (16 : Nat)))) (.req (nneg (8 : Int)) (.req (inB (IntKind.u8.wrap (((Int.fdiv x ((2 : Int) ^ (32 : Nat))).fdiv ((2 : Int) ^ (16 : Nat))).fdiv ((2 : Int) ^ (8 : Nat)))) ((256 : Nat))) (.ret (((IntKind.i64.wrap (IntKind.i64.wrap (IntKind.i64.wrap ((32 : Int) + (16 : Int)) + (8 : Int)) + IntKind.i64.wrap (↑(gi t (IntKind.u8.wrap (((Int.fdiv x ((2 : Int) ^ (32 : Nat))).fdiv ((2 : Int) ^ (16 : Nat))).fdiv ((2 : Int) ^ (8 : Nat))))).toNat : Int))), ()), ())))) (.req (inB (IntKind.u8.wrap ((Int.fdiv x ((2 : Int) ^ (32 : Nat))).fdiv ((2 : Int) ^ (16 : Nat)))) ((256 : Nat))) (.ret (((IntKind.i64.wrap (IntKind.i64.wrap ((32 : Int) + (16 : Int)) + IntKind.i64.wrap (↑(gi t (IntKind.u8.wrap ((Int.fdiv x ((2 : Int) ^ (32 : Nat))).fdiv ((2 : Int) ^ (16 : Nat))))).toNat : Int))), ()), ()))))) (.br (decide ((256 : Int) ≤ Int.fdiv x ((2 : Int) ^ (32 : Nat)))) (.req (nneg (8 : Int)) (.req (inB (IntKind.u8.wrap ((Int.fdiv x ((2 : Int) ^ (32 : Nat))).fdiv ((2 : Int) ^ (8 : Nat)))) ((256 : Nat))) (.ret (((IntKind.i64.wrap (IntKind.i64.wrap ((32 : Int) + (8 : Int)) + IntKind.i64.wrap (↑(gi t (IntKind.u8.wrap ((Int.fdiv x ((2 : Int) ^ (32 : Nat))).fdiv ((2 : Int) ^ (8 : Nat))))).toNat : Int))), ()), ())))) (.req (inB (IntKind.u8.wrap (Int.fdiv x ((2 : Int) ^ (32 : Nat)))) ((256 : Nat))) (.ret (((IntKind.i64.wrap ((32 : Int) + IntKind.i64.wrap (↑(gi t (IntKind.u8.wrap (Int.fdiv x ((2 : Int) ^ (32 : Nat))))).toNat : Int))), ()), ())))))) (.br (decide ((65536 : Int) ≤ x)) (.req (nneg (16 : Int)) (.br (decide ((256 : Int) ≤ Int.fdiv x ((2 : Int) ^ (16 : Nat)))) (.req (nneg (8 : Int)) (.req (inB (IntKind.u8.wrap ((Int.fdiv x ((2 : Int) ^ (16 : Nat))).fdiv ((2 : Int) ^ (8 : Nat)))) ((256 : Nat))) (.ret (((IntKind.i64.wrap (IntKind.i64.wrap (IntKind.i64.wrap ((0 : Int) + (16 : Int)) + (8 : Int)) + IntKind.i64.wrap (↑(gi t (IntKind.u8.wrap ((Int.fdiv x ((2 : Int) ^ (16 : Nat))).fdiv ((2 : Int) ^ (8 : Nat))))).toNat : Int))), ()), ())))) (.req (inB (IntKind.u8.wrap (Int.fdiv x ((2 : Int) ^ (16 : Nat)))) ((256 : Nat))) (.ret (((IntKind.i64.wrap (IntKind.i64.wrap ((0 : Int) + (16 : Int)) + IntKind.i64.wrap (↑(gi t (IntKind.u8.wrap (Int.fdiv x ((2 : Int) ^ (16 : Nat))))).toNat : Int))), ()), ()))))) (.br (decide ((256 : Int) ≤ x)) (.req (nneg (8 : Int)) (.req (inB (IntKind.u8.wrap (Int.fdiv x ((2 : Int) ^ (8 : Nat)))) ((256 : Nat))) (.ret (((IntKind.i64.wrap (IntKind.i64.wrap ((0 : Int) + (8 : Int)) + IntKind.i64.wrap (↑(gi t (IntKind.u8.wrap (Int.fdiv x ((2 : Int) ^ (8 : Nat))))).toNat : Int))), ()), ())))) (.req (inB (IntKind.u8.wrap x) ((256 : Nat))) (.ret (((IntKind.i64.wrap ((0 : Int) + IntKind.i64.wrap (↑(gi t (IntKind.u8.wrap x)).toNat : Int))), ()), ())))))
theorem LenT_eq (x : Int) : T_math_bits_Len64 x = LenT tab x := by kernel_rfl
theorem leaf {t : List UInt8} (ht : ∀ y : Fin 256, (gi t (y.val : Int)).toNat ≤ 8 ∧ y.val < 2 ^ (gi t (y.val : Int)).toNat) {x z : Int} (s : Nat) (hs : s ≤ 56) (hz0 : 0 ≤ z) (hz : z < 256) (hx : x < (z + 1) * 2 ^ s) :
    inB (IntKind.u8.wrap z) 256 = true ∧ ∃ L : Int, IntKind.i64.wrap ((s : Int) + IntKind.i64.wrap ((gi t (IntKind.u8.wrap z)).toNat : Int)) = L ∧ 0 ≤ L ∧ L ≤ 64 ∧ x < 2 ^ L.toNat := by
  have e0 : IntKind.u8.wrap z = z := by
    show z % 256 = z
    omega
  rw [e0]
  refine ⟨inB_t' hz0 hz, ?_⟩
  obtain ⟨h1, h2⟩ := ht ⟨z.toNat, by omega⟩
  have e1 : ((z.toNat : Nat) : Int) = z := Int.toNat_of_nonneg hz0
  simp only [e1] at h1 h2
  generalize (gi t z).toNat = k at *
  have e2 : IntKind.i64.wrap (k : Int) = k := w64' (by omega) (by omega)
  rw [e2]
  refine ⟨(s : Int) + k, w64' (by omega) (by omega), by omega, by omega, ?_⟩
  rw [show ((s : Int) + k).toNat = k + s by omega, Int.pow_add]
  have h3 : z + 1 ≤ ((2 ^ k : Nat) : Int) := by omega
  have h4 : ((2 ^ k : Nat) : Int) = (2 : Int) ^ k := Int.natCast_pow 2 k
  have h5 : (0 : Int) ≤ 2 ^ s := Int.pow_nonneg (by decide)
  have := Int.mul_le_mul_of_nonneg_right (c := (2 : Int) ^ s) (show z + 1 ≤ (2 : Int) ^ k by omega) h5
  omega
theorem k_Len64 {x : Int} (h0 : 0 ≤ x) (h1 : x ≤ 9223372036854775807) : ∃ L : Int, math_bits_Len64 x = some ((L, ()), ()) ∧ 0 ≤ L ∧ L ≤ 64 ∧ x < 2 ^ L.toNat := by
  simp only [math_bits_Len64, LenT_eq]
  have p8 : (2 : Int) ^ (8 : Nat) = 256 := by decide
  have p16 : (2 : Int) ^ (16 : Nat) = 65536 := by decide
  have p32 : (2 : Int) ^ (32 : Nat) = 4294967296 := by decide
  have n8 : nneg (8 : Int) = true := by decide
  have n16 : nneg (16 : Int) = true := by decide
  have n32 : nneg (32 : Int) = true := by decide
  have d8 : ∀ y : Int, y.fdiv 256 = y / 256 := fun y => Int.fdiv_eq_ediv_of_nonneg _ (by decide)
  have d16 : ∀ y : Int, y.fdiv 65536 = y / 65536 := fun y => Int.fdiv_eq_ediv_of_nonneg _ (by decide)
  have d32 : ∀ y : Int, y.fdiv 4294967296 = y / 4294967296 := fun y => Int.fdiv_eq_ediv_of_nonneg _ (by decide)
  have ht := tab_ok
  generalize tab = t at ht
  simp only [LenT, p8, p16, p32, d8, d16, d32]
  by_cases c1 : 4294967296 ≤ x
  · by_cases c2 : 65536 ≤ x / 4294967296
    · by_cases c3 : 256 ≤ x / 4294967296 / 65536
      · obtain ⟨a, L, e, b1, b2, b3⟩ := leaf ht (x := x) (z := x / 4294967296 / 65536 / 256) 56 (by decide) (by omega) (by omega) (by omega)
        refine ⟨L, ?_, b1, b2, b3⟩
        rw [← e]
        refine (br_t (decide_eq_true c1)).trans ((q_of n32).trans ((br_t (decide_eq_true c2)).trans ((q_of n16).trans ((br_t (decide_eq_true c3)).trans ((q_of n8).trans ((q_of a).trans (r_ret _)))))))
      · obtain ⟨a, L, e, b1, b2, b3⟩ := leaf ht (x := x) (z := x / 4294967296 / 65536) 48 (by decide) (by omega) (by omega) (by omega)
        refine ⟨L, ?_, b1, b2, b3⟩
        rw [← e]
        refine (br_t (decide_eq_true c1)).trans ((q_of n32).trans ((br_t (decide_eq_true c2)).trans ((q_of n16).trans ((br_f (decide_eq_false c3)).trans ((q_of a).trans (r_ret _))))))
    · by_cases c3 : 256 ≤ x / 4294967296
      · obtain ⟨a, L, e, b1, b2, b3⟩ := leaf ht (x := x) (z := x / 4294967296 / 256) 40 (by decide) (by omega) (by omega) (by omega)
        refine ⟨L, ?_, b1, b2, b3⟩
        rw [← e]
        refine (br_t (decide_eq_true c1)).trans ((q_of n32).trans ((br_f (decide_eq_false c2)).trans ((br_t (decide_eq_true c3)).trans ((q_of n8).trans ((q_of a).trans (r_ret _))))))
      · obtain ⟨a, L, e, b1, b2, b3⟩ := leaf ht (x := x) (z := x / 4294967296) 32 (by decide) (by omega) (by omega) (by omega)
        refine ⟨L, ?_, b1, b2, b3⟩
        rw [← e]
        refine (br_t (decide_eq_true c1)).trans ((q_of n32).trans ((br_f (decide_eq_false c2)).trans ((br_f (decide_eq_false c3)).trans ((q_of a).trans (r_ret _)))))
  · by_cases c2 : 65536 ≤ x
    · by_cases c3 : 256 ≤ x / 65536
      · obtain ⟨a, L, e, b1, b2, b3⟩ := leaf ht (x := x) (z := x / 65536 / 256) 24 (by decide) (by omega) (by omega) (by omega)
        refine ⟨L, ?_, b1, b2, b3⟩
        rw [← e]
        refine (br_f (decide_eq_false c1)).trans ((br_t (decide_eq_true c2)).trans ((q_of n16).trans ((br_t (decide_eq_true c3)).trans ((q_of n8).trans ((q_of a).trans (r_ret _))))))
      · obtain ⟨a, L, e, b1, b2, b3⟩ := leaf ht (x := x) (z := x / 65536) 16 (by decide) (by omega) (by omega) (by omega)
        refine ⟨L, ?_, b1, b2, b3⟩
        rw [← e]
        refine (br_f (decide_eq_false c1)).trans ((br_t (decide_eq_true c2)).trans ((q_of n16).trans ((br_f (decide_eq_false c3)).trans ((q_of a).trans (r_ret _)))))
    · by_cases c3 : 256 ≤ x
      · obtain ⟨a, L, e, b1, b2, b3⟩ := leaf ht (x := x) (z := x / 256) 8 (by decide) (by omega) (by omega) (by omega)
        refine ⟨L, ?_, b1, b2, b3⟩
        rw [← e]
        refine (br_f (decide_eq_false c1)).trans ((br_f (decide_eq_false c2)).trans ((br_t (decide_eq_true c3)).trans ((q_of n8).trans ((q_of a).trans (r_ret _)))))
      · obtain ⟨a, L, e, b1, b2, b3⟩ := leaf ht (x := x) (z := x) 0 (by decide) (by omega) (by omega) (by omega)
        refine ⟨L, ?_, b1, b2, b3⟩
        rw [← e]
        refine (br_f (decide_eq_false c1)).trans ((br_f (decide_eq_false c2)).trans ((br_f (decide_eq_false c3)).trans ((q_of a).trans (r_ret _))))
theorem k_Len {x : Int} (h0 : 0 ≤ x) (h1 : x ≤ 9223372036854775807) : ∃ L : Int, math_bits_Len x = some ((L, ()), ()) ∧ 0 ≤ L ∧ L ≤ 64 ∧ x < 2 ^ L.toNat := by
  obtain ⟨L, h, r⟩ := k_Len64 h0 h1
  refine ⟨L, ?_, r⟩
  simp only [math_bits_Len, T_math_bits_Len]
  simp (maxSteps := 1000000) (disch := first | omega | assumption) only [↓r_ret, ↓r_fail, ↓r_br, ↓r_bind, ↓r_iter, ↓r_req, decide_eq_true_eq, Bool.not_eq_eq_eq_not, decide_eq_false_iff_not, ite_not, inB_t', app_t', bnd_t', str_t', nz_t, Int.reduceEq, Int.reduceLT, Int.reduceLE, w64', Option.bind_some, Option.bind_none, List.length_cons, List.length_nil, List.length_append, Nat.zero_add, if_pos, if_neg, decide_true, decide_false, if_true, if_false, Bool.not_true, Bool.not_false, Bool.false_eq_true, Bool.true_eq_false, not_true_eq_false, not_false_eq_true, ↓reduceIte, List.nil_append, h]
/-- Where Newton's way begins. -/
theorem start_ok {n L : Int} (hn : 0 < n) (hm : n ≤ 8000000000000000000) (h0 : 0 ≤ L) (h1 : L ≤ 64) (h2 : n < 2 ^ L.toNat) :
    ∃ x : Int, IntKind.i64.wrap (1 * 2 ^ min (IntKind.i64.wrap ((IntKind.i64.wrap (L + 1)).tdiv 2)).toNat 64) = x ∧ nneg (IntKind.i64.wrap ((IntKind.i64.wrap (L + 1)).tdiv 2)) = true ∧ 0 < x ∧ x ≤ 4294967296 ∧ rt n ≤ x := by
  have e1 : IntKind.i64.wrap (L + 1) = L + 1 := w64' (by omega) (by omega)
  have e2 : (L + 1).tdiv 2 = (L + 1) / 2 := Int.tdiv_eq_ediv_of_nonneg (by omega)
  have e3 : IntKind.i64.wrap ((L + 1) / 2) = (L + 1) / 2 := w64' (by omega) (by omega)
  rw [e1, e2, e3]
  have e4 : min ((L + 1) / 2).toNat 64 = ((L + 1) / 2).toNat := by omega
  rw [e4, Int.one_mul]
  generalize hk : ((L + 1) / 2).toNat = k at *
  have hk2 : k ≤ 32 := by omega
  have h4 : ((2 ^ k : Nat) : Int) = (2 : Int) ^ k := Int.natCast_pow 2 k
  have h5 : 2 ^ k ≤ 2 ^ 32 := Nat.pow_le_pow_right (by decide) hk2
  have h6 : 0 < 2 ^ k := Nat.pow_pos (by decide)
  have h7 : (2 : Int) ^ k ≤ 4294967296 := by omega
  have h8 : (0 : Int) < (2 : Int) ^ k := by omega
  refine ⟨2 ^ k, w64' (by omega) (by omega), decide_eq_true (by omega), h8, h7, ?_⟩
  have h9 : 2 ^ L.toNat ≤ 2 ^ (k + k) := Nat.pow_le_pow_right (by decide) (by omega)
  have h10 : ((2 ^ L.toNat : Nat) : Int) = (2 : Int) ^ L.toNat := Int.natCast_pow 2 _
  have h11 : ((2 ^ (k + k) : Nat) : Int) = (2 : Int) ^ k * 2 ^ k := by rw [Int.natCast_pow, Int.pow_add]; rfl
  have := rt_lt (n := n) (m := 2 ^ k) (by omega) (by omega) (by omega)
  omega
theorem k_nroot {n : Int} (h0 : 0 ≤ n) (hm : n ≤ 8000000000000000000) : number_root n = some ((rt n, ()), ()) := by
  simp only [number_root, T_number_root]
  by_cases hz : n = 0
  · subst hz
    simp (maxSteps := 1000000) (disch := first | omega | assumption) only [↓r_ret, ↓r_fail, ↓r_br, ↓r_bind, ↓r_iter, ↓r_req, decide_eq_true_eq, Bool.not_eq_eq_eq_not, decide_eq_false_iff_not, ite_not, inB_t', app_t', bnd_t', str_t', nz_t, Int.reduceEq, Int.reduceLT, Int.reduceLE, w64', Option.bind_some, Option.bind_none, List.length_cons, List.length_nil, List.length_append, Nat.zero_add, if_pos, if_neg, decide_true, decide_false, if_true, if_false, Bool.not_true, Bool.not_false, Bool.false_eq_true, Bool.true_eq_false, not_true_eq_false, not_false_eq_true, ↓reduceIte, List.nil_append, ]
    rfl
  · have e0 : IntKind.u64.wrap n = n := by
      show n % 18446744073709551616 = n
      omega
    obtain ⟨L, k, l0, l1, l2⟩ := k_Len h0 (by omega)
    obtain ⟨x, e, q, x0, x1, x2⟩ := start_ok (n := n) (by omega) hm l0 l1 l2
    refine (br_f (decide_eq_false hz)).trans ?_
    rw [e0]
    refine (r_bs k).trans ?_
    dsimp only
    rw [q_of (show nz 2 = true from rfl), q_of q, r_iter, e]
    refine iter_eq (fun i y => ∃ z : Int, y = (z, ()) ∧ 0 < z ∧ z ≤ 4294967296 ∧ rt n ≤ z ∧ z + i ≤ x) _ x.toNat (by omega) ?_ ⟨x, rfl, x0, x1, x2, by omega⟩
    rintro i y hi ⟨z, rfl, z0, z1, z2, z3⟩
    obtain ⟨w1, w2⟩ := newton (show 0 < n by omega) z0 z2
    have d0 : 0 ≤ n / z := Int.ediv_nonneg h0 (by omega)
    have d1 : n / z ≤ n := Int.ediv_le_self z h0
    have f1 : n.tdiv z = n / z := Int.tdiv_eq_ediv_of_nonneg h0
    have f2 : (z + n / z).tdiv 2 = (z + n / z) / 2 := Int.tdiv_eq_ediv_of_nonneg (by omega)
    have g1 : IntKind.i64.wrap (n / z) = n / z := w64' (by omega) (by omega)
    have g2 : IntKind.i64.wrap (z + n / z) = z + n / z := w64' (by omega) (by omega)
    have g3 : IntKind.i64.wrap ((z + n / z) / 2) = (z + n / z) / 2 := w64' (by omega) (by omega)
    have nz' : nz z = true := nz_t (by omega)
    simp only [T_number_root_l1, f1, g1, g2, f2, g3]
    by_cases c : z ≤ (z + n / z) / 2
    · right
      refine (q_of nz').trans ((q_of (show nz 2 = true from rfl)).trans ((br_t (decide_eq_true c)).trans ((r_ret _).trans ?_)))
      rw [w2 c]
    · left
      exact ⟨_, (q_of nz').trans ((q_of (show nz 2 = true from rfl)).trans ((br_f (decide_eq_false c)).trans (r_ret _))), by omega, _, rfl, by
        have hr : 0 < rt n := by
          have := le_rt (m := 1) h0 (by omega) (by decide)
          omega
        omega, by omega, w1, by omega⟩

def sqE (f : Int × Int) (t : Int) : Int := if cfE f = 0 then if f.1 < 0 then 2 else if 1 ≤ t ∧ t ≤ 10000 then 0 else 2 else cfE f
def sqV (f : Int × Int) (t : Int) : Int × Int := if (t * t * f.1).tmod f.2 = 0 then if rt ((t * t * f.1).tdiv f.2) * rt ((t * t * f.1).tdiv f.2) = (t * t * f.1).tdiv f.2 then (rt ((t * t * f.1).tdiv f.2), rt ((t * t * f.1).tdiv f.2)) else (rt ((t * t * f.1).tdiv f.2), rt ((t * t * f.1).tdiv f.2) + 1) else (rt ((t * t * f.1).tdiv f.2), rt ((t * t * f.1).tdiv f.2) + 1)
theorem sq_bd {f : Int × Int} {t : Int} (hf : Small f) (hz : ¬ f.1 < 0) (ht : 1 ≤ t ∧ t ≤ 10000) : (0 ≤ t * t ∧ t * t ≤ 100000000) ∧ (0 ≤ t * t * f.1 ∧ t * t * f.1 ≤ 100000000000000000) ∧ 0 ≤ (t * t * f.1).tdiv f.2 ∧ (t * t * f.1).tdiv f.2 ≤ 100000000000000000 := by
  obtain ⟨⟨h0, _⟩, h1, h2, h3⟩ := hf
  have b1 := mul_bd (a := t) (b := t) (m := 10000) (n := 10000) (by omega) (by omega) (by omega) (by omega)
  have b0 : 0 ≤ t * t := Int.mul_nonneg (by omega) (by omega)
  have b2 := mul_bd (a := t * t) (b := f.1) (m := 100000000) (n := 1000000000) (by omega) (by omega) (by omega) (by omega)
  have b3 : 0 ≤ t * t * f.1 := Int.mul_nonneg b0 (by omega)
  refine ⟨by omega, by omega, ?_, ?_⟩
  · exact Int.tdiv_nonneg b3 (by omega)
  · rw [Int.tdiv_eq_ediv_of_nonneg b3]
    have := Int.ediv_le_self f.2 b3
    omega
theorem k_Sqrt {f : Int × Int} {t : Int} (hf : Small f) (hz : ¬ f.1 < 0) (ht : 1 ≤ t ∧ t ≤ 10000) : number_Sqrt f t = some ((sqV f t, 0, ()), ()) := by
  obtain ⟨b1, b2, b3⟩ := sq_bd hf hz ht
  have h0 := hf.1.1
  have nzf : nz f.2 = true := nz_t (by omega)
  simp only [number_Sqrt, T_number_Sqrt, sqV]
  rw [w64' (x := t * t) (by omega) (by omega), w64' (x := t * t * f.1) (by omega) (by omega), w64' (x := (t * t * f.1).tdiv f.2) (by omega) (by omega)]
  generalize (t * t * f.1).tdiv f.2 = m at *
  have r1 := rt_spec b3.1
  have r3 : 0 ≤ rt m * rt m := Int.mul_nonneg r1.1 r1.1
  have r2 := rt_bd b3.1 (show (0 : Int) ≤ 1000000000 by omega) (by omega)
  refine (r_bs (k_CheckFrac hf.i1 hf.i2)).trans ?_
  refine (br_f (nd (cfE_of hf))).trans ?_
  refine (br_f (decide_eq_false hz)).trans ?_
  refine (r_bs (k_between _ _ _)).trans ?_
  refine (br_f (nd ht)).trans ?_
  refine (q_of nzf).trans ?_
  refine (r_bs (k_nroot b3.1 (by omega))).trans ?_
  refine (q_of nzf).trans ?_
  dsimp only
  rw [w64' (x := rt m * rt m) (by omega) (by omega), w64' (x := rt m + 1) (by omega) (by omega)]
  by_cases c : (t * t * f.1).tmod f.2 = 0
  · rw [if_pos c]
    refine (br_t (decide_eq_true c)).trans ?_
    refine (q_of nzf).trans ?_
    by_cases d : rt m * rt m = m
    · rw [if_pos d]; exact (br_t (decide_eq_true d)).trans (r_ret _)
    · rw [if_neg d]; exact (br_f (decide_eq_false d)).trans (r_ret _)
  · rw [if_neg c]; exact (br_f (decide_eq_false c)).trans (r_ret _)
end Go.Ab
