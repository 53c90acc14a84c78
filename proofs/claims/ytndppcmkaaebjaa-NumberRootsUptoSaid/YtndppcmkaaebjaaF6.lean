/- NumberRoots. -/
import Derived.Test.YtndppcmkaaebjaaF4
import Derived.Test.YtndppcmkaaebjaaF3
import Derived.Test.YtndppcmkaaebjaaQLNumberRoots
namespace Go.Ab
open Go
set_option maxRecDepth 1000000
set_option maxHeartbeats 1000000
set_option linter.unusedVariables false
set_option linter.unusedSimpArgs false
attribute [local congr] bindC iterC

/-- The table of the lengths of bytes. -/
def tab : List UInt8 := [0, 1, 2, 2, 3, 3, 3, 3, 4, 4, 4, 4, 4, 4, 4, 4, 5, 5, 5, 5, 5, 5, 5, 5, 5, 5, 5, 5, 5, 5, 5, 5, 6, 6, 6, 6, 6, 6, 6, 6, 6, 6, 6, 6, 6, 6, 6, 6, 6, 6, 6, 6, 6, 6, 6, 6, 6, 6, 6, 6, 6, 6, 6, 6, 7, 7, 7, 7, 7, 7, 7, 7, 7, 7, 7, 7, 7, 7, 7, 7, 7, 7, 7, 7, 7, 7, 7, 7, 7, 7, 7, 7, 7, 7, 7, 7, 7, 7, 7, 7, 7, 7, 7, 7, 7, 7, 7, 7, 7, 7, 7, 7, 7, 7, 7, 7, 7, 7, 7, 7, 7, 7, 7, 7, 7, 7, 7, 7, 8, 8, 8, 8, 8, 8, 8, 8, 8, 8, 8, 8, 8, 8, 8, 8, 8, 8, 8, 8, 8, 8, 8, 8, 8, 8, 8, 8, 8, 8, 8, 8, 8, 8, 8, 8, 8, 8, 8, 8, 8, 8, 8, 8, 8, 8, 8, 8, 8, 8, 8, 8, 8, 8, 8, 8, 8, 8, 8, 8, 8, 8, 8, 8, 8, 8, 8, 8, 8, 8, 8, 8, 8, 8, 8, 8, 8, 8, 8, 8, 8, 8, 8, 8, 8, 8, 8, 8, 8, 8, 8, 8, 8, 8, 8, 8, 8, 8, 8, 8, 8, 8, 8, 8, 8, 8, 8, 8, 8, 8, 8, 8, 8, 8, 8, 8, 8, 8, 8, 8, 8, 8, 8, 8, 8, 8, 8, 8]
theorem tab_ok : ∀ y : Fin 256, (gi tab (y.val : Int)).toNat ≤ 8 ∧ y.val < 2 ^ (gi tab (y.val : Int)).toNat := by decide +kernel
def LenT (t : List UInt8) (x : Int) : Tr (((Int × Unit) × Unit)) := .br (decide ((4294967296 : Int) ≤ x)) (.req (nneg (32 : Int)) (.br (decide ((65536 : Int) ≤ Int.fdiv x ((2 : Int) ^ (32 : Nat)))) (.req (nneg (16 : Int)) (.br (decide ((256 : Int) ≤ (Int.fdiv x ((2 : Int) ^ (32 : Nat))).fdiv ((2 : Int) ^ (16 : Nat)))) (.req (nneg (8 : Int)) (.req (inB (IntKind.u8.wrap (((Int.fdiv x ((2 : Int) ^ (32 : Nat))).fdiv ((2 : Int) ^ (16 : Nat))).fdiv ((2 : Int) ^ (8 : Nat)))) ((256 : Nat))) (.ret (((IntKind.i64.wrap (IntKind.i64.wrap (IntKind.i64.wrap ((32 : Int) + (16 : Int)) + (8 : Int)) + IntKind.i64.wrap (↑(gi t (IntKind.u8.wrap (((Int.fdiv x ((2 : Int) ^ (32 : Nat))).fdiv ((2 : Int) ^ (16 : Nat))).fdiv ((2 : Int) ^ (8 : Nat))))).toNat : Int))), ()), ())))) (.req (inB (IntKind.u8.wrap ((Int.fdiv x ((2 : Int) ^ (32 : Nat))).fdiv ((2 : Int) ^ (16 : Nat)))) ((256 : Nat))) (.ret (((IntKind.i64.wrap (IntKind.i64.wrap ((32 : Int) + (16 : Int)) + IntKind.i64.wrap (↑(gi t (IntKind.u8.wrap ((Int.fdiv x ((2 : Int) ^ (32 : Nat))).fdiv ((2 : Int) ^ (16 : Nat))))).toNat : Int))), ()), ()))))) (.br (decide ((256 : Int) ≤ Int.fdiv x ((2 : Int) ^ (32 : Nat)))) (.req (nneg (8 : Int)) (.req (inB (IntKind.u8.wrap ((Int.fdiv x ((2 : Int) ^ (32 : Nat))).fdiv ((2 : Int) ^ (8 : Nat)))) ((256 : Nat))) (.ret (((IntKind.i64.wrap (IntKind.i64.wrap ((32 : Int) + (8 : Int)) + IntKind.i64.wrap (↑(gi t (IntKind.u8.wrap ((Int.fdiv x ((2 : Int) ^ (32 : Nat))).fdiv ((2 : Int) ^ (8 : Nat))))).toNat : Int))), ()), ())))) (.req (inB (IntKind.u8.wrap (Int.fdiv x ((2 : Int) ^ (32 : Nat)))) ((256 : Nat))) (.ret (((IntKind.i64.wrap ((32 : Int) + IntKind.i64.wrap (↑(gi t (IntKind.u8.wrap (Int.fdiv x ((2 : Int) ^ (32 : Nat))))).toNat : Int))), ()), ())))))) (.br (decide ((65536 : Int) ≤ x)) (.req (nneg (16 : Int)) (.br (decide ((256 : Int) ≤ Int.fdiv x ((2 : Int) ^ (16 : Nat)))) (.req (nneg (8 : Int)) (.req (inB (IntKind.u8.wrap ((Int.fdiv x ((2 : Int) ^ (16 : Nat))).fdiv ((2 : Int) ^ (8 : Nat)))) ((256 : Nat))) (.ret (((IntKind.i64.wrap (IntKind.i64.wrap (IntKind.i64.wrap ((0 : Int) + (16 : Int)) + (8 : Int)) + IntKind.i64.wrap (↑(gi t (IntKind.u8.wrap ((Int.fdiv x ((2 : Int) ^ (16 : Nat))).fdiv ((2 : Int) ^ (8 : Nat))))).toNat : Int))), ()), ())))) (.req (inB (IntKind.u8.wrap (Int.fdiv x ((2 : Int) ^ (16 : Nat)))) ((256 : Nat))) (.ret (((IntKind.i64.wrap (IntKind.i64.wrap ((0 : Int) + (16 : Int)) + IntKind.i64.wrap (↑(gi t (IntKind.u8.wrap (Int.fdiv x ((2 : Int) ^ (16 : Nat))))).toNat : Int))), ()), ()))))) (.br (decide ((256 : Int) ≤ x)) (.req (nneg (8 : Int)) (.req (inB (IntKind.u8.wrap (Int.fdiv x ((2 : Int) ^ (8 : Nat)))) ((256 : Nat))) (.ret (((IntKind.i64.wrap (IntKind.i64.wrap ((0 : Int) + (8 : Int)) + IntKind.i64.wrap (↑(gi t (IntKind.u8.wrap (Int.fdiv x ((2 : Int) ^ (8 : Nat))))).toNat : Int))), ()), ())))) (.req (inB (IntKind.u8.wrap x) ((256 : Nat))) (.ret (((IntKind.i64.wrap ((0 : Int) + IntKind.i64.wrap (↑(gi t (IntKind.u8.wrap x)).toNat : Int))), ()), ())))))
theorem LenT_eq (x : Int) : T_math_bits_Len64 x = LenT tab x := by kernel_rfl
theorem leaf {t : List UInt8} (ht : ∀ y : Fin 256, (gi t (y.val : Int)).toNat ≤ 8 ∧ y.val < 2 ^ (gi t (y.val : Int)).toNat) {x z : Int} (s : Nat) (hs : s ≤ 56) (hz0 : 0 ≤ z) (hz : z < 256) (hx : x < (z + 1) * 2 ^ s) :
    inB (IntKind.u8.wrap z) 256 = true ∧ ∃ L : Int, IntKind.i64.wrap ((s : Int) + IntKind.i64.wrap ((gi t (IntKind.u8.wrap z)).toNat : Int)) = L ∧ 0 ≤ L ∧ L ≤ 64 ∧ x < 2 ^ L.toNat := by
  have e0 : IntKind.u8.wrap z = z := by
    show z % 256 = z
    omega
  rw [e0]
  refine ⟨inB_t' hz0 hz, ?_⟩
  obtain ⟨h1, h2⟩ := ht ⟨z.toNat, by omega⟩
  have e1 : ((z.toNat : Nat) : Int) = z := Int.toNat_of_nonneg hz0
  simp only [e1] at h1 h2
  generalize (gi t z).toNat = k at *
  have e2 : IntKind.i64.wrap (k : Int) = k := w64' (by omega) (by omega)
  rw [e2]
  refine ⟨(s : Int) + k, w64' (by omega) (by omega), by omega, by omega, ?_⟩
  rw [show ((s : Int) + k).toNat = k + s by omega, Int.pow_add]
  have h3 : z + 1 ≤ ((2 ^ k : Nat) : Int) := by omega
  have h4 : ((2 ^ k : Nat) : Int) = (2 : Int) ^ k := Int.natCast_pow 2 k
  have h5 : (0 : Int) ≤ 2 ^ s := Int.pow_nonneg (by decide)
  have := Int.mul_le_mul_of_nonneg_right (c := (2 : Int) ^ s) (show z + 1 ≤ (2 : Int) ^ k by omega) h5
  omega
theorem k_Len64 {x : Int} (h0 : 0 ≤ x) (h1 : x ≤ 9223372036854775807) : ∃ L : Int, math_bits_Len64 x = some ((L, ()), ()) ∧ 0 ≤ L ∧ L ≤ 64 ∧ x < 2 ^ L.toNat := by
  simp only [math_bits_Len64, LenT_eq]
  have p8 : (2 : Int) ^ (8 : Nat) = 256 := by decide
  have p16 : (2 : Int) ^ (16 : Nat) = 65536 := by decide
  have p32 : (2 : Int) ^ (32 : Nat) = 4294967296 := by decide
  have n8 : nneg (8 : Int) = true := by decide
  have n16 : nneg (16 : Int) = true := by decide
  have n32 : nneg (32 : Int) = true := by decide
  have d8 : ∀ y : Int, y.fdiv 256 = y / 256 := fun y => Int.fdiv_eq_ediv_of_nonneg _ (by decide)
  have d16 : ∀ y : Int, y.fdiv 65536 = y / 65536 := fun y => Int.fdiv_eq_ediv_of_nonneg _ (by decide)
  have d32 : ∀ y : Int, y.fdiv 4294967296 = y / 4294967296 := fun y => Int.fdiv_eq_ediv_of_nonneg _ (by decide)
  have ht := tab_ok
  generalize tab = t at ht
  simp only [LenT, p8, p16, p32, d8, d16, d32]
  by_cases c1 : 4294967296 ≤ x
  · by_cases c2 : 65536 ≤ x / 4294967296
    · by_cases c3 : 256 ≤ x / 4294967296 / 65536
      · obtain ⟨a, L, e, b1, b2, b3⟩ := leaf ht (x := x) (z := x / 4294967296 / 65536 / 256) 56 (by decide) (by omega) (by omega) (by omega)
        refine ⟨L, ?_, b1, b2, b3⟩
        rw [← e]
        refine (br_t (decide_eq_true c1)).trans ((q_of n32).trans ((br_t (decide_eq_true c2)).trans ((q_of n16).trans ((br_t (decide_eq_true c3)).trans ((q_of n8).trans ((q_of a).trans (r_ret _)))))))
      · obtain ⟨a, L, e, b1, b2, b3⟩ := leaf ht (x := x) (z := x / 4294967296 / 65536) 48 (by decide) (by omega) (by omega) (by omega)
        refine ⟨L, ?_, b1, b2, b3⟩
        rw [← e]
        refine (br_t (decide_eq_true c1)).trans ((q_of n32).trans ((br_t (decide_eq_true c2)).trans ((q_of n16).trans ((br_f (decide_eq_false c3)).trans ((q_of a).trans (r_ret _))))))
    · by_cases c3 : 256 ≤ x / 4294967296
      · obtain ⟨a, L, e, b1, b2, b3⟩ := leaf ht (x := x) (z := x / 4294967296 / 256) 40 (by decide) (by omega) (by omega) (by omega)
        refine ⟨L, ?_, b1, b2, b3⟩
        rw [← e]
        refine (br_t (decide_eq_true c1)).trans ((q_of n32).trans ((br_f (decide_eq_false c2)).trans ((br_t (decide_eq_true c3)).trans ((q_of n8).trans ((q_of a).trans (r_ret _))))))
      · obtain ⟨a, L, e, b1, b2, b3⟩ := leaf ht (x := x) (z := x / 4294967296) 32 (by decide) (by omega) (by omega) (by omega)
        refine ⟨L, ?_, b1, b2, b3⟩
        rw [← e]
        refine (br_t (decide_eq_true c1)).trans ((q_of n32).trans ((br_f (decide_eq_false c2)).trans ((br_f (decide_eq_false c3)).trans ((q_of a).trans (r_ret _)))))
  · by_cases c2 : 65536 ≤ x
    · by_cases c3 : 256 ≤ x / 65536
      · obtain ⟨a, L, e, b1, b2, b3⟩ := leaf ht (x := x) (z := x / 65536 / 256) 24 (by decide) (by omega) (by omega) (by omega)
        refine ⟨L, ?_, b1, b2, b3⟩
        rw [← e]
        refine (br_f (decide_eq_false c1)).trans ((br_t (decide_eq_true c2)).trans ((q_of n16).trans ((br_t (decide_eq_true c3)).trans ((q_of n8).trans ((q_of a).trans (r_ret _))))))
      · obtain ⟨a, L, e, b1, b2, b3⟩ := leaf ht (x := x) (z := x / 65536) 16 (by decide) (by omega) (by omega) (by omega)
        refine ⟨L, ?_, b1, b2, b3⟩
        rw [← e]
        refine (br_f (decide_eq_false c1)).trans ((br_t (decide_eq_true c2)).trans ((q_of n16).trans ((br_f (decide_eq_false c3)).trans ((q_of a).trans (r_ret _)))))
    · by_cases c3 : 256 ≤ x
      · obtain ⟨a, L, e, b1, b2, b3⟩ := leaf ht (x := x) (z := x / 256) 8 (by decide) (by omega) (by omega) (by omega)
        refine ⟨L, ?_, b1, b2, b3⟩
        rw [← e]
        refine (br_f (decide_eq_false c1)).trans ((br_f (decide_eq_false c2)).trans ((br_t (decide_eq_true c3)).trans ((q_of n8).trans ((q_of a).trans (r_ret _)))))
      · obtain ⟨a, L, e, b1, b2, b3⟩ := leaf ht (x := x) (z := x) 0 (by decide) (by omega) (by omega) (by omega)
        refine ⟨L, ?_, b1, b2, b3⟩
        rw [← e]
        refine (br_f (decide_eq_false c1)).trans ((br_f (decide_eq_false c2)).trans ((br_f (decide_eq_false c3)).trans ((q_of a).trans (r_ret _))))
theorem k_Len {x : Int} (h0 : 0 ≤ x) (h1 : x ≤ 9223372036854775807) : ∃ L : Int, math_bits_Len x = some ((L, ()), ()) ∧ 0 ≤ L ∧ L ≤ 64 ∧ x < 2 ^ L.toNat := by
  obtain ⟨L, h, r⟩ := k_Len64 h0 h1
  refine ⟨L, ?_, r⟩
  simp only [math_bits_Len, T_math_bits_Len]
  simp (maxSteps := 1000000) (disch := first | omega | assumption) only [↓r_ret, ↓r_fail, ↓r_br, ↓r_bind, ↓r_iter, ↓r_req, decide_eq_true_eq, Bool.not_eq_eq_eq_not, decide_eq_false_iff_not, ite_not, inB_t', app_t', bnd_t', str_t', nz_t, Int.reduceEq, Int.reduceLT, Int.reduceLE, w64', Option.bind_some, Option.bind_none, List.length_cons, List.length_nil, List.length_append, Nat.zero_add, if_pos, if_neg, decide_true, decide_false, if_true, if_false, Bool.not_true, Bool.not_false, Bool.false_eq_true, Bool.true_eq_false, not_true_eq_false, not_false_eq_true, ↓reduceIte, List.nil_append, h]
/-- Where Newton's way begins. -/
theorem start_ok {n L : Int} (hn : 0 < n) (hm : n ≤ 8000000000000000000) (h0 : 0 ≤ L) (h1 : L ≤ 64) (h2 : n < 2 ^ L.toNat) :
    ∃ x : Int, IntKind.i64.wrap (1 * 2 ^ min (IntKind.i64.wrap ((IntKind.i64.wrap (L + 1)).tdiv 2)).toNat 64) = x ∧ nneg (IntKind.i64.wrap ((IntKind.i64.wrap (L + 1)).tdiv 2)) = true ∧ 0 < x ∧ x ≤ 4294967296 ∧ rt n ≤ x := by
  have e1 : IntKind.i64.wrap (L + 1) = L + 1 := w64' (by omega) (by omega)
  have e2 : (L + 1).tdiv 2 = (L + 1) / 2 := Int.tdiv_eq_ediv_of_nonneg (by omega)
  have e3 : IntKind.i64.wrap ((L + 1) / 2) = (L + 1) / 2 := w64' (by omega) (by omega)
  rw [e1, e2, e3]
  have e4 : min ((L + 1) / 2).toNat 64 = ((L + 1) / 2).toNat := by omega
  rw [e4, Int.one_mul]
  generalize hk : ((L + 1) / 2).toNat = k at *
  have hk2 : k ≤ 32 := by omega
  have h4 : ((2 ^ k : Nat) : Int) = (2 : Int) ^ k := Int.natCast_pow 2 k
  have h5 : 2 ^ k ≤ 2 ^ 32 := Nat.pow_le_pow_right (by decide) hk2
  have h6 : 0 < 2 ^ k := Nat.pow_pos (by decide)
  have h7 : (2 : Int) ^ k ≤ 4294967296 := by omega
  have h8 : (0 : Int) < (2 : Int) ^ k := by omega
  refine ⟨2 ^ k, w64' (by omega) (by omega), decide_eq_true (by omega), h8, h7, ?_⟩
  have h9 : 2 ^ L.toNat ≤ 2 ^ (k + k) := Nat.pow_le_pow_right (by decide) (by omega)
  have h10 : ((2 ^ L.toNat : Nat) : Int) = (2 : Int) ^ L.toNat := Int.natCast_pow 2 _
  have h11 : ((2 ^ (k + k) : Nat) : Int) = (2 : Int) ^ k * 2 ^ k := by rw [Int.natCast_pow, Int.pow_add]; rfl
  have := rt_lt (n := n) (m := 2 ^ k) (by omega) (by omega) (by omega)
  omega
theorem k_nroot {n : Int} (h0 : 0 ≤ n) (hm : n ≤ 8000000000000000000) : number_root n = some ((rt n, ()), ()) := by
  simp only [number_root, T_number_root]
  by_cases hz : n = 0
  · subst hz
    simp (maxSteps := 1000000) (disch := first | omega | assumption) only [↓r_ret, ↓r_fail, ↓r_br, ↓r_bind, ↓r_iter, ↓r_req, decide_eq_true_eq, Bool.not_eq_eq_eq_not, decide_eq_false_iff_not, ite_not, inB_t', app_t', bnd_t', str_t', nz_t, Int.reduceEq, Int.reduceLT, Int.reduceLE, w64', Option.bind_some, Option.bind_none, List.length_cons, List.length_nil, List.length_append, Nat.zero_add, if_pos, if_neg, decide_true, decide_false, if_true, if_false, Bool.not_true, Bool.not_false, Bool.false_eq_true, Bool.true_eq_false, not_true_eq_false, not_false_eq_true, ↓reduceIte, List.nil_append, ]
    rfl
  · have e0 : IntKind.u64.wrap n = n := by
      show n % 18446744073709551616 = n
      omega
    obtain ⟨L, k, l0, l1, l2⟩ := k_Len h0 (by omega)
    obtain ⟨x, e, q, x0, x1, x2⟩ := start_ok (n := n) (by omega) hm l0 l1 l2
    refine (br_f (decide_eq_false hz)).trans ?_
    rw [e0]
    refine (r_bs k).trans ?_
    dsimp only
    rw [q_of (show nz 2 = true from rfl), q_of q, r_iter, e]
    refine iter_eq (fun i y => ∃ z : Int, y = (z, ()) ∧ 0 < z ∧ z ≤ 4294967296 ∧ rt n ≤ z ∧ z + i ≤ x) _ x.toNat (by omega) ?_ ⟨x, rfl, x0, x1, x2, by omega⟩
    rintro i y hi ⟨z, rfl, z0, z1, z2, z3⟩
    obtain ⟨w1, w2⟩ := newton (show 0 < n by omega) z0 z2
    have d0 : 0 ≤ n / z := Int.ediv_nonneg h0 (by omega)
    have d1 : n / z ≤ n := Int.ediv_le_self z h0
    have f1 : n.tdiv z = n / z := Int.tdiv_eq_ediv_of_nonneg h0
    have f2 : (z + n / z).tdiv 2 = (z + n / z) / 2 := Int.tdiv_eq_ediv_of_nonneg (by omega)
    have g1 : IntKind.i64.wrap (n / z) = n / z := w64' (by omega) (by omega)
    have g2 : IntKind.i64.wrap (z + n / z) = z + n / z := w64' (by omega) (by omega)
    have g3 : IntKind.i64.wrap ((z + n / z) / 2) = (z + n / z) / 2 := w64' (by omega) (by omega)
    have nz' : nz z = true := nz_t (by omega)
    simp only [T_number_root_l1, f1, g1, g2, f2, g3]
    by_cases c : z ≤ (z + n / z) / 2
    · right
      refine (q_of nz').trans ((q_of (show nz 2 = true from rfl)).trans ((br_t (decide_eq_true c)).trans ((r_ret _).trans ?_)))
      rw [w2 c]
    · left
      exact ⟨_, (q_of nz').trans ((q_of (show nz 2 = true from rfl)).trans ((br_f (decide_eq_false c)).trans (r_ret _))), by omega, _, rfl, by
        have hr : 0 < rt n := by
          have := le_rt (m := 1) h0 (by omega) (by decide)
          omega
        omega, by omega, w1, by omega⟩

def wst (i : Nat) : Int := 2147483648 / 2 ^ i
theorem wst_pos : ∀ i : Fin 32, 0 < wst i.val := by decide +kernel
theorem wst_le : ∀ i : Fin 33, 0 ≤ wst i.val ∧ wst i.val ≤ 2147483648 := by decide +kernel
theorem wst_half : ∀ i : Fin 33, (wst i.val).tdiv 2 = wst (i.val + 1) := by decide +kernel
theorem wst_dbl : ∀ i : Fin 31, wst i.val = 2 * wst (i.val + 1) := by decide +kernel
theorem wst_32 : ¬ 0 < wst 32 := by decide +kernel
theorem k_floorRoot {n : Int} (h0 : 0 ≤ n) (hm : n ≤ 1000000000000000000) : ref01xfloorRoot n = some ((rt n, ()), ()) := by
  simp only [ref01xfloorRoot, T_ref01xfloorRoot, r_iter]
  refine iter_eq (fun i x => ∃ r : Int, x = (r, wst (i + 1), ()) ∧ 0 ≤ r ∧ r ≤ 1000000000 ∧ r * r ≤ n ∧ n < (r + wst i) * (r + wst i)) _ 31 (by omega) ?_ ⟨0, rfl, by omega, by omega, by omega, by show n < (0 + 2147483648) * (0 + 2147483648); omega⟩
  rintro i x hi ⟨r, rfl, r0, r1, r2, r3⟩
  simp only [T_ref01xfloorRoot_l0]
  by_cases hlt : i < 31
  · left
    have p := wst_pos ⟨i + 1, by omega⟩
    have q := wst_le ⟨i + 1, by omega⟩
    have hh := wst_half ⟨i + 1, by omega⟩
    have hd := wst_dbl ⟨i, by omega⟩
    have q2 : 0 ≤ wst (i + 1 + 1) ∧ wst (i + 1 + 1) ≤ 2147483648 := wst_le ⟨i + 2, by omega⟩
    simp only at p q hh hd
    rw [hd] at r3
    generalize wst (i + 1) = s at *
    have e1 : IntKind.i64.wrap (r + s) = r + s := w64' (by omega) (by omega)
    have e2 : IntKind.i64.wrap (s.tdiv 2) = wst (i + 1 + 1) := by rw [hh]; exact w64' (by omega) (by omega)
    rw [e1, e2]
    by_cases c1 : r + s ≤ 1000000000
    · have hb := mul_bd (a := r + s) (b := r + s) (m := 1000000000) (n := 1000000000) (by omega) (by omega) (by omega) (by omega)
      have e3 : IntKind.i64.wrap ((r + s) * (r + s)) = (r + s) * (r + s) := w64' (by omega) (by omega)
      rw [e3]
      by_cases c2 : (r + s) * (r + s) ≤ n
      · refine ⟨_, (br_t (decide_eq_true p)).trans ((br_t (decide_eq_true c1)).trans ((br_t (decide_eq_true c2)).trans ((q_of rfl).trans (r_ret _)))), hlt, r + s, rfl, by omega, by omega, c2, ?_⟩
        rw [show r + s + s = r + 2 * s by omega]; exact r3
      · refine ⟨_, (br_t (decide_eq_true p)).trans ((br_t (decide_eq_true c1)).trans ((br_f (decide_eq_false c2)).trans ((q_of rfl).trans (r_ret _)))), hlt, r, rfl, r0, r1, r2, by omega⟩
    · refine ⟨_, (br_t (decide_eq_true p)).trans ((br_f (decide_eq_false c1)).trans ((q_of rfl).trans (r_ret _))), hlt, r, rfl, r0, r1, r2, ?_⟩
      have := sq_le (a := 1000000001) (b := r + s) (by omega) (by omega)
      omega
  · right
    have : i = 31 := by omega
    subst this
    refine (br_f (decide_eq_false wst_32)).trans ((r_ret _).trans ?_)
    have h1 := le_rt h0 r2 r0
    have h2 := rt_lt h0 (show n < (r + 1) * (r + 1) from r3) (by omega)
    rw [show rt n = r by omega]
/-- Squares' roots. -/
def sqE (f : Int × Int) (t : Int) : Int := if cfE f = 0 then if f.1 < 0 then 2 else if 1 ≤ t ∧ t ≤ 10000 then 0 else 2 else cfE f
def sqV (f : Int × Int) (t : Int) : Int × Int := if (t * t * f.1).tmod f.2 = 0 then if rt ((t * t * f.1).tdiv f.2) * rt ((t * t * f.1).tdiv f.2) = (t * t * f.1).tdiv f.2 then (rt ((t * t * f.1).tdiv f.2), rt ((t * t * f.1).tdiv f.2)) else (rt ((t * t * f.1).tdiv f.2), rt ((t * t * f.1).tdiv f.2) + 1) else (rt ((t * t * f.1).tdiv f.2), rt ((t * t * f.1).tdiv f.2) + 1)
theorem sq_bd {f : Int × Int} {t : Int} (hf : Small f) (hz : ¬ f.1 < 0) (ht : 1 ≤ t ∧ t ≤ 10000) : (0 ≤ t * t ∧ t * t ≤ 100000000) ∧ (0 ≤ t * t * f.1 ∧ t * t * f.1 ≤ 100000000000000000) ∧ 0 ≤ (t * t * f.1).tdiv f.2 ∧ (t * t * f.1).tdiv f.2 ≤ 100000000000000000 := by
  obtain ⟨⟨h0, _⟩, h1, h2, h3⟩ := hf
  have b1 := mul_bd (a := t) (b := t) (m := 10000) (n := 10000) (by omega) (by omega) (by omega) (by omega)
  have b0 : 0 ≤ t * t := Int.mul_nonneg (by omega) (by omega)
  have b2 := mul_bd (a := t * t) (b := f.1) (m := 100000000) (n := 1000000000) (by omega) (by omega) (by omega) (by omega)
  have b3 : 0 ≤ t * t * f.1 := Int.mul_nonneg b0 (by omega)
  refine ⟨by omega, by omega, ?_, ?_⟩
  · exact Int.tdiv_nonneg b3 (by omega)
  · rw [Int.tdiv_eq_ediv_of_nonneg b3]
    have := Int.ediv_le_self f.2 b3
    omega
theorem k_Sqrt {f : Int × Int} {t : Int} (hf : Small f) (hz : ¬ f.1 < 0) (ht : 1 ≤ t ∧ t ≤ 10000) : number_Sqrt f t = some ((sqV f t, 0, ()), ()) := by
  obtain ⟨b1, b2, b3⟩ := sq_bd hf hz ht
  have h0 := hf.1.1
  have nzf : nz f.2 = true := nz_t (by omega)
  simp only [number_Sqrt, T_number_Sqrt, sqV]
  rw [w64' (x := t * t) (by omega) (by omega), w64' (x := t * t * f.1) (by omega) (by omega), w64' (x := (t * t * f.1).tdiv f.2) (by omega) (by omega)]
  generalize (t * t * f.1).tdiv f.2 = m at *
  have r1 := rt_spec b3.1
  have r3 : 0 ≤ rt m * rt m := Int.mul_nonneg r1.1 r1.1
  have r2 := rt_bd b3.1 (show (0 : Int) ≤ 1000000000 by omega) (by omega)
  refine (r_bs (k_CheckFrac hf.i1 hf.i2)).trans ?_
  refine (br_f (nd (cfE_of hf))).trans ?_
  refine (br_f (decide_eq_false hz)).trans ?_
  refine (r_bs (k_between _ _ _)).trans ?_
  refine (br_f (nd ht)).trans ?_
  refine (q_of nzf).trans ?_
  refine (r_bs (k_nroot b3.1 (by omega))).trans ?_
  refine (q_of nzf).trans ?_
  dsimp only
  rw [w64' (x := rt m * rt m) (by omega) (by omega), w64' (x := rt m + 1) (by omega) (by omega)]
  by_cases c : (t * t * f.1).tmod f.2 = 0
  · rw [if_pos c]
    refine (br_t (decide_eq_true c)).trans ?_
    refine (q_of nzf).trans ?_
    by_cases d : rt m * rt m = m
    · rw [if_pos d]; exact (br_t (decide_eq_true d)).trans (r_ret _)
    · rw [if_neg d]; exact (br_f (decide_eq_false d)).trans (r_ret _)
  · rw [if_neg c]; exact (br_f (decide_eq_false c)).trans (r_ret _)
theorem k_rSqrt {f : Int × Int} {t : Int} (hf : Small f) (hz : ¬ f.1 < 0) (ht : 1 ≤ t ∧ t ≤ 10000) : ref01xSqrt f t = some ((sqV f t, ()), ()) := by
  obtain ⟨b1, b2, b3⟩ := sq_bd hf hz ht
  have h0 := hf.1.1
  have nzf : nz f.2 = true := nz_t (by omega)
  simp only [ref01xSqrt, T_ref01xSqrt, sqV]
  rw [w64' (x := t * t) (by omega) (by omega), w64' (x := t * t * f.1) (by omega) (by omega), w64' (x := (t * t * f.1).tdiv f.2) (by omega) (by omega)]
  generalize (t * t * f.1).tdiv f.2 = m at *
  have r1 := rt_spec b3.1
  have r3 : 0 ≤ rt m * rt m := Int.mul_nonneg r1.1 r1.1
  have r2 := rt_bd b3.1 (show (0 : Int) ≤ 1000000000 by omega) (by omega)
  refine (q_of nzf).trans ?_
  refine (r_bs (k_floorRoot b3.1 (by omega))).trans ?_
  refine (q_of nzf).trans ?_
  dsimp only
  rw [w64' (x := rt m * rt m) (by omega) (by omega), w64' (x := rt m + 1) (by omega) (by omega)]
  by_cases c : (t * t * f.1).tmod f.2 = 0
  · rw [if_pos c]
    refine (br_t (decide_eq_true c)).trans ?_
    refine (q_of nzf).trans ?_
    by_cases d : rt m * rt m = m
    · rw [if_pos d]; exact (br_t (decide_eq_true d)).trans (r_ret _)
    · rw [if_neg d]; exact (br_f (decide_eq_false d)).trans (r_ret _)
  · rw [if_neg c]; exact (br_f (decide_eq_false c)).trans (r_ret _)
def roV (r : Int × Int) : Int × Int := (rt r.1, if rt r.2 * rt r.2 < r.2 then rt r.2 + 1 else rt r.2)
section
variable {r : Int × Int} (h : rgE r = 0) (hz : ¬ r.1 < 0)
include h hz
theorem k_RootOf : number_RootOf r = some ((roV r, 0, ()), ()) := by
  have hb := rgE_bd h
  have r2 := rt_bd (n := r.2) (by omega) (show (0 : Int) ≤ 1000000000 by omega) (by omega)
  have r1 := rt_spec (n := r.2) (by omega)
  have r3 : 0 ≤ rt r.2 * rt r.2 := Int.mul_nonneg r1.1 r1.1
  simp only [number_RootOf, T_number_RootOf, roV]
  refine (r_bs (k_CheckRange _)).trans ?_
  refine (br_f (nd h)).trans ?_
  refine (br_f (decide_eq_false hz)).trans ?_
  refine (r_bs (k_nroot (by omega) (by omega))).trans ?_
  refine (r_bs (k_nroot (by omega) (by omega))).trans ?_
  dsimp only
  rw [w64' (x := rt r.2 * rt r.2) (by omega) (by omega), w64' (x := rt r.2 + 1) (by omega) (by omega)]
  by_cases c : rt r.2 * rt r.2 < r.2
  · rw [if_pos c]; exact (br_t (decide_eq_true c)).trans (r_ret _)
  · rw [if_neg c]; exact (br_f (decide_eq_false c)).trans (r_ret _)
theorem k_rRootOf : ref01xRootOf r = some ((roV r, ()), ()) := by
  have hb := rgE_bd h
  have r2 := rt_bd (n := r.2) (by omega) (show (0 : Int) ≤ 1000000000 by omega) (by omega)
  have r1 := rt_spec (n := r.2) (by omega)
  have r3 : 0 ≤ rt r.2 * rt r.2 := Int.mul_nonneg r1.1 r1.1
  simp only [ref01xRootOf, T_ref01xRootOf, roV]
  refine (r_bs (k_floorRoot (by omega) (by omega))).trans ?_
  dsimp only
  rw [w64' (x := rt r.2 * rt r.2) (by omega) (by omega), w64' (x := rt r.2 + 1) (by omega) (by omega)]
  by_cases c : rt r.2 * rt r.2 < r.2
  · rw [if_pos c]
    refine (br_t (decide_eq_true c)).trans ?_
    refine (r_bs (k_floorRoot (by omega) (by omega))).trans ?_
    exact r_ret _
  · rw [if_neg c]
    refine (br_f (decide_eq_false c)).trans ?_
    refine (r_bs (k_floorRoot (by omega) (by omega))).trans ?_
    exact r_ret _
theorem roV_ok : (0 ≤ (roV r).1 ∧ (roV r).1 ≤ 1000000000 ∧ (roV r).1 * (roV r).1 ≤ r.1) ∧ 0 ≤ (roV r).2 ∧ (roV r).2 ≤ 1000000001 ∧ r.2 ≤ (roV r).2 * (roV r).2 := by
  have hb := rgE_bd h
  have r2 := rt_bd (n := r.2) (by omega) (show (0 : Int) ≤ 1000000000 by omega) (by omega)
  have r1 := rt_spec (n := r.2) (by omega)
  have r3 : 0 ≤ rt r.2 * rt r.2 := Int.mul_nonneg r1.1 r1.1
  have s2 := rt_bd (n := r.1) (by omega) (show (0 : Int) ≤ 1000000000 by omega) (by omega)
  have s1 := rt_spec (n := r.1) (by omega)
  unfold roV
  refine ⟨⟨s1.1, s2, s1.2.1⟩, ?_⟩
  dsimp only
  split
  · exact ⟨by omega, by omega, by omega⟩
  · exact ⟨by omega, by omega, by omega⟩
end
def roE (r : Int × Int) : Int := if rgE r = 0 then if r.1 < 0 then 2 else 0 else rgE r
theorem k_RootOf_e {r : Int × Int} (h : roE r ≠ 0) : number_RootOf r = some (((0, 0), roE r, ()), ()) := by
  simp only [number_RootOf, T_number_RootOf]
  refine (r_bs (k_CheckRange _)).trans ?_
  unfold roE at *
  by_cases h1 : rgE r = 0
  · rw [if_pos h1] at *
    refine (br_f (nd h1)).trans ?_
    by_cases h2 : r.1 < 0
    · rw [if_pos h2] at *; exact (br_t (decide_eq_true h2)).trans (r_ret _)
    · rw [if_neg h2] at h; contradiction
  · rw [if_neg h1] at *; exact (br_t (nd' h1)).trans (r_ret _)
theorem k_Sqrt_e {f : Int × Int} {t : Int} (h1 : I64 f.1) (h2 : I64 f.2) (h : sqE f t ≠ 0) : number_Sqrt f t = some (((0, 0), sqE f t, ()), ()) := by
  simp only [number_Sqrt, T_number_Sqrt]
  refine (r_bs (k_CheckFrac h1 h2)).trans ?_
  unfold sqE at *
  by_cases c1 : cfE f = 0
  · rw [if_pos c1] at *
    refine (br_f (nd c1)).trans ?_
    by_cases c2 : f.1 < 0
    · rw [if_pos c2] at *; exact (br_t (decide_eq_true c2)).trans (r_ret _)
    · rw [if_neg c2] at *
      refine (br_f (decide_eq_false c2)).trans ?_
      refine (r_bs (k_between _ _ _)).trans ?_
      by_cases c3 : 1 ≤ t ∧ t ≤ 10000
      · rw [if_pos c3] at h; contradiction
      · rw [if_neg c3] at *; exact (br_t (nd' c3)).trans (r_ret _)
  · rw [if_neg c1] at *; exact (br_t (nd' c1)).trans (r_ret _)

theorem k_RootOf_ex (r : Int × Int) : ∃ v, number_RootOf r = some (v, ()) := by
  by_cases h : roE r = 0
  · unfold roE at h
    by_cases h1 : rgE r = 0
    · rw [if_pos h1] at h
      by_cases h2 : r.1 < 0
      · rw [if_pos h2] at h; cases h
      · exact ⟨_, k_RootOf h1 h2⟩
    · rw [if_neg h1] at h; contradiction
  · exact ⟨_, k_RootOf_e h⟩

theorem k_NumberRoots {f : (Int × Int)} {times : Int} {r : (Int × Int)} (b0 : bulkT (.pair (.int .i64) (.int .i64)) f ≤ 1048576) (w0 : wfT (.pair (.int .i64) (.int .i64)) f) (b1 : bulkT (.int .i64) times ≤ 1048576) (w1 : wfT (.int .i64) times) (b2 : bulkT (.pair (.int .i64) (.int .i64)) r ≤ 1048576) (w2 : wfT (.pair (.int .i64) (.int .i64)) r) : law01xNumberRoots f times r = some ((true, ()), ()) := by
  have h1 : I64 f.1 := w0.1
  have h2 : I64 f.2 := w0.2
  obtain ⟨v, hR2⟩ := k_RootOf_ex r
  show (T_law01xNumberRoots f times r).run = _
  unfold T_law01xNumberRoots
  rw [r_bind, awake_ok, Option.bind_some]
  refine (br_f rfl).trans ?_
  by_cases h : cfE f = 0
  · have hf := cfE_zero.1 h
    by_cases hn : f.1 < 0
    · have hE : sqE f times = 2 := by unfold sqE; rw [if_pos h, if_pos hn]
      have hS := k_Sqrt_e (f := f) (t := times) h1 h2 (by rw [hE]; decide)
      rw [hE] at hS
      refine (r_bs hS).trans ?_
      refine (r_bs hR2).trans ?_
      refine (r_bs (k_fr1 h1 h2)).trans ?_
      refine (br_t (decide_eq_true h)).trans ?_
      refine (br_t (decide_eq_true hn)).trans ?_
      refine (br_t rfl).trans ?_
      refine (br_f rfl).trans ?_
      refine (br_f rfl).trans ?_
      refine (br_f rfl).trans ?_
      refine (r_bs (k_rCheckRange _)).trans ?_
      by_cases hr : rgE r = 0
      · by_cases hz : r.1 < 0
        · have hE : roE r = 2 := by unfold roE; rw [if_pos hr, if_pos hz]
          refine (br_t (decide_eq_true hr)).trans ?_
          refine (br_t (decide_eq_true hz)).trans ?_
          refine (br_t rfl).trans ?_
          have hR := k_RootOf_e (r := r) (by rw [hE]; decide)
          rw [hR] at hR2; injection hR2 with hR2; injection hR2 with hR2; subst hR2
          refine (br_t (decide_eq_true hE)).trans ?_
          exact r_ret _
        · have hV := roV_ok hr hz
          have hR := k_RootOf hr hz
          rw [hR] at hR2; injection hR2 with hR2; injection hR2 with hR2; subst hR2
          refine (br_t (decide_eq_true hr)).trans ?_
          refine (br_f (decide_eq_false hz)).trans ?_
          refine (br_f (nd hr)).trans ?_
          refine (br_t rfl).trans ?_
          refine (r_bs (k_rRootOf hr hz)).trans ?_
          refine (br_t (same2' _ _)).trans ?_
          have q1 := mul_bd (a := (roV r).1) (b := (roV r).1) (m := 1000000000) (n := 1000000000) (by omega) (by omega) (by omega) (by omega)
          have q2 := mul_bd (a := (roV r).2) (b := (roV r).2) (m := 1000000001) (n := 1000000001) (by omega) (by omega) (by omega) (by omega)
          dsimp only
          rw [w64' (x := (roV r).1 * (roV r).1) (by omega) (by omega), w64' (x := (roV r).2 * (roV r).2) (by omega) (by omega)]
          refine (br_t (decide_eq_true hV.1.2.2)).trans ?_
          refine (r_ret _).trans ?_
          rw [decide_eq_true hV.2.2.2]
      · have hE : roE r = rgE r := by unfold roE; rw [if_neg hr]
        refine (br_f (decide_eq_false hr)).trans ?_
        refine (br_t (nd' hr)).trans ?_
        have hR := k_RootOf_e (r := r) (by rw [hE]; exact hr)
        rw [hR] at hR2; injection hR2 with hR2; injection hR2 with hR2; subst hR2
        refine (br_t (decide_eq_true hE)).trans ?_
        exact r_ret _
    · by_cases ht : 1 ≤ times ∧ times ≤ 10000
      · refine (r_bs (k_Sqrt hf hn ht)).trans ?_
        refine (r_bs hR2).trans ?_
        refine (r_bs (k_fr1 h1 h2)).trans ?_
        refine (br_t (decide_eq_true h)).trans ?_
        refine (br_f (decide_eq_false hn)).trans ?_
        refine (r_bs (k_Within _ _ _)).trans ?_
        refine (br_f (nd ht)).trans ?_
        refine (br_f (nd h)).trans ?_
        refine (br_t (decide_eq_true h)).trans ?_
        refine (br_f rfl).trans ?_
        refine (r_bs (k_rSqrt hf hn ht)).trans ?_
        refine (br_f (same2 _ _)).trans ?_
        refine (r_bs (k_rCheckRange _)).trans ?_
        by_cases hr : rgE r = 0
        · by_cases hz : r.1 < 0
          · have hE : roE r = 2 := by unfold roE; rw [if_pos hr, if_pos hz]
            refine (br_t (decide_eq_true hr)).trans ?_
            refine (br_t (decide_eq_true hz)).trans ?_
            refine (br_t rfl).trans ?_
            have hR := k_RootOf_e (r := r) (by rw [hE]; decide)
            rw [hR] at hR2; injection hR2 with hR2; injection hR2 with hR2; subst hR2
            refine (br_t (decide_eq_true hE)).trans ?_
            exact r_ret _
          · have hV := roV_ok hr hz
            have hR := k_RootOf hr hz
            rw [hR] at hR2; injection hR2 with hR2; injection hR2 with hR2; subst hR2
            refine (br_t (decide_eq_true hr)).trans ?_
            refine (br_f (decide_eq_false hz)).trans ?_
            refine (br_f (nd hr)).trans ?_
            refine (br_t rfl).trans ?_
            refine (r_bs (k_rRootOf hr hz)).trans ?_
            refine (br_t (same2' _ _)).trans ?_
            have q1 := mul_bd (a := (roV r).1) (b := (roV r).1) (m := 1000000000) (n := 1000000000) (by omega) (by omega) (by omega) (by omega)
            have q2 := mul_bd (a := (roV r).2) (b := (roV r).2) (m := 1000000001) (n := 1000000001) (by omega) (by omega) (by omega) (by omega)
            dsimp only
            rw [w64' (x := (roV r).1 * (roV r).1) (by omega) (by omega), w64' (x := (roV r).2 * (roV r).2) (by omega) (by omega)]
            refine (br_t (decide_eq_true hV.1.2.2)).trans ?_
            refine (r_ret _).trans ?_
            rw [decide_eq_true hV.2.2.2]
        · have hE : roE r = rgE r := by unfold roE; rw [if_neg hr]
          refine (br_f (decide_eq_false hr)).trans ?_
          refine (br_t (nd' hr)).trans ?_
          have hR := k_RootOf_e (r := r) (by rw [hE]; exact hr)
          rw [hR] at hR2; injection hR2 with hR2; injection hR2 with hR2; subst hR2
          refine (br_t (decide_eq_true hE)).trans ?_
          exact r_ret _
      · have hE : sqE f times = 2 := by unfold sqE; rw [if_pos h, if_neg hn, if_neg ht]
        have hS := k_Sqrt_e (f := f) (t := times) h1 h2 (by rw [hE]; decide)
        rw [hE] at hS
        refine (r_bs hS).trans ?_
        refine (r_bs hR2).trans ?_
        refine (r_bs (k_fr1 h1 h2)).trans ?_
        refine (br_t (decide_eq_true h)).trans ?_
        refine (br_f (decide_eq_false hn)).trans ?_
        refine (r_bs (k_Within _ _ _)).trans ?_
        refine (br_t (nd' ht)).trans ?_
        refine (br_t rfl).trans ?_
        refine (br_f rfl).trans ?_
        refine (br_f rfl).trans ?_
        refine (br_f rfl).trans ?_
        refine (r_bs (k_rCheckRange _)).trans ?_
        by_cases hr : rgE r = 0
        · by_cases hz : r.1 < 0
          · have hE : roE r = 2 := by unfold roE; rw [if_pos hr, if_pos hz]
            refine (br_t (decide_eq_true hr)).trans ?_
            refine (br_t (decide_eq_true hz)).trans ?_
            refine (br_t rfl).trans ?_
            have hR := k_RootOf_e (r := r) (by rw [hE]; decide)
            rw [hR] at hR2; injection hR2 with hR2; injection hR2 with hR2; subst hR2
            refine (br_t (decide_eq_true hE)).trans ?_
            exact r_ret _
          · have hV := roV_ok hr hz
            have hR := k_RootOf hr hz
            rw [hR] at hR2; injection hR2 with hR2; injection hR2 with hR2; subst hR2
            refine (br_t (decide_eq_true hr)).trans ?_
            refine (br_f (decide_eq_false hz)).trans ?_
            refine (br_f (nd hr)).trans ?_
            refine (br_t rfl).trans ?_
            refine (r_bs (k_rRootOf hr hz)).trans ?_
            refine (br_t (same2' _ _)).trans ?_
            have q1 := mul_bd (a := (roV r).1) (b := (roV r).1) (m := 1000000000) (n := 1000000000) (by omega) (by omega) (by omega) (by omega)
            have q2 := mul_bd (a := (roV r).2) (b := (roV r).2) (m := 1000000001) (n := 1000000001) (by omega) (by omega) (by omega) (by omega)
            dsimp only
            rw [w64' (x := (roV r).1 * (roV r).1) (by omega) (by omega), w64' (x := (roV r).2 * (roV r).2) (by omega) (by omega)]
            refine (br_t (decide_eq_true hV.1.2.2)).trans ?_
            refine (r_ret _).trans ?_
            rw [decide_eq_true hV.2.2.2]
        · have hE : roE r = rgE r := by unfold roE; rw [if_neg hr]
          refine (br_f (decide_eq_false hr)).trans ?_
          refine (br_t (nd' hr)).trans ?_
          have hR := k_RootOf_e (r := r) (by rw [hE]; exact hr)
          rw [hR] at hR2; injection hR2 with hR2; injection hR2 with hR2; subst hR2
          refine (br_t (decide_eq_true hE)).trans ?_
          exact r_ret _
  · have hE : sqE f times = cfE f := by unfold sqE; rw [if_neg h]
    have hS := k_Sqrt_e (f := f) (t := times) h1 h2 (by rw [hE]; exact h)
    rw [hE] at hS
    refine (r_bs hS).trans ?_
    refine (r_bs hR2).trans ?_
    refine (r_bs (k_fr1 h1 h2)).trans ?_
    refine (br_f (decide_eq_false h)).trans ?_
    refine (br_t (nd' h)).trans ?_
    refine (br_f (nd rfl)).trans ?_
    refine (br_f rfl).trans ?_
    refine (br_f (decide_eq_false h)).trans ?_
    refine (r_bs (k_rCheckRange _)).trans ?_
    by_cases hr : rgE r = 0
    · by_cases hz : r.1 < 0
      · have hE : roE r = 2 := by unfold roE; rw [if_pos hr, if_pos hz]
        refine (br_t (decide_eq_true hr)).trans ?_
        refine (br_t (decide_eq_true hz)).trans ?_
        refine (br_t rfl).trans ?_
        have hR := k_RootOf_e (r := r) (by rw [hE]; decide)
        rw [hR] at hR2; injection hR2 with hR2; injection hR2 with hR2; subst hR2
        refine (br_t (decide_eq_true hE)).trans ?_
        exact r_ret _
      · have hV := roV_ok hr hz
        have hR := k_RootOf hr hz
        rw [hR] at hR2; injection hR2 with hR2; injection hR2 with hR2; subst hR2
        refine (br_t (decide_eq_true hr)).trans ?_
        refine (br_f (decide_eq_false hz)).trans ?_
        refine (br_f (nd hr)).trans ?_
        refine (br_t rfl).trans ?_
        refine (r_bs (k_rRootOf hr hz)).trans ?_
        refine (br_t (same2' _ _)).trans ?_
        have q1 := mul_bd (a := (roV r).1) (b := (roV r).1) (m := 1000000000) (n := 1000000000) (by omega) (by omega) (by omega) (by omega)
        have q2 := mul_bd (a := (roV r).2) (b := (roV r).2) (m := 1000000001) (n := 1000000001) (by omega) (by omega) (by omega) (by omega)
        dsimp only
        rw [w64' (x := (roV r).1 * (roV r).1) (by omega) (by omega), w64' (x := (roV r).2 * (roV r).2) (by omega) (by omega)]
        refine (br_t (decide_eq_true hV.1.2.2)).trans ?_
        refine (r_ret _).trans ?_
        rw [decide_eq_true hV.2.2.2]
    · have hE : roE r = rgE r := by unfold roE; rw [if_neg hr]
      refine (br_f (decide_eq_false hr)).trans ?_
      refine (br_t (nd' hr)).trans ?_
      have hR := k_RootOf_e (r := r) (by rw [hE]; exact hr)
      rw [hR] at hR2; injection hR2 with hR2; injection hR2 with hR2; subst hR2
      refine (br_t (decide_eq_true hE)).trans ?_
      exact r_ret _
end Go.Ab
