/- NumberTimes: the product of polynomials, and its values. -/
import Derived.Test.YtgncmamcgplcgaaR1
import Derived.Test.YtgncmamcgplcgaaW7
import Derived.Test.YtgncmamcgplcgaaQLNumberTimes
namespace Go.Ab
open Go
set_option maxRecDepth 1000000
set_option maxHeartbeats 1000000
set_option linter.unusedVariables false
set_option linter.unusedSimpArgs false

/-! ### Values as sums -/

def sm2 (P : List Int) (a b : Int) : Nat → Int
  | 0 => 0
  | i + 1 => sm2 P a b i * a + gN P (P.length - 1 - i) * b ^ i
theorem hzs_eq (P : List Int) (a b : Int) : ∀ i, i ≤ P.length → (hzs P a b i).2 = b ^ i ∧ (hzs P a b i).1 = sm2 P a b i
  | 0, _ => ⟨by simp [hzs], rfl⟩
  | i + 1, h => by
    obtain ⟨h1, h2⟩ := hzs_eq P a b i (by omega)
    refine ⟨?_, ?_⟩
    · rw [hzs, Int.pow_succ]; dsimp only; rw [h1]
    · rw [hzs, sm2]; dsimp only; rw [h1, h2]
/-- The sum of f j a^j b^(n - 1 - j). -/
def hs (f : Nat → Int) (n : Nat) (a b : Int) : Nat → Int
  | 0 => 0
  | k + 1 => hs f n a b k + f k * (a ^ k * b ^ (n - 1 - k))
theorem sm2_eq (P : List Int) (a b : Int) : ∀ i, i ≤ P.length → sm2 P a b i * a ^ (P.length - i) + hs (gN P) P.length a b (P.length - i) = hs (gN P) P.length a b P.length
  | 0, _ => by simp [sm2]
  | i + 1, h => by
    rw [← sm2_eq P a b i (by omega), sm2]
    obtain ⟨k, hk⟩ : ∃ k, P.length - i = k + 1 := ⟨P.length - i - 1, by omega⟩
    rw [hk, hs, show P.length - (i + 1) = k by omega, show P.length - 1 - i = k by omega, show P.length - 1 - k = i by omega, Int.pow_succ]
    grind
theorem hz_eq (P : List Int) (a b : Int) : hz P a b = hs (gN P) P.length a b P.length := by
  have h1 := (hzs_eq P a b P.length (Nat.le_refl _)).2
  have h2 := sm2_eq P a b P.length (Nat.le_refl _)
  rw [Nat.sub_self] at h2
  unfold hz
  rw [h1, ← h2]
  simp [hs]
section
variable {n : Nat} {a b : Int}
theorem hs_ext {f g : Nat → Int} : ∀ {k : Nat}, (∀ i, i < k → f i = g i) → hs f n a b k = hs g n a b k
  | 0, _ => rfl
  | k + 1, h => by rw [hs, hs, hs_ext (fun i hi => h i (by omega)), h k (by omega)]
theorem hs_set {f g : Nat → Int} {j : Nat} {v : Int} (hg : ∀ i, g i = if i = j then v else f i) : ∀ {k : Nat}, j < k → hs g n a b k = hs f n a b k + (v - f j) * (a ^ j * b ^ (n - 1 - j))
  | 0, h => by omega
  | k + 1, h => by
    rw [hs, hs]
    by_cases e : j = k
    · subst e
      rw [hg j, if_pos rfl, hs_ext (f := g) (g := f) (fun i hi => by rw [hg i, if_neg (by omega)])]
      grind
    · rw [hs_set hg (k := k) (by omega), hg k, if_neg (by omega)]
      omega
theorem hs_zero {f : Nat → Int} : ∀ {k : Nat}, (∀ i, i < k → f i = 0) → hs f n a b k = 0
  | 0, _ => rfl
  | k + 1, h => by rw [hs, hs_zero (fun i hi => h i (by omega)), h k (by omega)]; omega
end

/-! ### The product -/

/-- A row of the product, added. -/
def rowT (q : List Int) (c : Int) (i : Nat) : Nat → List Int → List Int
  | 0, o => o
  | k + 1, o => (rowT q c i k o).set (i + k) (gN (rowT q c i k o) (i + k) + c * gN q k)
def mulT (p q : List Int) : Nat → List Int
  | 0 => List.replicate (p.length + q.length - 1) 0
  | i + 1 => rowT q (gN p i) i q.length (mulT p q i)
theorem rowT_len (q : List Int) (c : Int) (i : Nat) (o : List Int) : ∀ k, (rowT q c i k o).length = o.length
  | 0 => rfl
  | k + 1 => by rw [rowT, List.length_set]; exact rowT_len q c i o k
theorem mulT_len (p q : List Int) : ∀ i, (mulT p q i).length = p.length + q.length - 1
  | 0 => by simp [mulT]
  | i + 1 => by rw [mulT, rowT_len]; exact mulT_len p q i
def Bd (p : List Int) : Prop := ∀ i, -1000000 ≤ gN p i ∧ gN p i ≤ 1000000
theorem pc_bd {p : List Int} (h : pcE p = 0) : Bd p := fun i => by
  rcases Nat.lt_or_ge i p.length with h' | h'
  · exact (pcE_zero h).2.2.1 i h'
  · rw [gN_out h']; omega
theorem rowT_out (q : List Int) (c : Int) (i : Nat) (o : List Int) : ∀ k j, (i + k ≤ j ∨ j < i) → gN (rowT q c i k o) j = gN o j
  | 0, _, _ => rfl
  | k + 1, j, h => by
    rw [rowT]
    by_cases hl : i + k < (rowT q c i k o).length
    · rw [gN_set hl, if_neg (by omega)]; exact rowT_out q c i o k j (by omega)
    · rw [List.set_eq_of_length_le (by omega)]; exact rowT_out q c i o k j (by omega)
theorem rowT_bd {q : List Int} {c : Int} {i : Nat} {o : List Int} {M : Int} (hq : Bd q) (hc : -1000000 ≤ c ∧ c ≤ 1000000) (hM : 0 ≤ M) (ho : ∀ j, -M ≤ gN o j ∧ gN o j ≤ M) : ∀ k j, -(M + 1000000000000) ≤ gN (rowT q c i k o) j ∧ gN (rowT q c i k o) j ≤ M + 1000000000000
  | 0, j => by have := ho j; rw [rowT]; omega
  | k + 1, j => by
    have ih := rowT_bd (i := i) hq hc hM ho k j
    rw [rowT]
    by_cases hl : i + k < (rowT q c i k o).length
    · rw [gN_set hl]
      split
      · rw [rowT_out q c i o k (i + k) (by omega)]
        have h1 := ho (i + k)
        have h2 := hq k
        have h3 := mul_bd (a := c) (b := gN q k) (m := 1000000) (n := 1000000) (by omega) (by omega) (by omega) (by omega)
        omega
      · exact ih
    · rw [List.set_eq_of_length_le (by omega)]; exact ih
theorem mulT_bd {p q : List Int} (hp : Bd p) (hq : Bd q) : ∀ (i j : Nat), -((i : Int) * 1000000000000) ≤ gN (mulT p q i) j ∧ gN (mulT p q i) j ≤ (i : Int) * 1000000000000
  | 0, j => by rw [mulT, gN_rep]; omega
  | i + 1, j => by
    rw [mulT]
    have := rowT_bd (i := i) hq (hp i) (M := (i : Int) * 1000000000000) (by omega) (mulT_bd hp hq i) q.length j
    omega
/-- The value of a product is the product of the values. -/
theorem rowT_hs {q : List Int} {c : Int} {i N : Nat} {o : List Int} {a b : Int} (hl : o.length = N) (hi : i + q.length ≤ N) : ∀ k, k ≤ q.length →
    hs (gN (rowT q c i k o)) N a b N = hs (gN o) N a b N + c * (a ^ i * b ^ (N - i - q.length)) * hs (gN q) q.length a b k
  | 0, _ => by rw [rowT, hs]; omega
  | k + 1, h => by
    have hlt : i + k < (rowT q c i k o).length := by rw [rowT_len]; omega
    rw [rowT, hs_set (f := gN (rowT q c i k o)) (gN_set hlt) (by omega), rowT_hs hl hi k (by omega), hs]
    have e1 : a ^ (i + k) = a ^ i * a ^ k := Int.pow_add _ _ _
    have e2 : b ^ (N - 1 - (i + k)) = b ^ (N - i - q.length) * b ^ (q.length - 1 - k) := by
      rw [← Int.pow_add]; congr 1; omega
    rw [e1, e2]
    grind
theorem mulT_hs {p q : List Int} {a b : Int} (hp : 0 < p.length) (hq : 0 < q.length) : ∀ i, i ≤ p.length →
    hs (gN (mulT p q i)) (p.length + q.length - 1) a b (p.length + q.length - 1) = hs (gN p) p.length a b i * hs (gN q) q.length a b q.length
  | 0, _ => by
    rw [mulT, hs_zero (fun i _ => gN_rep _ _), hs]; omega
  | i + 1, h => by
    rw [mulT, rowT_hs (mulT_len p q i) (by omega) q.length (Nat.le_refl _), mulT_hs hp hq i (by omega), hs, show p.length + q.length - 1 - i - q.length = p.length - 1 - i by omega]
    grind
def prd (p q : List Int) : List Int := mulT p q p.length
theorem hz_prd {p q : List Int} (hp : 0 < p.length) (hq : 0 < q.length) (a b : Int) : hz (prd p q) a b = hz p a b * hz q a b := by
  rw [hz_eq, hz_eq, hz_eq]
  unfold prd
  rw [mulT_len]
  exact mulT_hs hp hq p.length (Nat.le_refl _)
theorem sgn_mul (u v : Int) : sgn (u * v) = sgn u * sgn v := by
  rcases Int.lt_trichotomy u 0 with hu | hu | hu
  · rcases Int.lt_trichotomy v 0 with hv | hv | hv
    · rw [sgn_neg'' hu, sgn_neg'' hv, sgn_pos'' (Int.mul_pos_of_neg_of_neg hu hv)]; rfl
    · subst hv; rw [Int.mul_zero]; show sgn 0 = _ * sgn 0; rw [show sgn 0 = 0 from rfl]; omega
    · rw [sgn_neg'' hu, sgn_pos'' hv, sgn_neg'' (Int.mul_neg_of_neg_of_pos hu hv)]; rfl
  · subst hu; rw [Int.zero_mul]; show sgn 0 = sgn 0 * _; rw [show sgn 0 = 0 from rfl]; omega
  · rcases Int.lt_trichotomy v 0 with hv | hv | hv
    · rw [sgn_pos'' hu, sgn_neg'' hv, sgn_neg'' (Int.mul_neg_of_pos_of_neg hu hv)]; rfl
    · subst hv; rw [Int.mul_zero]; show sgn 0 = _ * sgn 0; rw [show sgn 0 = 0 from rfl]; omega
    · rw [sgn_pos'' hu, sgn_pos'' hv, sgn_pos'' (Int.mul_pos hu hv)]; rfl
where
  sgn_neg'' {v : Int} (h : v < 0) : sgn v = -1 := by unfold sgn; rw [if_neg (by omega), if_neg (by omega)]
  sgn_pos'' {v : Int} (h : 0 < v) : sgn v = 1 := by unfold sgn; rw [if_neg (by omega), if_pos h]

/-! ### The walks -/

theorem cell_bd {p q : List Int} (h1 : 1 ≤ p.length) (h2 : p.length ≤ 7) (bp : Bd p) (bq : Bd q) {i k : Nat} (hi : i < p.length) (hk : k < q.length) : (-1000000000000 ≤ gi p (i : Int) * gi q (k : Int) ∧ gi p (i : Int) * gi q (k : Int) ≤ 1000000000000) ∧
    -8000000000000 ≤ gi (rowT q (gN p i) i k (mulT p q i)) ((i + k : Nat) : Int) ∧ gi (rowT q (gN p i) i k (mulT p q i)) ((i + k : Nat) : Int) ≤ 8000000000000 := by
  have b1 := bp i
  have b2 := bq k
  have b3 := mul_bd (a := gN p i) (b := gN q k) (m := 1000000) (n := 1000000) (by omega) (by omega) (by omega) (by omega)
  have b4 := rowT_bd (i := i) bq (bp i) (M := (i : Int) * 1000000000000) (by omega) (mulT_bd bp bq i) k (i + k)
  simp only [gN] at b3 b4 ⊢
  omega
section
variable {p q : List Int} (h1 : 1 ≤ p.length) (h2 : p.length ≤ 7) (h3 : 1 ≤ q.length) (h4 : q.length ≤ 7) (bp : Bd p) (bq : Bd q)
include h1 h2 h3 h4 bp bq
theorem k_Times_rows : iterF (fun q_ => (T_number_Times_l3 p q q_.1 q_.2.1).run) FUEL (0, List.replicate (p.length + q.length - 1) 0, ()) = some (.inr (toldV (prd p q), ())) := by
  have eL : IntKind.i64.wrap (IntKind.i64.wrap ((p.length : Int) + (q.length : Int)) - 1) = ((p.length + q.length - 1 : Nat) : Int) := by
    rw [w64' (x := (p.length : Int) + (q.length : Int)) (by omega) (by omega), w64' (by omega) (by omega)]; omega
  refine iter_eq (fun i st => i ≤ p.length ∧ st = ((i : Int), mulT p q i, ())) _ p.length (by omega) ?_ ⟨Nat.zero_le _, rfl⟩
  rintro i st hi ⟨_, rfl⟩
  simp only [T_number_Times_l3]
  by_cases h0 : i < p.length
  · left
    have inner : iterF (fun q_ => (T_number_Times_l4 p q (i : Int) q_.1 q_.2.1).run) FUEL (0, mulT p q i, ()) = some (.inl (((i + 1 : Nat) : Int), mulT p q (i + 1), ())) := by
      refine iter_eq (fun k st => k ≤ q.length ∧ st = ((k : Int), rowT q (gN p i) i k (mulT p q i), ())) _ q.length (by omega) ?_ ⟨Nat.zero_le _, rfl⟩
      rintro k st hk ⟨_, rfl⟩
      simp only [T_number_Times_l4, eL, Int.toNat_natCast]
      by_cases hlt : k < q.length
      · left
        obtain ⟨c1, c2⟩ := cell_bd h1 h2 bp bq h0 hlt
        have e1 : IntKind.i64.wrap ((i : Int) + (k : Int)) = ((i + k : Nat) : Int) := by rw [w64' (by omega) (by omega)]; omega
        have e2 : IntKind.i64.wrap ((k : Int) + 1) = ((k + 1 : Nat) : Int) := by rw [w64' (by omega) (by omega)]; omega
        refine ⟨_, ?_, hlt, hlt, rfl⟩
        rw [e1, e2, w64' (x := gi p (i : Int) * gi q (k : Int)) (by omega) (by omega), w64' (x := gi (rowT q (gN p i) i k (mulT p q i)) ((i + k : Nat) : Int) + gi p (i : Int) * gi q (k : Int)) (by omega) (by omega)]
        refine (br_t (decide_eq_true (by omega))).trans ?_
        refine (q_of (inB_t' (by omega) (by omega))).trans ?_
        refine (q_of (inB_t' (by omega) (by omega))).trans ?_
        refine (q_of (inB_t' (by omega) (by omega))).trans ?_
        rw [Int.toNat_natCast]
        exact r_ret _
      · right
        have : k = q.length := by omega
        subst this
        have e2 : IntKind.i64.wrap ((i : Int) + 1) = ((i + 1 : Nat) : Int) := by rw [w64' (by omega) (by omega)]; omega
        rw [e2]
        exact (br_f (decide_eq_false (by omega))).trans (r_ret _)
    refine ⟨_, ?_, h0, h0, rfl⟩
    refine (br_t (decide_eq_true (by omega))).trans ?_
    refine (q_of (inB_t' (by omega) (by omega))).trans ?_
    rw [r_iter]
    exact inner
  · right
    have : i = p.length := by omega
    subst this
    rw [eL, Int.toNat_natCast, ← mulT_len p q p.length, List.take_length]
    refine (br_f (decide_eq_false (by omega))).trans ?_
    refine (r_bs (k_told _)).trans ?_
    exact r_ret _
theorem k_rTimes : ref01xTimes p q = some (toldV (prd p q), ()) := by
  have eL : IntKind.i64.wrap (IntKind.i64.wrap ((p.length : Int) + (q.length : Int)) - 1) = ((p.length + q.length - 1 : Nat) : Int) := by
    rw [w64' (x := (p.length : Int) + (q.length : Int)) (by omega) (by omega), w64' (by omega) (by omega)]; omega
  simp only [ref01xTimes, T_ref01xTimes, eL, Int.toNat_natCast]
  refine (q_of (decide_eq_true ⟨rfl, by omega, by omega, by omega⟩)).trans ?_
  rw [r_iter]
  refine iter_eq (fun i st => i ≤ p.length ∧ st = ((i : Int), mulT p q i, ())) _ p.length (by omega) ?_ ⟨Nat.zero_le _, rfl⟩
  rintro i st hi ⟨_, rfl⟩
  simp only [T_ref01xTimes_l0]
  by_cases h0 : i < p.length
  · left
    have inner : iterF (fun q_ => (T_ref01xTimes_l1 p q (i : Int) q_.1 q_.2.1).run) FUEL (0, mulT p q i, ()) = some (.inl (((i + 1 : Nat) : Int), mulT p q (i + 1), ())) := by
      refine iter_eq (fun k st => k ≤ q.length ∧ st = ((k : Int), rowT q (gN p i) i k (mulT p q i), ())) _ q.length (by omega) ?_ ⟨Nat.zero_le _, rfl⟩
      rintro k st hk ⟨_, rfl⟩
      simp only [T_ref01xTimes_l1, eL, Int.toNat_natCast]
      by_cases hlt : k < q.length
      · left
        obtain ⟨c1, c2⟩ := cell_bd h1 h2 bp bq h0 hlt
        have e1 : IntKind.i64.wrap ((i : Int) + (k : Int)) = ((i + k : Nat) : Int) := by rw [w64' (by omega) (by omega)]; omega
        have e2 : IntKind.i64.wrap ((k : Int) + 1) = ((k + 1 : Nat) : Int) := by rw [w64' (by omega) (by omega)]; omega
        refine ⟨_, ?_, hlt, hlt, rfl⟩
        rw [e1, e2, w64' (x := gi p (i : Int) * gi q (k : Int)) (by omega) (by omega), w64' (x := gi (rowT q (gN p i) i k (mulT p q i)) ((i + k : Nat) : Int) + gi p (i : Int) * gi q (k : Int)) (by omega) (by omega)]
        refine (br_t (decide_eq_true (by omega))).trans ?_
        refine (q_of (inB_t' (by omega) (by omega))).trans ?_
        refine (q_of (inB_t' (by omega) (by omega))).trans ?_
        refine (q_of (inB_t' (by omega) (by omega))).trans ?_
        refine (q_of (inB_t' (by omega) (by omega))).trans ?_
        rw [Int.toNat_natCast]
        exact r_ret _
      · right
        have : k = q.length := by omega
        subst this
        have e2 : IntKind.i64.wrap ((i : Int) + 1) = ((i + 1 : Nat) : Int) := by rw [w64' (by omega) (by omega)]; omega
        rw [e2]
        exact (br_f (decide_eq_false (by omega))).trans (r_ret _)
    refine ⟨_, ?_, h0, h0, rfl⟩
    refine (br_t (decide_eq_true (by omega))).trans ?_
    rw [r_iter]
    exact inner
  · right
    have : i = p.length := by omega
    subst this
    have hlen := mulT_len p q p.length
    rw [eL, Int.toNat_natCast, ← hlen, List.take_length]
    refine (br_f (decide_eq_false (by omega))).trans ?_
    refine (r_bs (k_rCheckPoly _)).trans ?_
    unfold toldV prd
    by_cases hz : pcE (mulT p q p.length) = 0
    · rw [if_pos hz, if_pos hz]; exact (br_f (nd hz)).trans (r_ret _)
    · rw [if_neg hz, if_neg hz]; exact (br_t (nd' hz)).trans (r_ret _)
end
def pc2 (p q : List Int) : Int := if pcE p = 0 then pcE q else pcE p
theorem k_Times {p q : List Int} : number_Times p q = some (if pc2 p q = 0 then toldV (prd p q) else ([], pc2 p q, ()), ()) := by
  simp only [number_Times, T_number_Times, r_iter]
  refine iter_eq (fun i st => (i = 0 ∧ st = (0, ())) ∨ (i = 1 ∧ st = (1, ()) ∧ pcE p = 0) ∨ (i = 2 ∧ st = (2, ()) ∧ pcE p = 0 ∧ pcE q = 0)) _ 2 (by omega) ?_ (.inl ⟨rfl, rfl⟩)
  rintro i st hi (⟨rfl, rfl⟩ | ⟨rfl, rfl, hp⟩ | ⟨rfl, rfl, hp, hq⟩)
  · simp only [T_number_Times_l0]
    by_cases c : pcE p = 0
    · left
      refine ⟨(1, ()), ?_, by omega, .inr (.inl ⟨by trivial, rfl, c⟩)⟩
      refine (br_t rfl).trans ?_
      refine (br_t rfl).trans ?_
      refine (r_bs (k_CheckPoly p)).trans ?_
      exact (br_f (nd c)).trans (r_ret _)
    · right
      have e : pc2 p q = pcE p := if_neg c
      rw [e, if_neg c]
      refine (br_t rfl).trans ?_
      refine (br_t rfl).trans ?_
      refine (r_bs (k_CheckPoly p)).trans ?_
      exact (br_t (nd' c)).trans (r_ret _)
  · simp only [T_number_Times_l0]
    have e : pc2 p q = pcE q := if_pos hp
    by_cases c : pcE q = 0
    · left
      refine ⟨(2, ()), ?_, by omega, .inr (.inr ⟨by trivial, rfl, hp, c⟩)⟩
      refine (br_t rfl).trans ?_
      refine (br_f rfl).trans ?_
      refine (br_t rfl).trans ?_
      refine (r_bs (k_CheckPoly q)).trans ?_
      exact (br_f (nd c)).trans (r_ret _)
    · right
      rw [e, if_neg c]
      refine (br_t rfl).trans ?_
      refine (br_f rfl).trans ?_
      refine (br_t rfl).trans ?_
      refine (r_bs (k_CheckPoly q)).trans ?_
      exact (br_t (nd' c)).trans (r_ret _)
  · right
    have e : pc2 p q = pcE q := if_pos hp
    rw [e, if_pos hq]
    obtain ⟨l1, l2, _⟩ := pcE_zero hp
    obtain ⟨l3, l4, _⟩ := pcE_zero hq
    have eL : IntKind.i64.wrap (IntKind.i64.wrap ((p.length : Int) + (q.length : Int)) - 1) = ((p.length + q.length - 1 : Nat) : Int) := by
      rw [w64' (x := (p.length : Int) + (q.length : Int)) (by omega) (by omega), w64' (by omega) (by omega)]; omega
    simp only [T_number_Times_l0, eL, Int.toNat_natCast]
    refine (br_f rfl).trans ?_
    refine (q_of (decide_eq_true ⟨rfl, by omega, by omega, by omega⟩)).trans ?_
    rw [r_iter]
    exact k_Times_rows l1 l2 l3 l4 (pc_bd hp) (pc_bd hq)

theorem k_NumberTimes {p : List (Int)} {q : List (Int)} {x : (Int × Int)} (b0 : bulkT (.list (.int .i64)) p ≤ 1048576) (w0 : wfT (.list (.int .i64)) p) (b1 : bulkT (.list (.int .i64)) q ≤ 1048576) (w1 : wfT (.list (.int .i64)) q) (b2 : bulkT (.pair (.int .i64) (.int .i64)) x ≤ 1048576) (w2 : wfT (.pair (.int .i64) (.int .i64)) x) : law01xNumberTimes p q x = some ((true, ()), ()) := by
  have hp : p.length ≤ 1048576 := Nat.le_trans (bulk_len (a := .int .i64) (by decide)) b0
  have hq : q.length ≤ 1048576 := Nat.le_trans (bulk_len (a := .int .i64) (by decide)) b1
  have h1 : I64 x.1 := w2.1
  have h2 : I64 x.2 := w2.2
  show (T_law01xNumberTimes p q x).run = _
  unfold T_law01xNumberTimes
  rw [r_bind, awake_ok, Option.bind_some]
  refine (br_f rfl).trans ?_
  by_cases hl : 10 < (p.length : Int)
  · exact (br_t (decide_eq_true hl)).trans (r_ret _)
  refine (br_f (decide_eq_false hl)).trans ?_
  by_cases hl2 : 10 < (q.length : Int)
  · exact (br_t (decide_eq_true hl2)).trans (r_ret _)
  refine (br_f (decide_eq_false hl2)).trans ?_
  refine (r_bs (k_CopyInts hp)).trans ?_
  refine (r_bs (k_CopyInts hq)).trans ?_
  by_cases c1 : pcE p = 0
  · have e : pc2 p q = pcE q := if_pos c1
    by_cases c2 : pcE q = 0
    · have kT := k_Times (p := p) (q := q)
      rw [e, if_pos c2] at kT
      obtain ⟨l1, l2, _⟩ := pcE_zero c1
      obtain ⟨l3, l4, _⟩ := pcE_zero c2
      have kR := k_rTimes l1 l2 l3 l4 (pc_bd c1) (pc_bd c2)
      have hts : (toldV (prd p q)).1.length ≤ 1048576 := by
        unfold toldV
        dsimp only
        split
        · unfold prd; rw [mulT_len]; omega
        · simp
      refine (r_bs kT).trans ?_
      refine (r_bs (k_rCheckPoly p)).trans ?_
      refine (br_t (decide_eq_true c1)).trans ?_
      refine (r_bs (k_rCheckPoly q)).trans ?_
      refine (br_f (nd c2)).trans ?_
      refine (r_bs kR).trans ?_
      refine (br_f (nd rfl)).trans ?_
      refine (r_bs (k_Ints hts)).trans ?_
      refine (br_f rfl).trans ?_
      by_cases c3 : pcE (prd p q) = 0
      · have et : toldV (prd p q) = (prd p q, 0, ()) := by unfold toldV; rw [if_pos c3, if_pos c3]
        rw [et]
        rw [et] at hts
        refine (br_f rfl).trans ?_
        refine (r_bs (k_fr1 h1 h2)).trans ?_
        by_cases c4 : cfE x = 0
        · have hx := cfE_zero.1 c4
          refine (br_f (nd c4)).trans ?_
          refine (r_bs (k_CopyInts hp)).trans ?_
          refine (r_bs (k_SignAt c1 hx)).trans ?_
          refine (r_bs (k_CopyInts hq)).trans ?_
          refine (r_bs (k_SignAt c2 hx)).trans ?_
          refine (r_bs (k_CopyInts hts)).trans ?_
          refine (r_bs (k_SignAt c3 hx)).trans ?_
          refine (br_t rfl).trans ?_
          refine (br_t rfl).trans ?_
          refine (br_t rfl).trans ?_
          have s1 := sgn_vals (hz p x.1 x.2)
          have s2 := sgn_vals (hz q x.1 x.2)
          refine (r_bs (k_Within _ _ _)).trans ?_
          refine (br_t (decide_eq_true (show -1 ≤ sgn (hz p x.1 x.2) ∧ sgn (hz p x.1 x.2) ≤ 1 by omega))).trans ?_
          refine (r_bs (k_Within _ _ _)).trans ?_
          refine (br_t (decide_eq_true (show -1 ≤ sgn (hz q x.1 x.2) ∧ sgn (hz q x.1 x.2) ≤ 1 by omega))).trans ?_
          refine (r_ret _).trans ?_
          have ew : IntKind.i64.wrap (sgn (hz p x.1 x.2) * sgn (hz q x.1 x.2)) = sgn (hz p x.1 x.2) * sgn (hz q x.1 x.2) := by
            rcases s1 with h | h | h <;> rcases s2 with h' | h' | h' <;> rw [h, h'] <;> rfl
          have ev : sgn (hz (prd p q) x.1 x.2) = IntKind.i64.wrap (sgn (hz p x.1 x.2) * sgn (hz q x.1 x.2)) := by
            rw [ew, hz_prd (by omega) (by omega), sgn_mul]
          have : decide (sgn (hz (prd p q) x.1 x.2) = IntKind.i64.wrap (sgn (hz p x.1 x.2) * sgn (hz q x.1 x.2))) = true := decide_eq_true ev
          rw [this]
        · exact (br_t (nd' c4)).trans (r_ret _)
      · have et : toldV (prd p q) = ([], 8, ()) := by unfold toldV; rw [if_neg c3, if_neg c3]
        rw [et]
        exact (br_t rfl).trans (r_ret _)
    · have kT := k_Times (p := p) (q := q)
      rw [e, if_neg c2] at kT
      refine (r_bs kT).trans ?_
      refine (r_bs (k_rCheckPoly p)).trans ?_
      refine (br_t (decide_eq_true c1)).trans ?_
      refine (r_bs (k_rCheckPoly q)).trans ?_
      refine (br_t (nd' c2)).trans ?_
      refine (br_t (decide_eq_true rfl)).trans ?_
      exact r_ret _
  · have e : pc2 p q = pcE p := if_neg c1
    have kT := k_Times (p := p) (q := q)
    rw [e, if_neg c1] at kT
    refine (r_bs kT).trans ?_
    refine (r_bs (k_rCheckPoly p)).trans ?_
    refine (br_f (decide_eq_false c1)).trans ?_
    refine (br_t (nd' c1)).trans ?_
    refine (br_t (decide_eq_true rfl)).trans ?_
    exact r_ret _
end Go.Ab
