/- Mirrors one behind the other: Chain of the program and of the reference; CoatChains answers true. -/
import Derived.Test.YtpnpehoebfdcoaaN2
import Derived.Test.YtpnpehoebfdcoaaQLCoatChains
namespace Go.Ab
open Go
set_option maxRecDepth 1000000
set_option maxHeartbeats 1000000
set_option linter.unusedVariables false
set_option linter.unusedSimpArgs false

/-- The reflectance at a wavelength, zero where there is none. -/
def atV (l : Cur) (x : Int) : Int × Int := ((coat_At l x).getD (((0, 0), (0, ())), ())).1.1
theorem atV_all (l : Cur) (x : Int) : coat_At l x = some ((atV l x, atE l x, ()), ()) ∧ ref08xAt l x = some ((atV l x, atE l x, ()), ()) ∧ (atE l x ≠ 0 → atV l x = (0, 0)) ∧ (∀ i, atE l x = 0 → Seg l x i → atV l x = segV (gi l (i : Int)) (gi l ((i : Int) + 1)) x) := by
  obtain ⟨v, h1, h2, h3, h4⟩ := k_At2 l x
  have e : atV l x = v := by unfold atV; rw [h1]; rfl
  rw [e]; exact ⟨h1, h2, h3, h4⟩
theorem k_At (l : Cur) (x : Int) : coat_At l x = some ((atV l x, atE l x, ()), ()) := (atV_all l x).1
theorem k_rAt (l : Cur) (x : Int) : ref08xAt l x = some ((atV l x, atE l x, ()), ()) := (atV_all l x).2.1
theorem atV_0 {l : Cur} {x : Int} (h : atE l x ≠ 0) : atV l x = (0, 0) := (atV_all l x).2.2.1 h
theorem atV_seg {l : Cur} {x : Int} {i : Nat} (h : atE l x = 0) (s : Seg l x i) : atV l x = segV (gi l (i : Int)) (gi l ((i : Int) + 1)) x := (atV_all l x).2.2.2 i h s
theorem atV_bd (l : Cur) (x : Int) : 0 ≤ (atV l x).1 ∧ (atV l x).1 ≤ 1000 ∧ 0 ≤ (atV l x).2 ∧ (atV l x).2 ≤ 1000 := by
  by_cases h : atE l x = 0
  · obtain ⟨hc, _, _, _, i, s⟩ := atE_0 h
    obtain ⟨p, q, hp, hq, f1, f2, f3, f4, f5, f6, f7, f8, f9, f10, f11⟩ := s.facts hc
    rw [atV_seg h s, hp, hq]
    exact segV_bd f1 f2 f3 f6 f7 f8 f9 f10 f11
  · rw [atV_0 h]; decide

/-- What is left behind so many mirrors. -/
def chS (l : List Cur) (x : Int) : Nat → Int × Int
  | 0 => (1000, 1000)
  | k + 1 => ((chS l x k).1 * (atV (gi l (k : Int)) x).1 / 1000, -(-((chS l x k).2 * (atV (gi l (k : Int)) x).2) / 1000))
theorem step_bd {a b : Int} (h1 : 0 ≤ a) (h2 : a ≤ 1000) (h3 : 0 ≤ b) (h4 : b ≤ 1000) : 0 ≤ a * b ∧ a * b ≤ 1000 * a ∧ 0 ≤ a * b / 1000 ∧ a * b / 1000 ≤ a ∧ 0 ≤ -(-(a * b) / 1000) ∧ -(-(a * b) / 1000) ≤ a := by
  have h5 := Int.mul_nonneg h1 h3
  have h6 := Int.mul_le_mul_of_nonneg_left h4 h1
  omega
theorem chS_bd (l : List Cur) (x : Int) : ∀ k, 0 ≤ (chS l x k).1 ∧ (chS l x k).1 ≤ 1000 ∧ 0 ≤ (chS l x k).2 ∧ (chS l x k).2 ≤ 1000
  | 0 => by simp [chS]
  | k + 1 => by
    have h := chS_bd l x k
    have v := atV_bd (gi l (k : Int)) x
    have a := step_bd h.1 h.2.1 v.1 v.2.1
    have b := step_bd h.2.2.1 h.2.2.2 v.2.2.1 v.2.2.2
    simp only [chS]
    omega
theorem chS_le (l : List Cur) (x : Int) (k : Nat) : (chS l x (k + 1)).1 ≤ (chS l x k).1 ∧ (chS l x (k + 1)).2 ≤ (chS l x k).2 := by
  have h := chS_bd l x k
  have v := atV_bd (gi l (k : Int)) x
  have a := step_bd h.1 h.2.1 v.1 v.2.1
  have b := step_bd h.2.2.1 h.2.2.2 v.2.2.1 v.2.2.2
  simp only [chS]
  omega
theorem gi_take {α : Type} [Inhabited α] {l : List α} {n k : Nat} (h : k < n) : gi (l.take n) (k : Int) = gi l (k : Int) := by
  simp [gi, List.getD, List.getElem?_take, h]
theorem chS_take (l : List Cur) (x : Int) {n : Nat} : ∀ k, k ≤ n → chS (l.take n) x k = chS l x k
  | 0, _ => rfl
  | k + 1, h => by simp only [chS]; rw [chS_take l x k (by omega), gi_take (by omega)]
def chE (l : List Cur) (x : Int) (k : Nat) : Int := atE (gi l (k : Int)) x
def chR (l : List Cur) (x : Int) (e : Int) : ((Int × Int) × (Int × Unit)) × Unit := (((if e = 0 then chS l x l.length else (0, 0)), (e, ())), ())
def chV (l : List Cur) (x : Int) : ((Int × Int) × (Int × Unit)) × Unit := if 10 < l.length then (((0, 0), (8, ())), ()) else chR l x (firstErr (chE l x) l.length)

theorem k_Chain (l : List Cur) (x : Int) : coat_Chain l x = some (chV l x) := by
  simp only [coat_Chain, T_coat_Chain, chV]
  by_cases h : 10 < l.length
  · rw [if_pos h]
    exact (br_t (decide_eq_true (by omega))).trans (r_ret _)
  · rw [if_neg h]
    refine (br_f (decide_eq_false (by omega))).trans ?_
    rw [r_iter]
    refine iter_err (fun i => ((i : Int), (0, 0), chS l x i, ())) (chE l x) l.length (by omega) (chR l x) (fun i hi _ he => ?_) (fun i hi _ he => ?_) (fun _ => ?_)
    · unfold T_coat_Chain_l0
      refine (br_t (decide_eq_true (by omega))).trans ?_
      refine (q_of (inB_t' (by omega) (by omega))).trans ?_
      refine (r_bs (k_At _ _)).trans ?_
      refine (br_t (by have : atE (gi l (i : Int)) x ≠ 0 := he; simp [this])).trans ?_
      refine (r_ret _).trans ?_
      simp only [chR, if_neg he]; rfl
    · unfold T_coat_Chain_l0
      have h := chS_bd l x i
      have v := atV_bd (gi l (i : Int)) x
      have a := step_bd h.1 h.2.1 v.1 v.2.1
      have b := step_bd h.2.2.1 h.2.2.2 v.2.2.1 v.2.2.2
      refine (br_t (decide_eq_true (by omega))).trans ?_
      refine (q_of (inB_t' (by omega) (by omega))).trans ?_
      refine (r_bs (k_At _ _)).trans ?_
      refine (br_f (by have : atE (gi l (i : Int)) x = 0 := he; simp [this])).trans ?_
      dsimp only
      rw [w64' (x := (chS l x i).1 * (atV (gi l (i : Int)) x).1) (by omega) (by omega), w64' (x := (chS l x i).2 * (atV (gi l (i : Int)) x).2) (by omega) (by omega), w64' (x := (i : Int) + 1) (by omega) (by omega)]
      refine (r_bs (k_floor (n := (chS l x i).1 * (atV (gi l (i : Int)) x).1) (b := 1000) (by omega) (by omega) (by omega) (by omega))).trans ?_
      refine (r_bs (k_ceil (n := (chS l x i).2 * (atV (gi l (i : Int)) x).2) (b := 1000) (by omega) (by omega) (by omega) (by omega))).trans ?_
      exact r_ret _
    · unfold T_coat_Chain_l0
      refine (br_f (decide_eq_false (by omega))).trans ?_
      exact r_ret _
theorem k_rChain (l : List Cur) (x : Int) : ref08xChain l x = some (chV l x) := by
  simp only [ref08xChain, T_ref08xChain, chV]
  by_cases h : 10 < l.length
  · rw [if_pos h]
    exact (br_t (decide_eq_true (by omega))).trans (r_ret _)
  · rw [if_neg h]
    refine (br_f (decide_eq_false (by omega))).trans ?_
    rw [r_iter]
    refine iter_err (fun i => ((i : Int), (0, 0), chS l x i, ())) (chE l x) l.length (by omega) (chR l x) (fun i hi _ he => ?_) (fun i hi _ he => ?_) (fun _ => ?_)
    · unfold T_ref08xChain_l0
      refine (br_t (decide_eq_true (by omega))).trans ?_
      refine (q_of (inB_t' (by omega) (by omega))).trans ?_
      refine (r_bs (k_rAt _ _)).trans ?_
      refine (br_t (by have : atE (gi l (i : Int)) x ≠ 0 := he; simp [this])).trans ?_
      refine (r_ret _).trans ?_
      simp only [chR, if_neg he]; rfl
    · unfold T_ref08xChain_l0
      have h := chS_bd l x i
      have v := atV_bd (gi l (i : Int)) x
      have a := step_bd h.1 h.2.1 v.1 v.2.1
      have b := step_bd h.2.2.1 h.2.2.2 v.2.2.1 v.2.2.2
      refine (br_t (decide_eq_true (by omega))).trans ?_
      refine (q_of (inB_t' (by omega) (by omega))).trans ?_
      refine (r_bs (k_rAt _ _)).trans ?_
      refine (br_f (by have : atE (gi l (i : Int)) x = 0 := he; simp [this])).trans ?_
      dsimp only
      rw [w64' (x := (chS l x i).1 * (atV (gi l (i : Int)) x).1) (by omega) (by omega), w64' (x := (chS l x i).2 * (atV (gi l (i : Int)) x).2) (by omega) (by omega), w64' (x := (i : Int) + 1) (by omega) (by omega)]
      refine (r_bs (k_Floor (n := (chS l x i).1 * (atV (gi l (i : Int)) x).1) (b := 1000) (by omega) (by omega) (by omega) (by omega))).trans ?_
      refine (r_bs (k_Ceil (n := (chS l x i).2 * (atV (gi l (i : Int)) x).2) (b := 1000) (by omega) (by omega) (by omega) (by omega))).trans ?_
      exact r_ret _
    · unfold T_ref08xChain_l0
      refine (br_f (decide_eq_false (by omega))).trans ?_
      exact r_ret _

/-- With one mirror more it is not brighter. -/
theorem chV_less {l : List Cur} {x : Int} (h : (chV l x).1.2.1 = 0) (h1 : 0 < l.length) :
    (chV (l.take (l.length - 1)) x).1.2.1 = 0 ∧ (chV l x).1.1.1 ≤ (chV (l.take (l.length - 1)) x).1.1.1 ∧ (chV l x).1.1.2 ≤ (chV (l.take (l.length - 1)) x).1.1.2 := by
  unfold chV at h
  split at h
  · cases h
  rename_i hl
  have h0 : firstErr (chE l x) l.length = 0 := h
  have hr := firstErr_eq0 h0
  have hlen : (l.take (l.length - 1)).length = l.length - 1 := by simp
  have h2 : firstErr (chE (l.take (l.length - 1)) x) (l.take (l.length - 1)).length = 0 := by
    refine firstErr_0 fun j hj => ?_
    rw [hlen] at hj
    unfold chE
    rw [gi_take hj]
    exact hr j (by omega)
  have e1 : chV l x = chR l x 0 := by unfold chV; rw [if_neg hl, h0]
  have e2 : chV (l.take (l.length - 1)) x = chR (l.take (l.length - 1)) x 0 := by unfold chV; rw [if_neg (by omega), h2]
  rw [e1, e2]
  unfold chR
  simp only [if_true, hlen]
  rw [chS_take l x _ (Nat.le_refl _)]
  have := chS_le l x (l.length - 1)
  rw [show l.length - 1 + 1 = l.length by omega] at this
  exact ⟨trivial, this⟩

theorem k_own {l : List Cur} (x : Int) (hl : l.length ≤ 13) : iterF (fun q_ : List Cur × Int × Unit => (T_law08xCoatChains_l1 l x q_.1 q_.2.1).run) FUEL ([], 0, ()) = some ((true, ()), ()) := by
  refine iter_eq (fun k y => y = (l.take k, (k : Int), ()) ∧ k ≤ l.length) _ l.length (by omega) ?_ ⟨rfl, by omega⟩
  rintro k y hk ⟨rfl, hk'⟩
  dsimp only
  unfold T_law08xCoatChains_l1
  by_cases e : k < l.length
  · obtain ⟨b, hf, hb⟩ := k_few (gi l (k : Int))
    cases b with
    | false =>
      right
      refine (br_t (decide_eq_true (by omega))).trans ?_
      refine (q_of (inB_t' (by omega) (by omega))).trans ?_
      refine (r_bs hf).trans ?_
      exact (br_t rfl).trans (r_ret _)
    | true =>
      left
      have ht : l.take (k + 1) = l.take k ++ [gi l (k : Int)] := by
        rw [gi_nat e, List.take_succ_eq_append_getElem e]
      refine ⟨(l.take (k + 1), ((k + 1 : Nat) : Int), ()), ?_, e, rfl, by omega⟩
      refine (br_t (decide_eq_true (by omega))).trans ?_
      refine (q_of (inB_t' (by omega) (by omega))).trans ?_
      refine (r_bs hf).trans ?_
      refine (br_f rfl).trans ?_
      refine (q_of (inB_t' (by omega) (by omega))).trans ?_
      refine (r_bs (k_table (hb rfl))).trans ?_
      refine (q_of (decide_eq_true rfl)).trans ?_
      have hlen : (l.take k).length = k := by simp; omega
      refine (q_of (app_t' (by rw [hlen]; show k + 1 ≤ _; omega) (by rw [hlen]; show (k + 1) * 24 ≤ _; omega))).trans ?_
      refine (q_of (decide_eq_true (by simp))).trans ?_
      rw [w64' (x := (k : Int) + 1) (by omega) (by omega)]
      refine (r_ret _).trans ?_
      rw [ht]
      rfl
  · right
    have ek : k = l.length := by omega
    subst ek
    rw [List.take_length]
    refine (br_f (decide_eq_false (by omega))).trans ?_
    refine (r_bs (k_Chain l x)).trans ?_
    refine (r_bs (k_rChain l x)).trans ?_
    refine (br_f (by simp)).trans ?_
    refine (br_f (by simp)).trans ?_
    by_cases h : (chV l x).1.2.1 = 0
    · refine (br_f (by simp [h])).trans ?_
      by_cases h0 : l.length = 0
      · refine (br_t (decide_eq_true (by omega))).trans ?_
        exact r_ret _
      · refine (br_f (decide_eq_false (by omega))).trans ?_
        rw [w64' (x := (l.length : Int) - 1) (by omega) (by omega)]
        refine (q_of (bnd_t' (by omega) (by omega) (by omega))).trans ?_
        have hp : part l 0 ((l.length : Int) - 1) = l.take (l.length - 1) := by
          unfold part
          rw [show ((l.length : Int) - 1).toNat = l.length - 1 by omega]
          rfl
        rw [hp]
        refine (r_bs (k_Chain _ x)).trans ?_
        obtain ⟨g1, g2, g3⟩ := chV_less h (by omega)
        refine (br_t (decide_eq_true g1)).trans ?_
        refine (br_t (decide_eq_true g2)).trans ?_
        refine (r_ret _).trans ?_
        rw [decide_eq_true g3]
    · refine (br_t (by simp [h])).trans ?_
      exact r_ret _

theorem k_CoatChains {l : List (List ((Int × (Int × Int))))} {x : Int} (b0 : bulkT (.list (.list (.pair (.int .i64) (.pair (.int .i64) (.int .i64))))) l ≤ 1048576) (w0 : wfT (.list (.list (.pair (.int .i64) (.pair (.int .i64) (.int .i64))))) l) (b1 : bulkT (.int .i64) x ≤ 1048576) (w1 : wfT (.int .i64) x) : law08xCoatChains l x = some ((true, ()), ()) := by
  simp only [law08xCoatChains, T_law08xCoatChains]
  rw [r_bind, awake_ok, Option.bind_some]
  refine (br_f rfl).trans ?_
  by_cases h5 : 5 < l.length
  · refine (br_t (decide_eq_true (by omega))).trans ?_
    by_cases h10 : l.length ≤ 10
    · exact (br_t (decide_eq_true (by omega))).trans (r_ret _)
    · refine (br_f (decide_eq_false (by omega))).trans ?_
      by_cases h13 : 13 < l.length
      · exact (br_t (decide_eq_true (by omega))).trans (r_ret _)
      · refine (br_f (decide_eq_false (by omega))).trans ?_
        refine (q_of rfl).trans ?_
        rw [r_iter]
        exact k_own x (by omega)
  · refine (br_f (decide_eq_false (by omega))).trans ?_
    refine (br_f (decide_eq_false (by omega))).trans ?_
    refine (q_of rfl).trans ?_
    rw [r_iter]
    exact k_own x (by omega)
end Go.Ab
