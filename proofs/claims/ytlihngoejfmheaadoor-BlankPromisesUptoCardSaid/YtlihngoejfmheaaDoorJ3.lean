/- Stocks: the first batch; the law BlankStocks. -/
import Derived.Test.YtlihngoejfmheaaDoorJ2
namespace Go.Ab
open Go
set_option maxRecDepth 1000000
set_option maxHeartbeats 1000000
set_option linter.unusedVariables false
set_option linter.unusedSimpArgs false
set_option linter.unusedSectionVars false

theorem k_rleft' {s : List Bat} {l : List Pro} (hB : Bs s) {b : Nat} (hb : b < s.length) (hl : l.length ≤ 1048576) : ref03xleft s l (b : Int) = some ((lfI s l l.length (nm s b), ()), ()) := by
  rw [k_rleft hb (hB.rg b hb).2.2 hl]
  unfold lfI
  rw [atB_nm hB hb]
def fits (s : List Bat) (l : List Pro) (want : Int × Int) (i : Nat) : Prop := 0 < lfI s l l.length (nm s i) ∧ want.1 ≤ (gi s (i : Int)).2.1 ∧ want.2 ≤ (gi s (i : Int)).2.2.1
instance (s : List Bat) (l : List Pro) (want : Int × Int) (i : Nat) : Decidable (fits s l want i) := by unfold fits; infer_instance
def szB (b : Bat) : Int := IntKind.i64.wrap (IntKind.i64.wrap (b.2.1 * b.2.1) * b.2.2.1)
def bst (s : List Bat) (l : List Pro) (want : Int × Int) : Nat → Int
  | 0 => -1
  | i + 1 => if fits s l want i then (if bst s l want i < 0 then (i : Int) else if szB (gi s (i : Int)) < szB (gi s (bst s l want i)) then (i : Int) else bst s l want i) else bst s l want i
theorem bst_bd (s : List Bat) (l : List Pro) (want : Int × Int) : ∀ n : Nat, -1 ≤ bst s l want n ∧ bst s l want n < n
  | 0 => by simp only [bst]; omega
  | n + 1 => by
    have := bst_bd s l want n
    rw [bst]
    split
    · split
      · omega
      · split <;> omega
    · omega
def fbV (s : List Bat) (l : List Pro) (want : Int × Int) : List UInt8 × Int × Unit :=
  if 1 ≤ want.1 ∧ want.1 ≤ 1000 then (if 1 ≤ want.2 ∧ want.2 ≤ 500 then (if bst s l want s.length < 0 then ([], 12, ()) else ((gi s (bst s l want s.length)).1, 0, ())) else ([], 2, ())) else ([], 2, ())
section
variable {s : List Bat} {l : List Pro} (hn : Nms s) (hs : s.length ≤ 1048576) (hp : Nmp l) (hl : l.length ≤ 1048576) (want : Int × Int)
include hl
include hn hs hp
end
theorem k_stock {s : List Bat} (h : s.length ≤ 1048576) : law03xstock s = some ((s, ()), ()) := by
  simp only [law03xstock, T_law03xstock]
  exact (q_of (app_t' (by omega) (by omega))).trans (r_ret _)
theorem k_promises {l : List Pro} (h : l.length ≤ 1048576) : law03xpromises l = some ((l, ()), ()) := by
  simp only [law03xpromises, T_law03xpromises]
  exact (q_of (app_t' (by omega) (by omega))).trans (r_ret _)
theorem k_Ints {l : List Int} (h : l.length ≤ 1048576) : base_Ints l l = some ((true, ()), ()) := by
  show (T_base_Ints l l).run = _
  unfold T_base_Ints
  refine (br_f (nd (p := (l.length : Int) = l.length) rfl)).trans ?_
  rw [r_iter]
  refine iter_eq (fun i x => x = ((i : Int), ())) _ l.length (by omega) ?_ rfl
  rintro i x hi rfl
  by_cases hlt : i < l.length
  · left
    refine ⟨_, ?_, hlt, rfl⟩
    show (T_base_Ints_l0 l l _).run = _
    unfold T_base_Ints_l0
    refine (br_t (decide_eq_true (by omega))).trans ?_
    refine (q_of (inB_t' (by omega) (by omega))).trans ?_
    refine (q_of (inB_t' (by omega) (by omega))).trans ?_
    refine (br_f (nd rfl)).trans ((r_ret _).trans ?_)
    rw [w1 i (by omega)]
  · right
    show (T_base_Ints_l0 l l _).run = _
    unfold T_base_Ints_l0
    exact (br_f (decide_eq_false (by omega))).trans (r_ret _)
theorem k_shortL {s : List Bat} {l : List Pro} (h1 : s.length ≤ 43) (h2 : l.length ≤ 203) : ∃ b : Bool, iterF (fun q_ => (T_law03xshort_l0 s l q_.1).run) FUEL (0, ()) = some ((b, ()), ()) ∧ (b = true → Nms s ∧ Nmp l) := by
  have inner : ∃ r, iterF (fun q_ => (T_law03xshort_l1 l q_.1).run) FUEL (0, ()) = some r ∧ ∃ b : Bool, r = .inr ((b, ()), ()) ∧ (b = true → Nmp l) := by
    refine iter_post (fun i st => st = ((i : Int), ()) ∧ ∀ j, j < i → (mi l j).length ≤ 1048576) _ l.length (by omega) ?_ ⟨rfl, fun j hj => by omega⟩
    rintro i st hi ⟨rfl, hpre⟩
    simp only [T_law03xshort_l1]
    by_cases h0 : i < l.length
    · have hin : inB (i : Int) l.length = true := inB_t' (by omega) (by omega)
      by_cases q1 : 30 < ((gi l (i : Int)).1.length : Int)
      · right
        exact ⟨_, (br_t (decide_eq_true (by omega))).trans ((q_of hin).trans ((br_t (decide_eq_true q1)).trans (r_ret _))), false, rfl, fun h => by cases h⟩
      · by_cases q2 : 30 < ((gi l (i : Int)).2.length : Int)
        · right
          exact ⟨_, (br_t (decide_eq_true (by omega))).trans ((q_of hin).trans ((br_f (decide_eq_false q1)).trans ((q_of hin).trans ((br_t (decide_eq_true q2)).trans (r_ret _))))), false, rfl, fun h => by cases h⟩
        · left
          refine ⟨(((i + 1 : Nat) : Int), ()), ?_, h0, rfl, fun j hj => ?_⟩
          · rw [← w1 i (by omega)]
            exact (br_t (decide_eq_true (by omega))).trans ((q_of hin).trans ((br_f (decide_eq_false q1)).trans ((q_of hin).trans ((br_f (decide_eq_false q2)).trans (r_ret _)))))
          · by_cases e : j = i
            · rw [e]; unfold mi; omega
            · exact hpre j (by omega)
    · right
      refine ⟨_, (br_f (decide_eq_false (by omega))).trans (r_ret _), true, rfl, fun _ j hj => hpre j (by omega)⟩
  obtain ⟨ri, ki, bi, rfl, hbi⟩ := inner
  have outer : ∃ r, iterF (fun q_ => (T_law03xshort_l0 s l q_.1).run) FUEL (0, ()) = some r ∧ ∃ b : Bool, r = ((b, ()), ()) ∧ (b = true → Nms s ∧ Nmp l) := by
    refine iter_post (fun i st => st = ((i : Int), ()) ∧ ∀ j, j < i → (nm s j).length ≤ 1048576) _ s.length (by omega) ?_ ⟨rfl, fun j hj => by omega⟩
    rintro i st hi ⟨rfl, hpre⟩
    simp only [T_law03xshort_l0]
    by_cases h0 : i < s.length
    · have hin : inB (i : Int) s.length = true := inB_t' (by omega) (by omega)
      by_cases q1 : 30 < ((gi s (i : Int)).1.length : Int)
      · right
        exact ⟨_, (br_t (decide_eq_true (by omega))).trans ((q_of hin).trans ((br_t (decide_eq_true q1)).trans (r_ret _))), false, rfl, fun h => by cases h⟩
      · left
        refine ⟨(((i + 1 : Nat) : Int), ()), ?_, h0, rfl, fun j hj => ?_⟩
        · rw [← w1 i (by omega)]
          exact (br_t (decide_eq_true (by omega))).trans ((q_of hin).trans ((br_f (decide_eq_false q1)).trans (r_ret _)))
        · by_cases e : j = i
          · rw [e]; unfold nm; omega
          · exact hpre j (by omega)
    · right
      refine ⟨_, (br_f (decide_eq_false (by omega))).trans ?_, bi, rfl, fun h => ⟨fun j hj => hpre j (by omega), hbi h⟩⟩
      rw [r_iter]
      exact ki
  obtain ⟨r, k, b, rfl, hb⟩ := outer
  exact ⟨b, k, hb⟩
theorem k_short (s : List Bat) (l : List Pro) : ∃ b : Bool, law03xshort s l = some ((b, ()), ()) ∧ (b = true → Nms s ∧ Nmp l ∧ s.length ≤ 43 ∧ l.length ≤ 203) := by
  simp only [law03xshort, T_law03xshort]
  have no : ∀ b : Bool, b = false → (b = true → Nms s ∧ Nmp l ∧ s.length ≤ 43 ∧ l.length ≤ 203) := fun b h h' => by rw [h] at h'; cases h'
  by_cases c0 : 6 < (s.length : Int)
  · by_cases c1 : (s.length : Int) ≤ 40
    · exact ⟨false, (br_t (decide_eq_true c0)).trans ((br_t (decide_eq_true c1)).trans (r_ret _)), no _ rfl⟩
    · by_cases c2 : 43 < (s.length : Int)
      · exact ⟨false, (br_t (decide_eq_true c0)).trans ((br_f (decide_eq_false c1)).trans ((br_t (decide_eq_true c2)).trans (r_ret _))), no _ rfl⟩
      · by_cases c3 : 10 < (l.length : Int)
        · by_cases c4 : (l.length : Int) ≤ 200
          · exact ⟨false, (br_t (decide_eq_true c0)).trans ((br_f (decide_eq_false c1)).trans ((br_f (decide_eq_false c2)).trans ((br_t (decide_eq_true c3)).trans ((br_t (decide_eq_true c4)).trans (r_ret _))))), no _ rfl⟩
          · by_cases c5 : 203 < (l.length : Int)
            · exact ⟨false, (br_t (decide_eq_true c0)).trans ((br_f (decide_eq_false c1)).trans ((br_f (decide_eq_false c2)).trans ((br_t (decide_eq_true c3)).trans ((br_f (decide_eq_false c4)).trans ((br_t (decide_eq_true c5)).trans (r_ret _)))))), no _ rfl⟩
            · obtain ⟨b, k, hb⟩ := k_shortL (s := s) (l := l) (by omega) (by omega)
              exact ⟨b, (br_t (decide_eq_true c0)).trans ((br_f (decide_eq_false c1)).trans ((br_f (decide_eq_false c2)).trans ((br_t (decide_eq_true c3)).trans ((br_f (decide_eq_false c4)).trans ((br_f (decide_eq_false c5)).trans ((r_iter _ _ _).trans k)))))), fun h => ⟨(hb h).1, (hb h).2, by omega, by omega⟩⟩
        · by_cases c5 : 203 < (l.length : Int)
          · omega
          · obtain ⟨b, k, hb⟩ := k_shortL (s := s) (l := l) (by omega) (by omega)
            exact ⟨b, (br_t (decide_eq_true c0)).trans ((br_f (decide_eq_false c1)).trans ((br_f (decide_eq_false c2)).trans ((br_f (decide_eq_false c3)).trans ((br_f (decide_eq_false c5)).trans ((r_iter _ _ _).trans k))))), fun h => ⟨(hb h).1, (hb h).2, by omega, by omega⟩⟩
  · by_cases c2 : 43 < (s.length : Int)
    · omega
    · by_cases c3 : 10 < (l.length : Int)
      · by_cases c4 : (l.length : Int) ≤ 200
        · exact ⟨false, (br_f (decide_eq_false c0)).trans ((br_f (decide_eq_false c2)).trans ((br_t (decide_eq_true c3)).trans ((br_t (decide_eq_true c4)).trans (r_ret _)))), no _ rfl⟩
        · by_cases c5 : 203 < (l.length : Int)
          · exact ⟨false, (br_f (decide_eq_false c0)).trans ((br_f (decide_eq_false c2)).trans ((br_t (decide_eq_true c3)).trans ((br_f (decide_eq_false c4)).trans ((br_t (decide_eq_true c5)).trans (r_ret _))))), no _ rfl⟩
          · obtain ⟨b, k, hb⟩ := k_shortL (s := s) (l := l) (by omega) (by omega)
            exact ⟨b, (br_f (decide_eq_false c0)).trans ((br_f (decide_eq_false c2)).trans ((br_t (decide_eq_true c3)).trans ((br_f (decide_eq_false c4)).trans ((br_f (decide_eq_false c5)).trans ((r_iter _ _ _).trans k))))), fun h => ⟨(hb h).1, (hb h).2, by omega, by omega⟩⟩
      · by_cases c5 : 203 < (l.length : Int)
        · omega
        · obtain ⟨b, k, hb⟩ := k_shortL (s := s) (l := l) (by omega) (by omega)
          exact ⟨b, (br_f (decide_eq_false c0)).trans ((br_f (decide_eq_false c2)).trans ((br_f (decide_eq_false c3)).trans ((br_f (decide_eq_false c5)).trans ((r_iter _ _ _).trans k)))), fun h => ⟨(hb h).1, (hb h).2, by omega, by omega⟩⟩
/-! ### What is left and what is promised add up -/
def sumC (s : List Bat) (l : List Pro) (n : Nat) : Nat → Int
  | 0 => 0
  | i + 1 => sumC s l n i + cntP l (nm s i) n
def ind (s : List Bat) (x : List UInt8) : Nat → Int
  | 0 => 0
  | i + 1 => ind s x i + if x = nm s i then 1 else 0
theorem ind_at {s : List Bat} (hB : Bs s) {j : Nat} (hj : j < s.length) : ∀ i, i ≤ s.length → ind s (nm s j) i = if j < i then 1 else 0
  | 0, _ => by rw [if_neg (by omega)]; rfl
  | i + 1, hi => by
    rw [ind, ind_at hB hj i (by omega)]
    by_cases e : nm s j = nm s i
    · have := hB.dst j i hj (by omega) e
      subst this
      rw [if_neg (by omega), if_pos rfl, if_pos (by omega)]; rfl
    · have : j ≠ i := fun h => e (by rw [h])
      rw [if_neg e, Int.add_zero]
      by_cases q : j < i
      · rw [if_pos q, if_pos (by omega)]
      · rw [if_neg q, if_neg (by omega)]
theorem sumC_succ (s : List Bat) (l : List Pro) (n : Nat) : ∀ i, sumC s l (n + 1) i = sumC s l n i + ind s (ba l n) i
  | 0 => rfl
  | i + 1 => by rw [sumC, sumC, ind, sumC_succ s l n i, cntP]; omega
theorem sumC_zero (s : List Bat) (l : List Pro) : ∀ i, sumC s l 0 i = 0
  | 0 => rfl
  | i + 1 => by rw [sumC, sumC_zero s l i]; rfl
theorem sumC_all {s : List Bat} {l : List Pro} (hB : Bs s) : ∀ n : Nat, (∀ j, j < n → 0 ≤ atB s (ba l j)) → sumC s l n s.length = n
  | 0, _ => sumC_zero s l _
  | n + 1, h => by
    rw [sumC_succ, sumC_all hB n (fun j hj => h j (by omega))]
    obtain ⟨j, h1, h2, h3⟩ := atB_get (h n (by omega))
    rw [← h3, ind_at hB h1 _ (Nat.le_refl _), if_pos h1]; omega
theorem sumC_bd (s : List Bat) (l : List Pro) (n : Nat) : ∀ i : Nat, 0 ≤ sumC s l n i ∧ sumC s l n i ≤ i * n
  | 0 => by simp [sumC]
  | i + 1 => by
    have := sumC_bd s l n i
    have := cntP_bd l (nm s i) n
    rw [sumC]
    have e : ((i + 1 : Nat) : Int) * n = i * n + n := by
      rw [show ((i + 1 : Nat) : Int) = (i : Int) + 1 by omega, Int.add_mul, Int.one_mul]
    omega
theorem lofV_get {s : List Bat} {l : List Pro} : ∀ {n i : Nat}, i < n → gi (lofV s l n) (i : Int) = lfI s l l.length (nm s i) ∧ (lofV s l n).length = n
  | 0, i, h => by omega
  | n + 1, i, h => by
    have hlen : ∀ k, (lofV s l k).length = k := by
      intro k
      induction k with
      | zero => rfl
      | succ k ih => simp [lofV, ih]
    refine ⟨?_, hlen _⟩
    rw [lofV]
    by_cases e : i = n
    · subst e
      have hh := hlen i
      rw [gi_nat (by simp [hh]), List.getElem_append_right (by omega)]
      simp [hh]
    · rw [← (lofV_get (s := s) (l := l) (n := n) (i := i) (by omega)).1]
      have hh := hlen n
      rw [gi_nat (by simp [hh]; omega), gi_nat (by omega), List.getElem_append_left (by omega)]
end Go.Ab
