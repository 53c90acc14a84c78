/- Stocks: the first batch. -/
import Derived.Test.YtlihngoejfmheaaJ2
namespace Go.Ab
open Go
set_option maxRecDepth 1000000
set_option maxHeartbeats 1000000
set_option linter.unusedVariables false
set_option linter.unusedSimpArgs false
set_option linter.unusedSectionVars false

theorem k_rleft' {s : List Bat} {l : List Pro} (hB : Bs s) {b : Nat} (hb : b < s.length) (hl : l.length ≤ 1048576) : ref03xleft s l (b : Int) = some ((lfI s l l.length (nm s b), ()), ()) := by
  rw [k_rleft hb (hB.rg b hb).2.2 hl]
  unfold lfI
  rw [atB_nm hB hb]
theorem k_rLeftOf {s : List Bat} {l : List Pro} (hB : Bs s) (hl : l.length ≤ 1048576) : ref03xLeftOf s l = some ((lofV s l s.length, ()), ()) := by
  have hle := hB.le
  simp only [ref03xLeftOf, T_ref03xLeftOf]
  refine (q_of rfl).trans ?_
  rw [r_iter]
  refine iter_eq (fun i st => i ≤ s.length ∧ st = (lofV s l i, (i : Int), ()) ∧ (lofV s l i).length = i) _ s.length (by omega) ?_ ⟨Nat.zero_le _, rfl, rfl⟩
  rintro i st hi ⟨_, rfl, hlen⟩
  simp only [T_ref03xLeftOf_l0]
  by_cases h0 : i < s.length
  · left
    refine ⟨(lofV s l (i + 1), ((i + 1 : Nat) : Int), ()), ?_, h0, h0, rfl, by simp [lofV, hlen]⟩
    refine (br_t (decide_eq_true (by omega))).trans ?_
    refine (r_bs (k_rleft' hB h0 hl)).trans ?_
    refine (q_of (decide_eq_true trivial)).trans ?_
    refine (q_of (app_t' (by simp; omega) (by simp; omega))).trans ?_
    refine (q_of (decide_eq_true (by simp))).trans ((r_ret _).trans ?_)
    rw [w1 i (by omega)]; rfl
  · right
    have : i = s.length := by omega
    subst this
    exact (br_f (decide_eq_false (by omega))).trans (r_ret _)
def fits (s : List Bat) (l : List Pro) (want : Int × Int) (i : Nat) : Prop := 0 < lfI s l l.length (nm s i) ∧ want.1 ≤ (gi s (i : Int)).2.1 ∧ want.2 ≤ (gi s (i : Int)).2.2.1
instance (s : List Bat) (l : List Pro) (want : Int × Int) (i : Nat) : Decidable (fits s l want i) := by unfold fits; infer_instance
def szB (b : Bat) : Int := IntKind.i64.wrap (IntKind.i64.wrap (b.2.1 * b.2.1) * b.2.2.1)
def bst (s : List Bat) (l : List Pro) (want : Int × Int) : Nat → Int
  | 0 => -1
  | i + 1 => if fits s l want i then (if bst s l want i < 0 then (i : Int) else if szB (gi s (i : Int)) < szB (gi s (bst s l want i)) then (i : Int) else bst s l want i) else bst s l want i
theorem bst_bd (s : List Bat) (l : List Pro) (want : Int × Int) : ∀ n : Nat, -1 ≤ bst s l want n ∧ bst s l want n < n
  | 0 => by simp only [bst]; omega
  | n + 1 => by
    have := bst_bd s l want n
    rw [bst]
    split
    · split
      · omega
      · split <;> omega
    · omega
def fbV (s : List Bat) (l : List Pro) (want : Int × Int) : List UInt8 × Int × Unit :=
  if 1 ≤ want.1 ∧ want.1 ≤ 1000 then (if 1 ≤ want.2 ∧ want.2 ≤ 500 then (if bst s l want s.length < 0 then ([], 12, ()) else ((gi s (bst s l want s.length)).1, 0, ())) else ([], 2, ())) else ([], 2, ())
section
variable {s : List Bat} {l : List Pro} (hn : Nms s) (hs : s.length ≤ 1048576) (hp : Nmp l) (hl : l.length ≤ 1048576) (want : Int × Int)
include hl
theorem k_rFirstBatch (hB : Bs s) : ref03xFirstBatch s l want = some (fbV s l want, ()) := by
  have hle := hB.le
  simp only [ref03xFirstBatch, T_ref03xFirstBatch, fbV]
  refine (r_bs (k_Within _ _ _)).trans ?_
  by_cases c1 : 1 ≤ want.1 ∧ want.1 ≤ 1000
  case neg => rw [if_neg c1]; exact (br_t (nd' c1)).trans (r_ret _)
  rw [if_pos c1]
  refine (br_f (nd c1)).trans ?_
  refine (r_bs (k_Within _ _ _)).trans ?_
  by_cases c2 : 1 ≤ want.2 ∧ want.2 ≤ 500
  case neg => rw [if_neg c2]; exact (br_t (nd' c2)).trans (r_ret _)
  rw [if_pos c2]
  refine (br_f (nd c2)).trans ?_
  rw [r_iter]
  refine iter_eq (fun i st => i ≤ s.length ∧ st = (bst s l want i, (i : Int), ())) _ s.length (by omega) ?_ ⟨Nat.zero_le _, rfl⟩
  rintro i st hi ⟨_, rfl⟩
  simp only [T_ref03xFirstBatch_l2]
  have bd := bst_bd s l want i
  by_cases h0 : i < s.length
  · left
    have hin : inB (i : Int) s.length = true := inB_t' (by omega) (by omega)
    refine ⟨(bst s l want (i + 1), ((i + 1 : Nat) : Int), ()), ?_, h0, h0, rfl⟩
    rw [w1 i (by omega), bst]
    refine (br_t (decide_eq_true (by omega))).trans ?_
    refine (r_bs (k_rleft' hB h0 hl)).trans ?_
    by_cases q1 : lfI s l l.length (nm s i) < 1
    · rw [if_neg (fun h => by have := h.1; omega)]
      exact (br_t (decide_eq_true q1)).trans (r_ret _)
    refine (br_f (decide_eq_false q1)).trans ?_
    refine (q_of hin).trans ?_
    by_cases q2 : (gi s (i : Int)).2.1 < want.1
    · rw [if_neg (fun h => by have := h.2.1; omega)]
      exact (br_t (decide_eq_true q2)).trans (r_ret _)
    refine (br_f (decide_eq_false q2)).trans ?_
    refine (q_of hin).trans ?_
    by_cases q3 : (gi s (i : Int)).2.2.1 < want.2
    · rw [if_neg (fun h => by have := h.2.2; omega)]
      exact (br_t (decide_eq_true q3)).trans (r_ret _)
    refine (br_f (decide_eq_false q3)).trans ?_
    rw [if_pos (show fits s l want i from ⟨by omega, by omega, by omega⟩)]
    by_cases q4 : bst s l want i < 0
    · rw [if_pos q4]
      exact (br_t (decide_eq_true q4)).trans (r_ret _)
    rw [if_neg q4]
    have hin2 : inB (bst s l want i) s.length = true := inB_t' (by omega) (by omega)
    refine (br_f (decide_eq_false q4)).trans ?_
    refine (q_of hin).trans ?_
    refine (q_of hin).trans ?_
    refine (q_of hin).trans ?_
    refine (q_of hin2).trans ?_
    refine (q_of hin2).trans ?_
    refine (q_of hin2).trans ?_
    by_cases q5 : szB (gi s (i : Int)) < szB (gi s (bst s l want i))
    · rw [if_pos q5]
      exact (br_t (decide_eq_true q5)).trans (r_ret _)
    · rw [if_neg q5]
      exact (br_f (decide_eq_false q5)).trans (r_ret _)
  · right
    have : i = s.length := by omega
    subst this
    refine (br_f (decide_eq_false (by omega))).trans ?_
    by_cases q4 : bst s l want s.length < 0
    · rw [if_pos q4]
      exact (br_t (decide_eq_true q4)).trans (r_ret _)
    · rw [if_neg q4]
      refine (br_f (decide_eq_false q4)).trans ?_
      exact (q_of (inB_t' (by omega) (by omega))).trans (r_ret _)
include hn hs hp
theorem k_FirstBatch : blank_FirstBatch s l want = some (if prE s l = 0 then fbV s l want else ([], prE s l, ()), ()) := by
  simp only [blank_FirstBatch, T_blank_FirstBatch]
  refine (r_bs (k_look hn hs hp hl)).trans ?_
  unfold lookV
  by_cases q : prE s l = 0
  case neg =>
    rw [if_neg q, if_neg q]
    refine (br_f rfl).trans ?_
    exact (br_t (nd' q)).trans (r_ret _)
  rw [if_pos q, if_pos q]
  obtain ⟨p1, p2, p3⟩ := prE_0 q
  have hB := bs_of p1
  have hle := hB.le
  refine (br_t rfl).trans ?_
  refine (br_f (nd q)).trans ?_
  unfold fbV
  refine (r_bs (k_within _ _ _)).trans ?_
  by_cases c1 : 1 ≤ want.1 ∧ want.1 ≤ 1000
  case neg => rw [if_neg c1]; exact (br_t (nd' c1)).trans (r_ret _)
  rw [if_pos c1]
  refine (br_f (nd c1)).trans ?_
  refine (r_bs (k_within _ _ _)).trans ?_
  by_cases c2 : 1 ≤ want.2 ∧ want.2 ≤ 500
  case neg => rw [if_neg c2]; exact (br_t (nd' c2)).trans (r_ret _)
  rw [if_pos c2]
  refine (br_f (nd c2)).trans ?_
  rw [r_iter]
  have kc : ∀ b : Bat, blank_FirstBatch_c1 b = some ((szB b, ()), ()) := fun b => by
    simp only [blank_FirstBatch_c1, T_blank_FirstBatch_c1]
    exact r_ret _
  refine iter_eq (fun i st => i ≤ s.length ∧ st = (bst s l want i, (i : Int), ())) _ s.length (by omega) ?_ ⟨Nat.zero_le _, rfl⟩
  rintro i st hi ⟨_, rfl⟩
  simp only [T_blank_FirstBatch_l3]
  have bd := bst_bd s l want i
  by_cases h0 : i < s.length
  · left
    have hin : inB (i : Int) s.length = true := inB_t' (by omega) (by omega)
    have hg : (pMap s l l.length).lookup (gi s (i : Int)).1 = _ := pMap_get hB (by omega) (fun j hj => (pE_0 (p3 j hj)).2.2.1) (nm s i)
    have hv : mget (.int .i64) (pMap s l l.length) (gi s (i : Int)).1 (0 : Int) = lfI s l l.length (nm s i) := by
      unfold mget
      rw [hg, if_pos (by rw [atB_nm hB h0]; omega)]; rfl
    refine ⟨(bst s l want (i + 1), ((i + 1 : Nat) : Int), ()), ?_, h0, h0, rfl⟩
    rw [w1 i (by omega), bst, hv]
    refine (br_t (decide_eq_true (by omega))).trans ?_
    refine (q_of hin).trans ?_
    by_cases q1 : 0 < lfI s l l.length (nm s i)
    case neg =>
      rw [if_neg (fun h => q1 h.1)]
      exact (br_f (decide_eq_false q1)).trans (r_ret _)
    refine (br_t (decide_eq_true q1)).trans ?_
    by_cases q2 : want.1 ≤ (gi s (i : Int)).2.1
    case neg =>
      rw [if_neg (fun h => q2 h.2.1)]
      exact (br_f (decide_eq_false q2)).trans (r_ret _)
    refine (br_t (decide_eq_true q2)).trans ?_
    by_cases q3 : want.2 ≤ (gi s (i : Int)).2.2.1
    case neg =>
      rw [if_neg (fun h => q3 h.2.2)]
      exact (br_f (decide_eq_false q3)).trans (r_ret _)
    refine (br_t (decide_eq_true q3)).trans ?_
    rw [if_pos (show fits s l want i from ⟨q1, q2, q3⟩)]
    by_cases q4 : bst s l want i < 0
    · rw [if_pos q4]
      exact (br_t (decide_eq_true q4)).trans (r_ret _)
    rw [if_neg q4]
    refine (br_f (decide_eq_false q4)).trans ?_
    refine (r_bs (kc _)).trans ?_
    refine (q_of (inB_t' (by omega) (by omega))).trans ?_
    refine (r_bs (kc _)).trans ?_
    by_cases q5 : szB (gi s (i : Int)) < szB (gi s (bst s l want i))
    · rw [if_pos q5]
      exact (br_t (decide_eq_true q5)).trans (r_ret _)
    · rw [if_neg q5]
      exact (br_f (decide_eq_false q5)).trans (r_ret _)
  · right
    have : i = s.length := by omega
    subst this
    refine (br_f (decide_eq_false (by omega))).trans ?_
    by_cases q4 : bst s l want s.length < 0
    · rw [if_pos q4]
      exact (br_t (decide_eq_true q4)).trans (r_ret _)
    · rw [if_neg q4]
      refine (br_f (decide_eq_false q4)).trans ?_
      exact (q_of (inB_t' (by omega) (by omega))).trans (r_ret _)
end
theorem lofV_get {s : List Bat} {l : List Pro} : ∀ {n i : Nat}, i < n → gi (lofV s l n) (i : Int) = lfI s l l.length (nm s i) ∧ (lofV s l n).length = n
  | 0, i, h => by omega
  | n + 1, i, h => by
    have hlen : ∀ k, (lofV s l k).length = k := by
      intro k
      induction k with
      | zero => rfl
      | succ k ih => simp [lofV, ih]
    refine ⟨?_, hlen _⟩
    rw [lofV]
    by_cases e : i = n
    · subst e
      have hh := hlen i
      rw [gi_nat (by simp [hh]), List.getElem_append_right (by omega)]
      simp [hh]
    · rw [← (lofV_get (s := s) (l := l) (n := n) (i := i) (by omega)).1]
      have hh := hlen n
      rw [gi_nat (by simp [hh]; omega), gi_nat (by omega), List.getElem_append_left (by omega)]
end Go.Ab
