/- Stocks: promises, what is left, the first batch: what the program's and the reference's functions compute. -/
import Derived.Test.YtlihngoejfmheaaDoorJ1
namespace Go.Ab
open Go
set_option maxRecDepth 1000000
set_option maxHeartbeats 1000000
set_option linter.unusedVariables false
set_option linter.unusedSimpArgs false
set_option linter.unusedSectionVars false

def mi (l : List Pro) (i : Nat) : List UInt8 := (gi l (i : Int)).1
def ba (l : List Pro) (i : Nat) : List UInt8 := (gi l (i : Int)).2
def cntP (l : List Pro) (x : List UInt8) : Nat → Int
  | 0 => 0
  | i + 1 => cntP l x i + if ba l i = x then 1 else 0
theorem cntP_bd (l : List Pro) (x : List UInt8) : ∀ n : Nat, 0 ≤ cntP l x n ∧ cntP l x n ≤ n
  | 0 => ⟨Int.le_refl _, Int.le_refl _⟩
  | n + 1 => by
    have := cntP_bd l x n
    rw [cntP]
    split <;> omega
theorem cntP_ext {l l' : List Pro} {x : List UInt8} : ∀ {n : Nat}, (∀ i, i < n → ba l i = ba l' i) → cntP l x n = cntP l' x n
  | 0, _ => rfl
  | n + 1, h => by rw [cntP, cntP, cntP_ext (fun i hi => h i (by omega)), h n (by omega)]
/-- The batches are right. -/
structure Bs (s : List Bat) : Prop where
  le : s.length ≤ 40
  nam : ∀ i, i < s.length → nameB (nm s i) = true
  dst : ∀ i j, i < s.length → j < s.length → nm s i = nm s j → i = j
  rg : ∀ i : Nat, i < s.length → (1 ≤ (gi s (i : Int)).2.1 ∧ (gi s (i : Int)).2.1 ≤ 1000) ∧ (1 ≤ (gi s (i : Int)).2.2.1 ∧ (gi s (i : Int)).2.2.1 ≤ 500) ∧ 0 ≤ (gi s (i : Int)).2.2.2 ∧ (gi s (i : Int)).2.2.2 ≤ 1000
theorem bs_of {s : List Bat} (h : bsE s = 0) : Bs s := by
  unfold bsE at h
  split at h
  · cases h
  · rename_i hl
    have h1 := firstErr_eq0 h
    have key : ∀ i, i < s.length → nameB (nm s i) = true ∧ seen (nm s) (nm s i) i = false ∧ rgE (gi s (i : Int)) = 0 := by
      intro i hi
      have := h1 i hi
      unfold bE at this
      split at this
      · rename_i a
        split at this
        · cases this
        · rename_i b
          exact ⟨a, by simpa using b, this⟩
      · cases this
    refine ⟨by omega, fun i hi => (key i hi).1, fun i j hi hj e => ?_, fun i hi => ?_⟩
    · rcases Nat.lt_trichotomy i j with q | q | q
      · have := (key j hj).2.1
        rw [(seen_iff (f := nm s)).2 ⟨i, q, e⟩] at this; cases this
      · exact q
      · have := (key i hi).2.1
        rw [(seen_iff (f := nm s)).2 ⟨j, q, e.symm⟩] at this; cases this
    · have := (key i hi).2.2
      unfold rgE at this
      split at this
      · split at this
        · split at this
          · exact ⟨by assumption, by assumption, by assumption⟩
          · cases this
        · cases this
      · cases this
theorem atB_get {s : List Bat} {x : List UInt8} (h : 0 ≤ atB s x) : ∃ j, j < s.length ∧ atB s x = (j : Int) ∧ nm s j = x := by
  rcases idxTo_cases (fun j => decide (nm s j = x)) s.length with ⟨h1, _⟩ | ⟨j, h1, h2, h3, _⟩
  · have e : atB s x = -1 := h1
    omega
  · exact ⟨j, h1, h2, of_decide_eq_true h3⟩
theorem atB_nm {s : List Bat} (hb : Bs s) {i : Nat} (hi : i < s.length) : atB s (nm s i) = i := by
  rcases idxTo_cases (fun j => decide (nm s j = nm s i)) s.length with ⟨h1, h2⟩ | ⟨j, h1, h2, h3, _⟩
  · have := h2 i hi; simp at this
  · have e : atB s (nm s i) = j := h2
    rw [e, hb.dst j i h1 hi (of_decide_eq_true h3)]
theorem atB_neg {s : List Bat} {x : List UInt8} (h : ¬ 0 ≤ atB s x) : ∀ j, j < s.length → nm s j ≠ x := by
  rcases idxTo_cases (fun j => decide (nm s j = x)) s.length with ⟨h1, h2⟩ | ⟨j, h1, h2, _⟩
  · intro j hj e
    have := h2 j hj; simp at this; exact this e
  · have e : atB s x = j := h2
    omega
/-- What is left of the batch of a name behind the first i promises. -/
def lfI (s : List Bat) (l : List Pro) (i : Nat) (x : List UInt8) : Int := (gi s (atB s x)).2.2.2 - cntP l x i
theorem lfI_bd {s : List Bat} (hb : Bs s) (l : List Pro) (i : Nat) {x : List UInt8} (hx : 0 ≤ atB s x) : -(i : Int) ≤ lfI s l i x ∧ lfI s l i x ≤ 1000 := by
  obtain ⟨j, h1, h2, _⟩ := atB_get hx
  have := hb.rg j h1
  have := cntP_bd l x i
  unfold lfI
  rw [h2]; omega
/-- The error of a promise whose mirror is right and new. -/
def rsE (s : List Bat) (l : List Pro) (i : Nat) : Int := if atB s (ba l i) < 0 then 6 else if lfI s l i (ba l i) < 1 then 20 else 0
def pE (s : List Bat) (l : List Pro) (i : Nat) : Int :=
  if nameB (mi l i) = true then (if seen (mi l) (mi l i) i = true then 5 else rsE s l i) else 4
theorem pE_0 {s : List Bat} {l : List Pro} {i : Nat} (h : pE s l i = 0) : nameB (mi l i) = true ∧ seen (mi l) (mi l i) i = false ∧ 0 ≤ atB s (ba l i) ∧ 1 ≤ lfI s l i (ba l i) := by
  unfold pE at h
  split at h
  · split at h
    · cases h
    · unfold rsE at h
      split at h
      · cases h
      · split at h
        · cases h
        · rename_i a b c d
          exact ⟨a, by simpa using b, by omega, by omega⟩
  · cases h
def prE (s : List Bat) (l : List Pro) : Int := if bsE s = 0 then (if 200 < l.length then 8 else firstErr (pE s l) l.length) else bsE s
theorem lfI_nn {s : List Bat} (hb : Bs s) {l : List Pro} : ∀ {n : Nat}, (∀ j, j < n → pE s l j = 0) → ∀ x, 0 ≤ atB s x → 0 ≤ lfI s l n x
  | 0, _, x, hx => by
    obtain ⟨j, h1, h2, _⟩ := atB_get hx
    have := hb.rg j h1
    unfold lfI cntP
    rw [h2]; omega
  | n + 1, h, x, hx => by
    have ih := lfI_nn hb (n := n) (fun j hj => h j (by omega)) x hx
    have p := (pE_0 (h n (by omega))).2.2.2
    unfold lfI at *
    rw [cntP]
    split
    · rename_i e; rw [e] at p; omega
    · omega
def cMap (s : List Bat) : Nat → List (List UInt8 × Int)
  | 0 => []
  | i + 1 => (nm s i, (gi s (i : Int)).2.2.2) :: cMap s i
def pMap (s : List Bat) (l : List Pro) : Nat → List (List UInt8 × Int)
  | 0 => cMap s s.length
  | i + 1 => (ba l i, IntKind.i64.wrap (mget (.int .i64) (pMap s l i) (ba l i) (0 : Int) - 1)) :: pMap s l i
theorem cMap_some {s : List Bat} (hb : Bs s) {j : Nat} : ∀ {n : Nat}, n ≤ s.length → j < n → (cMap s n).lookup (nm s j) = some (gi s (j : Int)).2.2.2
  | 0, _, h => by omega
  | n + 1, hn, h => by
    rw [cMap, List.lookup_cons]
    by_cases e : nm s j = nm s n
    · have := hb.dst j n (by omega) (by omega) e
      subst this
      simp
    · have e1 : (nm s j == nm s n) = false := by simpa using e
      rw [e1]
      refine cMap_some hb (by omega) ?_
      have : j ≠ n := fun h => e (by rw [h])
      omega
theorem cMap_none {s : List Bat} {x : List UInt8} : ∀ {n : Nat}, (∀ j, j < n → nm s j ≠ x) → (cMap s n).lookup x = none
  | 0, _ => rfl
  | n + 1, h => by
    rw [cMap, List.lookup_cons]
    have e1 : (x == nm s n) = false := by simpa using (fun e : x = nm s n => h n (by omega) e.symm)
    rw [e1]
    exact cMap_none fun j hj => h j (by omega)
theorem pMap_get {s : List Bat} (hb : Bs s) {l : List Pro} : ∀ {n : Nat}, n ≤ 1000 → (∀ j, j < n → 0 ≤ atB s (ba l j)) → ∀ x, (pMap s l n).lookup x = if 0 ≤ atB s x then some (lfI s l n x) else none
  | 0, _, _, x => by
    rw [pMap]
    by_cases hx : 0 ≤ atB s x
    · rw [if_pos hx]
      obtain ⟨j, h1, h2, h3⟩ := atB_get hx
      have := cMap_some hb (Nat.le_refl _) h1
      rw [h3] at this
      rw [this]
      unfold lfI cntP
      rw [h2, Int.sub_zero]
    · rw [if_neg hx]
      exact cMap_none (atB_neg hx)
  | n + 1, hn, h, x => by
    have ih := pMap_get hb (n := n) (by omega) (fun j hj => h j (by omega))
    rw [pMap, List.lookup_cons]
    by_cases e : x = ba l n
    · subst e
      have ha := h n (by omega)
      have bd := lfI_bd hb l n ha
      have hv : mget (.int .i64) (pMap s l n) (ba l n) (0 : Int) = lfI s l n (ba l n) := by
        unfold mget
        rw [ih, if_pos ha]; rfl
      rw [beq_self_eq_true, if_pos ha, hv]
      simp only
      rw [w64' (by omega) (by omega)]
      congr 1
      unfold lfI
      rw [cntP, if_pos rfl]; omega
    · have e1 : (x == ba l n) = false := by simpa using e
      rw [e1]
      simp only
      rw [ih]
      by_cases hx : 0 ≤ atB s x
      · rw [if_pos hx, if_pos hx]
        unfold lfI
        rw [cntP, if_neg (fun h => e h.symm), Int.add_zero]
      · rw [if_neg hx, if_neg hx]
def Nmp (l : List Pro) : Prop := ∀ i : Nat, i < l.length → (mi l i).length ≤ 1048576
def lookV (s : List Bat) (l : List Pro) : Bool × List (List UInt8 × Int) := if prE s l = 0 then (true, pMap s l l.length) else (false, [])
theorem k_leftBy {s : List Bat} {l : List Pro} (hb : bsE s = 0) (hp : Nmp l) (hl : l.length ≤ 1048576) : blank_leftBy s l = some ((lookV s l, (prE s l, ())), ()) := by
  have hB := bs_of hb
  have hle := hB.le
  simp only [blank_leftBy, T_blank_leftBy]
  unfold lookV prE
  rw [if_pos hb]
  by_cases h : 200 < l.length
  · rw [if_pos h]
    exact (br_t (decide_eq_true (by omega))).trans (r_ret _)
  rw [if_neg h]
  refine (br_f (decide_eq_false (by omega))).trans ?_
  rw [r_iter]
  -- the second loop
  have inner : iterF (fun q_ => (T_blank_leftBy_l1 l q_.1 q_.2.1 q_.2.2.1).run) FUEL (0, pMap s l 0, marks (mi l) 0, ()) = some (.inr ((if firstErr (pE s l) l.length = 0 then (true, pMap s l l.length) else (false, []), (firstErr (pE s l) l.length, ())), ())) := by
    refine iter_err (fun i => ((i : Int), pMap s l i, marks (mi l) i, ())) (pE s l) l.length (by omega) (fun e => (Sum.inr ((if e = 0 then (true, pMap s l l.length) else (false, []), (e, ())), ()) : (Int × List (List UInt8 × Int) × Unit) ⊕ (((Bool × List (List UInt8 × Int)) × Int × Unit) × Unit))) ?_ ?_ ?_
    · intro i hi hpre hc
      simp only [T_blank_leftBy_l1]
      rw [if_neg hc]
      have hat : ∀ j, j < i → 0 ≤ atB s (ba l j) := fun j hj => (pE_0 (hpre j hj)).2.2.1
      refine (br_t (decide_eq_true (by omega))).trans ?_
      refine (q_of (inB_t' (by omega) (by omega))).trans ?_
      refine (r_bs (k_isName (hp i hi))).trans ?_
      unfold pE rsE at hc ⊢
      by_cases h1 : nameB (mi l i) = true
      · rw [if_pos h1] at hc ⊢
        refine (br_f (show (!nameB (mi l i)) = false by rw [h1]; rfl)).trans ?_
        rw [marks_get]
        by_cases h2 : seen (mi l) (mi l i) i = true
        · rw [if_pos h2]
          exact (br_t h2).trans (r_ret _)
        · rw [if_neg h2] at hc ⊢
          refine (br_f (show seen (mi l) (mi l i) i = false by simpa using h2)).trans ?_
          have hg : (pMap s l i).lookup (gi l (i : Int)).2 = _ := pMap_get hB (by omega) hat (ba l i)
          by_cases h3 : atB s (ba l i) < 0
          · rw [if_pos h3]
            refine (br_t ?_).trans (r_ret _)
            rw [hg, if_neg (by omega)]; rfl
          · rw [if_neg h3] at hc ⊢
            refine (br_f ?_).trans ?_
            · rw [hg, if_pos (by omega)]; rfl
            · have hnn := lfI_nn hB hpre (ba l i) (by omega)
              have hv : mget (.int .i64) (pMap s l i) (gi l (i : Int)).2 (0 : Int) = lfI s l i (ba l i) := by
                unfold mget
                rw [hg, if_pos (by omega)]; rfl
              rw [hv]
              by_cases h4 : lfI s l i (ba l i) < 1
              · rw [if_pos h4]
                exact (br_t (decide_eq_true (show lfI s l i (ba l i) = 0 by omega))).trans (r_ret _)
              · rw [if_neg h4] at hc
                exact absurd rfl hc
      · rw [if_neg h1]
        exact (br_t (show (!nameB (mi l i)) = true by simpa using h1)).trans (r_ret _)
    · intro i hi hpre hc
      simp only [T_blank_leftBy_l1]
      have hat : ∀ j, j < i → 0 ≤ atB s (ba l j) := fun j hj => (pE_0 (hpre j hj)).2.2.1
      obtain ⟨c1, c2, c3, c4⟩ := pE_0 hc
      have hg : (pMap s l i).lookup (gi l (i : Int)).2 = _ := pMap_get hB (by omega) hat (ba l i)
      have hv : mget (.int .i64) (pMap s l i) (gi l (i : Int)).2 (0 : Int) = lfI s l i (ba l i) := by
        unfold mget
        rw [hg, if_pos (by omega)]; rfl
      refine (br_t (decide_eq_true (by omega))).trans ?_
      refine (q_of (inB_t' (by omega) (by omega))).trans ?_
      refine (r_bs (k_isName (hp i hi))).trans ?_
      refine (br_f (show (!nameB (mi l i)) = false by rw [c1]; rfl)).trans ?_
      rw [marks_get]
      refine (br_f c2).trans ?_
      refine (br_f ?_).trans ?_
      · rw [hg, if_pos (by omega)]; rfl
      · refine (br_f ?_).trans ((r_ret _).trans ?_)
        · rw [hv]; exact decide_eq_false (show ¬ lfI s l i (ba l i) = 0 by omega)
        · rw [w1 i (by omega)]; rfl
    · intro _
      simp only [T_blank_leftBy_l1]
      exact (br_f (decide_eq_false (by omega))).trans (r_ret _)
  refine iter_eq (fun i st => i ≤ s.length ∧ st = ((i : Int), cMap s i, ())) _ s.length (by omega) ?_ ⟨Nat.zero_le _, rfl⟩
  rintro i st hi ⟨_, rfl⟩
  simp only [T_blank_leftBy_l0]
  by_cases h0 : i < s.length
  · left
    refine ⟨_, ?_, h0, h0, rfl⟩
    refine (br_t (decide_eq_true (by omega))).trans ?_
    refine (q_of (inB_t' (by omega) (by omega))).trans ((r_ret _).trans ?_)
    rw [w1 i (by omega)]; rfl
  · right
    have : i = s.length := by omega
    subst this
    refine (br_f (decide_eq_false (by omega))).trans ?_
    rw [r_iter]
    exact inner
def lofV (s : List Bat) (l : List Pro) : Nat → List Int
  | 0 => []
  | i + 1 => lofV s l i ++ [lfI s l l.length (nm s i)]
theorem prE_0 {s : List Bat} {l : List Pro} (h : prE s l = 0) : bsE s = 0 ∧ l.length ≤ 200 ∧ ∀ i, i < l.length → pE s l i = 0 := by
  unfold prE at h
  split at h
  · split at h
    · cases h
    · exact ⟨by assumption, by omega, firstErr_eq0 h⟩
  · contradiction
section
variable {s : List Bat} {l : List Pro} (hn : Nms s) (hs : s.length ≤ 1048576) (hp : Nmp l) (hl : l.length ≤ 1048576)
include hn hs hp hl
theorem k_look : blank_look s l = some ((lookV s l, (prE s l, ())), ()) := by
  simp only [blank_look, T_blank_look]
  refine (r_bs (k_CheckBatches hn hs)).trans ?_
  by_cases h : bsE s = 0
  · refine (br_f (nd h)).trans ?_
    refine (r_bs (k_leftBy h hp hl)).trans ?_
    unfold lookV
    by_cases q : prE s l = 0
    · rw [if_pos q]; exact (br_t rfl).trans (r_ret _)
    · rw [if_neg q]; exact (br_f rfl).trans (r_ret _)
  · have e : prE s l = bsE s := by unfold prE; rw [if_neg h]
    have e2 : lookV s l = (false, []) := by unfold lookV; rw [if_neg (by rw [e]; exact h)]
    rw [e2, e]
    exact (br_t (nd' h)).trans (r_ret _)
theorem k_CheckPromises : blank_CheckPromises s l = some ((prE s l, ()), ()) := by
  simp only [blank_CheckPromises, T_blank_CheckPromises]
  refine (r_bs (k_look hn hs hp hl)).trans ?_
  unfold lookV
  by_cases q : prE s l = 0
  · rw [if_pos q]; exact (br_t rfl).trans (r_ret _)
  · rw [if_neg q]; exact (br_f rfl).trans (r_ret _)
end
/-! ### The reference's -/
theorem gi_take {α : Type} [Inhabited α] {l : List α} {n i : Nat} (h : i < n) (h2 : n ≤ l.length) : gi (part l 0 (n : Int)) (i : Int) = gi l (i : Int) := by
  have e : part l 0 (n : Int) = l.take n := by simp [part]
  rw [e, gi_nat (by rw [List.length_take]; omega), gi_nat (by omega), List.getElem_take]
theorem part_len {α : Type} {l : List α} {n : Nat} (h2 : n ≤ l.length) : (part l 0 (n : Int)).length = n := by
  simp [part, List.length_take]; omega
theorem k_rleft {s : List Bat} {l : List Pro} {b : Nat} (hb : b < s.length) (hc : 0 ≤ (gi s (b : Int)).2.2.2 ∧ (gi s (b : Int)).2.2.2 ≤ 1000) (hl : l.length ≤ 1048576) : ref03xleft s l (b : Int) = some (((gi s (b : Int)).2.2.2 - cntP l (nm s b) l.length, ()), ()) := by
  simp only [ref03xleft, T_ref03xleft]
  have hin : inB (b : Int) s.length = true := inB_t' (by omega) (by omega)
  refine (q_of hin).trans ?_
  rw [r_iter]
  refine iter_eq (fun i st => i ≤ l.length ∧ st = ((gi s (b : Int)).2.2.2 - cntP l (nm s b) i, (i : Int), ())) _ l.length (by omega) ?_ ⟨Nat.zero_le _, by rw [cntP, Int.sub_zero]; rfl⟩
  rintro i st hi ⟨_, rfl⟩
  simp only [T_ref03xleft_l0]
  by_cases h0 : i < l.length
  · left
    have bd := cntP_bd l (nm s b) i
    refine ⟨((gi s (b : Int)).2.2.2 - cntP l (nm s b) (i + 1), ((i + 1 : Nat) : Int), ()), ?_, h0, h0, rfl⟩
    refine (br_t (decide_eq_true (by omega))).trans ?_
    refine (q_of (inB_t' (by omega) (by omega))).trans ?_
    refine (q_of hin).trans ?_
    rw [w1 i (by omega)]
    by_cases h1 : ba l i = nm s b
    · refine (br_t (decide_eq_true h1)).trans ((r_ret _).trans ?_)
      rw [w64' (by omega) (by omega), cntP, if_pos h1]
      congr 3; omega
    · refine (br_f (decide_eq_false h1)).trans ((r_ret _).trans ?_)
      rw [cntP, if_neg h1, Int.add_zero]
  · right
    have : i = l.length := by omega
    subst this
    exact (br_f (decide_eq_false (by omega))).trans (r_ret _)
theorem k_rCheckPromises {s : List Bat} {l : List Pro} (hn : Nms s) (hs : s.length ≤ 1048576) (hp : Nmp l) (hl : l.length ≤ 1048576) : ref03xCheckPromises s l = some ((prE s l, ()), ()) := by
  simp only [ref03xCheckPromises, T_ref03xCheckPromises]
  refine (r_bs (k_rCheckBatches hn hs)).trans ?_
  unfold prE
  by_cases hb : bsE s = 0
  case neg => rw [if_neg hb]; exact (br_t (nd' hb)).trans (r_ret _)
  have hB := bs_of hb
  rw [if_pos hb]
  refine (br_f (nd hb)).trans ?_
  by_cases h : 200 < l.length
  · rw [if_pos h]
    exact (br_t (decide_eq_true (by omega))).trans (r_ret _)
  rw [if_neg h]
  refine (br_f (decide_eq_false (by omega))).trans ?_
  rw [r_iter]
  -- behind the search for the same mirror
  have tail : ∀ i : Nat, i < l.length → seen (mi l) (mi l i) i = false → (T_ref03xCheckPromises_l3 s l (i : Int) (i : Int)).run = some (.inr (if rsE s l i = 0 then .inl (((i + 1 : Nat) : Int), ()) else .inr ((rsE s l i, ()), ()))) := by
    intro i hi h2
    unfold rsE
    simp only [T_ref03xCheckPromises_l3]
    refine (br_f (decide_eq_false (by omega))).trans ?_
    refine (q_of (inB_t' (by omega) (by omega))).trans ?_
    refine (r_bs (k_BatchAt hs _)).trans ?_
    by_cases h3 : atB s (ba l i) < 0
    · rw [if_pos h3, if_neg (by decide)]
      exact (br_t (decide_eq_true h3)).trans (r_ret _)
    · rw [if_neg h3]
      refine (br_f (decide_eq_false h3)).trans ?_
      refine (q_of (bnd_t' (by omega) (by omega) (by omega))).trans ?_
      obtain ⟨j, j1, j2, j3⟩ := atB_get (show 0 ≤ atB s (ba l i) by omega)
      have kl := k_rleft (s := s) (l := part l 0 (i : Int)) j1 (hB.rg j j1).2.2 (by rw [part_len (by omega)]; omega)
      rw [part_len (by omega)] at kl
      have e1 : atB s (gi l (i : Int)).2 = (j : Int) := j2
      have e2 : (gi s (j : Int)).2.2.2 - cntP (part l 0 (i : Int)) (nm s j) i = lfI s l i (ba l i) := by
        unfold lfI
        rw [j2, j3, cntP_ext (l' := l) (fun k hk => by unfold ba; rw [gi_take hk (by omega)])]
      rw [e2] at kl
      rw [e1]
      refine (r_bs kl).trans ?_
      by_cases h4 : lfI s l i (ba l i) < 1
      · rw [if_pos h4, if_neg (by decide)]
        exact (br_t (decide_eq_true h4)).trans (r_ret _)
      · rw [if_neg h4, if_pos rfl]
        refine (br_f (decide_eq_false h4)).trans ((r_ret _).trans ?_)
        rw [w1 i (by omega)]
  have inner : ∀ i : Nat, i < l.length → iterF (fun q_ => (T_ref03xCheckPromises_l3 s l (i : Int) q_.1).run) FUEL (0, ()) = some (if (if seen (mi l) (mi l i) i = true then (5 : Int) else rsE s l i) = 0 then .inl (((i + 1 : Nat) : Int), ()) else .inr (((if seen (mi l) (mi l i) i = true then (5 : Int) else rsE s l i), ()), ())) := by
    intro i hi
    refine iter_eq (fun j st => j ≤ i ∧ st = ((j : Int), ()) ∧ ∀ k, k < j → mi l k ≠ mi l i) _ i (by omega) ?_ ⟨Nat.zero_le _, rfl, fun k hk => by omega⟩
    rintro j st hj ⟨_, rfl, hpre⟩
    by_cases hlt : j < i
    · simp only [T_ref03xCheckPromises_l3]
      by_cases q : mi l j = mi l i
      · right
        have hse : seen (mi l) (mi l i) i = true := seen_iff.2 ⟨j, hlt, q⟩
        rw [if_pos hse, if_neg (by decide)]
        refine (br_t (decide_eq_true (by omega))).trans ?_
        refine (q_of (inB_t' (by omega) (by omega))).trans ?_
        refine (q_of (inB_t' (by omega) (by omega))).trans ?_
        exact (br_t (decide_eq_true q)).trans (r_ret _)
      · left
        refine ⟨(((j + 1 : Nat) : Int), ()), ?_, hlt, hlt, rfl, fun k hk => ?_⟩
        · refine (br_t (decide_eq_true (by omega))).trans ?_
          refine (q_of (inB_t' (by omega) (by omega))).trans ?_
          refine (q_of (inB_t' (by omega) (by omega))).trans ?_
          refine (br_f (decide_eq_false q)).trans ((r_ret _).trans ?_)
          rw [w1 j (by omega)]
        · by_cases e : k = j
          · rw [e]; exact q
          · exact hpre k (by omega)
    · right
      have : j = i := by omega
      subst this
      have hse : seen (mi l) (mi l j) j = false := by
        cases q : seen (mi l) (mi l j) j with
        | false => rfl
        | true =>
          obtain ⟨k, k1, k2⟩ := seen_iff.1 q
          exact absurd k2 (hpre k k1)
      have e : (if seen (mi l) (mi l j) j = true then (5 : Int) else rsE s l j) = rsE s l j := if_neg (by rw [hse]; decide)
      rw [e]
      exact tail j hi hse
  refine iter_err (fun i => ((i : Int), ())) (pE s l) l.length (by omega) (fun e => ((e, ()), ())) ?_ ?_ ?_
  · intro i hi _ hc
    simp only [T_ref03xCheckPromises_l1]
    refine (br_t (decide_eq_true (by omega))).trans ?_
    refine (q_of (inB_t' (by omega) (by omega))).trans ?_
    refine (r_bs (k_rIsName (hp i hi))).trans ?_
    unfold pE at hc ⊢
    by_cases h1 : nameB (mi l i) = true
    · rw [if_pos h1] at hc ⊢
      refine (br_f (show (!nameB (mi l i)) = false by rw [h1]; rfl)).trans ?_
      rw [r_iter]
      refine (inner i hi).trans ?_
      rw [if_neg hc]
    · rw [if_neg h1]
      exact (br_t (show (!nameB (mi l i)) = true by simpa using h1)).trans (r_ret _)
  · intro i hi _ hc
    simp only [T_ref03xCheckPromises_l1]
    refine (br_t (decide_eq_true (by omega))).trans ?_
    refine (q_of (inB_t' (by omega) (by omega))).trans ?_
    refine (r_bs (k_rIsName (hp i hi))).trans ?_
    unfold pE at hc
    by_cases h1 : nameB (mi l i) = true
    · rw [if_pos h1] at hc
      refine (br_f (show (!nameB (mi l i)) = false by rw [h1]; rfl)).trans ?_
      rw [r_iter]
      refine (inner i hi).trans ?_
      rw [if_pos hc]
    · rw [if_neg h1] at hc; cases hc
  · intro _
    simp only [T_ref03xCheckPromises_l1]
    exact (br_f (decide_eq_false (by omega))).trans (r_ret _)
end Go.Ab
