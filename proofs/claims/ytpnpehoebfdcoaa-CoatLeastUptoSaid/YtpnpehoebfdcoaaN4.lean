/- The least reflectance of a band: Least of the program and of the reference; CoatLeast answers true. -/
import Derived.Test.YtpnpehoebfdcoaaN3
import Derived.Test.YtpnpehoebfdcoaaQLCoatLeast
namespace Go.Ab
open Go
set_option maxRecDepth 1000000
set_option maxHeartbeats 1000000
set_option linter.unusedVariables false
set_option linter.unusedSimpArgs false

theorem segV_lo {p q : Int × Int × Int} (h : p.1 < q.1) : segV p q p.1 = p.2 := by
  simp only [segV, segN]
  rw [Int.sub_self, Int.mul_zero, Int.mul_zero, Int.add_zero, Int.add_zero, Int.mul_ediv_cancel _ (by omega), ceil_mul (by omega)]
theorem segV_hi {p q : Int × Int × Int} (h : p.1 < q.1) : segV p q q.1 = q.2 := by
  simp only [segV, segN]
  rw [Int.sub_self, Int.mul_zero, Int.mul_zero, Int.zero_add, Int.zero_add, Int.mul_ediv_cancel _ (by omega), ceil_mul (by omega)]
theorem segN_mid {a b p q x1 x x2 : Int} (h1 : x1 ≤ x) (h2 : x ≤ x2) : segN a b (q - x1) (x1 - p) ≤ segN a b (q - x) (x - p) ∨ segN a b (q - x2) (x2 - p) ≤ segN a b (q - x) (x - p) := by
  unfold segN
  by_cases h : a ≤ b
  · left
    have := Int.mul_nonneg (show 0 ≤ b - a by omega) (show 0 ≤ x - x1 by omega)
    grind
  · right
    have := Int.mul_nonneg (show 0 ≤ a - b by omega) (show 0 ≤ x2 - x by omega)
    grind
theorem segV_mid {p q : Int × Int × Int} {x1 x x2 : Int} {m : Int × Int} (h : p.1 < q.1) (h1 : x1 ≤ x) (h2 : x ≤ x2) (a : m.1 ≤ (segV p q x1).1 ∧ m.2 ≤ (segV p q x1).2) (b : m.1 ≤ (segV p q x2).1 ∧ m.2 ≤ (segV p q x2).2) :
    m.1 ≤ (segV p q x).1 ∧ m.2 ≤ (segV p q x).2 := by
  simp only [segV] at a b ⊢
  have hd : (0 : Int) < q.1 - p.1 := by omega
  have s1 := segN_mid (a := p.2.1) (b := q.2.1) (p := p.1) (q := q.1) h1 h2
  have s2 := segN_mid (a := p.2.2) (b := q.2.2) (p := p.1) (q := q.1) h1 h2
  constructor
  · rcases s1 with s | s
    · exact Int.le_trans a.1 (Int.ediv_le_ediv hd s)
    · exact Int.le_trans b.1 (Int.ediv_le_ediv hd s)
  · rcases s2 with s | s
    · have := Int.ediv_le_ediv hd (Int.neg_le_neg s)
      omega
    · have := Int.ediv_le_ediv hd (Int.neg_le_neg s)
      omega

/-- The reflectance within a segment, the ends too. -/
theorem atV_in {l : Cur} (h : Cv l) (h0 : curveE l = 0) {i : Nat} (hi : i + 1 < l.length) {x : Int} (h1 : (gi l (i : Int)).1 ≤ x) (h2 : x ≤ (gi l ((i : Int) + 1)).1) :
    atE l x = 0 ∧ atV l x = segV (gi l (i : Int)) (gi l ((i : Int) + 1)) x := by
  have hl := h.len
  have e1 : ((l.length : Int) - 1) = ((l.length - 1 : Nat) : Int) := by omega
  have e2 : ((i : Int) + 1) = ((i + 1 : Nat) : Int) := by omega
  have up : (gi l (i : Int)).1 < (gi l ((i : Int) + 1)).1 := by rw [e2]; exact h.up i hi
  have lo : (gi l 0).1 ≤ (gi l (i : Int)).1 := by
    by_cases e : i = 0
    · subst e; exact Int.le_refl _
    · have := h.mono i 0 (by omega) (by omega)
      simp only [Int.natCast_zero] at this
      omega
  have hi' : (gi l ((i : Int) + 1)).1 ≤ (gi l ((l.length : Int) - 1)).1 := by
    by_cases e : i + 1 = l.length - 1
    · rw [e1, ← e, e2]; exact Int.le_refl _
    · have := h.mono (l.length - 1) (i + 1) (by omega) (by omega)
      rw [e1, e2]; omega
  have hE : atE l x = 0 := by
    unfold atE
    rw [if_neg (by simp [h0]), if_pos (by omega)]
  refine ⟨hE, ?_⟩
  by_cases e : (gi l (i : Int)).1 = x ∧ 0 < i
  · -- the right end of the segment ahead
    obtain ⟨ex, ei⟩ := e
    have e3 : (((i - 1 : Nat) : Int) + 1) = (i : Int) := by omega
    have up' := h.up (i - 1) (by omega)
    rw [show i - 1 + 1 = i by omega] at up'
    have s : Seg l x (i - 1) := ⟨by omega, by omega, by rw [e3]; omega, fun k a b => by have := h.mono i k (by omega) (by omega); omega⟩
    rw [atV_seg hE s, e3, ← ex, segV_hi up', segV_lo up]
  · have s : Seg l x i := ⟨hi, h1, h2, fun k a b => by
      by_cases ek : k = i
      · subst ek
        have : (gi l (k : Int)).1 ≠ x := fun q => e ⟨q, a⟩
        omega
      · have := h.mono i k (by omega) (by omega)
        omega⟩
    exact atV_seg hE s
theorem atV_pt {l : Cur} (h : Cv l) (h0 : curveE l = 0) {k : Nat} (hk : k < l.length) : atE l (gi l (k : Int)).1 = 0 ∧ atV l (gi l (k : Int)).1 = (gi l (k : Int)).2 := by
  have hl := h.len
  by_cases e : k + 1 < l.length
  · have up := h.up k e
    have e2 : ((k + 1 : Nat) : Int) = (k : Int) + 1 := by omega
    rw [e2] at up
    have := atV_in h h0 e (x := (gi l (k : Int)).1) (Int.le_refl _) (by omega)
    rw [segV_lo up] at this
    exact this
  · have e3 : (((k - 1 : Nat) : Int) + 1) = (k : Int) := by omega
    have up := h.up (k - 1) (by omega)
    rw [show k - 1 + 1 = k by omega] at up
    have := atV_in h h0 (i := k - 1) (by omega) (x := (gi l (k : Int)).1) (by omega) (by rw [e3]; exact Int.le_refl _)
    rw [e3, segV_hi up] at this
    exact this

def mn (a b : Int × Int) : Int × Int := (min a.1 b.1, min a.2 b.2)
def lsS (l : Cur) (fr to : Int) : Nat → Int × Int
  | 0 => mn (atV l fr) (atV l to)
  | k + 1 => if fr < (gi l (k : Int)).1 ∧ (gi l (k : Int)).1 < to then mn (lsS l fr to k) (gi l (k : Int)).2 else lsS l fr to k
theorem mn_le (a b : Int × Int) : (mn a b).1 ≤ a.1 ∧ (mn a b).2 ≤ a.2 ∧ (mn a b).1 ≤ b.1 ∧ (mn a b).2 ≤ b.2 := ⟨Int.min_le_left .., Int.min_le_left .., Int.min_le_right .., Int.min_le_right ..⟩
theorem mn_eq {a b : Int × Int} (h1 : a.1 ≤ b.1) (h2 : a.2 ≤ b.2) : mn a b = a := by
  unfold mn
  rw [Int.min_eq_left h1, Int.min_eq_left h2]
theorem lsS_le (l : Cur) (fr to : Int) : ∀ k, (lsS l fr to k).1 ≤ (atV l fr).1 ∧ (lsS l fr to k).2 ≤ (atV l fr).2 ∧ (lsS l fr to k).1 ≤ (atV l to).1 ∧ (lsS l fr to k).2 ≤ (atV l to).2
  | 0 => mn_le _ _
  | k + 1 => by
    have h := lsS_le l fr to k
    simp only [lsS]
    split
    · have := mn_le (lsS l fr to k) (gi l (k : Int)).2
      omega
    · exact h
theorem lsS_step (l : Cur) (fr to : Int) (k : Nat) : (lsS l fr to (k + 1)).1 ≤ (lsS l fr to k).1 ∧ (lsS l fr to (k + 1)).2 ≤ (lsS l fr to k).2 := by
  simp only [lsS]
  split
  · have := mn_le (lsS l fr to k) (gi l (k : Int)).2
    omega
  · omega
theorem lsS_pt {l : Cur} {fr to : Int} {k : Nat} (h : fr < (gi l (k : Int)).1 ∧ (gi l (k : Int)).1 < to) : ∀ n, k < n → (lsS l fr to n).1 ≤ (gi l (k : Int)).2.1 ∧ (lsS l fr to n).2 ≤ (gi l (k : Int)).2.2
  | 0, hn => by omega
  | n + 1, hn => by
    by_cases e : k = n
    · subst e
      simp only [lsS]
      rw [if_pos h]
      have := mn_le (lsS l fr to k) (gi l (k : Int)).2
      omega
    · have := lsS_pt h n (by omega)
      have := lsS_step l fr to n
      omega
/-- What the reference adds. -/
theorem lsS_ref {l : Cur} (h : Cv l) (h0 : curveE l = 0) {fr to : Int} {k : Nat} (hk : k < l.length) :
    lsS l fr to (k + 1) = if fr ≤ (gi l (k : Int)).1 ∧ (gi l (k : Int)).1 ≤ to then mn (lsS l fr to k) (gi l (k : Int)).2 else lsS l fr to k := by
  have hp := (atV_pt h h0 hk).2
  have hb := lsS_le l fr to k
  simp only [lsS]
  by_cases h1 : fr < (gi l (k : Int)).1 ∧ (gi l (k : Int)).1 < to
  · rw [if_pos h1, if_pos (by omega)]
  · rw [if_neg h1]
    by_cases h2 : fr ≤ (gi l (k : Int)).1 ∧ (gi l (k : Int)).1 ≤ to
    · rw [if_pos h2]
      by_cases h3 : (gi l (k : Int)).1 = fr
      · rw [h3] at hp
        rw [← hp, mn_eq hb.1 hb.2.1]
      · have h4 : (gi l (k : Int)).1 = to := by omega
        rw [h4] at hp
        rw [← hp, mn_eq hb.2.2.1 hb.2.2.2]
    · rw [if_neg h2]

/-- The wavelengths of the program. -/
def lsW (l : Cur) (fr to : Int) : Nat → List Int
  | 0 => [to]
  | k + 1 => if fr < (gi l (k : Int)).1 ∧ (gi l (k : Int)).1 < to then lsW l fr to k ++ [(gi l (k : Int)).1] else lsW l fr to k
def mf (l : Cur) (a : Int × Int) (w : Int) : Int × Int := mn a (atV l w)
theorem lsW_fold {l : Cur} (h : Cv l) (h0 : curveE l = 0) (fr to : Int) : ∀ k, k ≤ l.length → (lsW l fr to k).foldl (mf l) (atV l fr) = lsS l fr to k
  | 0, _ => rfl
  | k + 1, hk => by
    simp only [lsW, lsS]
    split
    · rw [List.foldl_append, lsW_fold h h0 fr to k (by omega)]
      simp only [List.foldl_cons, List.foldl_nil, mf]
      rw [(atV_pt h h0 (by omega)).2]
    · exact lsW_fold h h0 fr to k (by omega)
theorem lsW_ok {l : Cur} (h : Cv l) (h0 : curveE l = 0) {fr to : Int} (ht : atE l to = 0) : ∀ k, k ≤ l.length → (lsW l fr to k).length ≤ k + 1 ∧ ∀ w, w ∈ lsW l fr to k → atE l w = 0
  | 0, _ => ⟨by simp [lsW], fun w hw => by simp only [lsW, List.mem_singleton] at hw; rw [hw]; exact ht⟩
  | k + 1, hk => by
    have ih := lsW_ok h h0 (fr := fr) ht k (by omega)
    simp only [lsW]
    split
    · refine ⟨by simp; omega, fun w hw => ?_⟩
      rcases List.mem_append.1 hw with hw | hw
      · exact ih.2 w hw
      · rw [List.mem_singleton] at hw
        rw [hw]; exact (atV_pt h h0 (by omega)).1
    · exact ⟨by omega, ih.2⟩

theorem k_atV {l : Cur} {x : Int} (h : atE l x = 0) : coat_at l x = some ((atV l x, ()), ()) := by
  obtain ⟨hc, _, _, _, i, s⟩ := atE_0 h
  rw [atV_seg h s]
  exact k_at hc s
def lsE (l : Cur) (fr to : Int) : Int := if atE l fr ≠ 0 then atE l fr else if atE l to ≠ 0 then atE l to else if to < fr then 9 else 0
def lsR (l : Cur) (fr to : Int) : ((Int × Int) × (Int × Unit)) × Unit := (((if lsE l fr to = 0 then lsS l fr to l.length else (0, 0)), (lsE l fr to, ())), ())
theorem chk_two (l : Cur) (x y : Int) : (if curveE l ≠ 0 then curveE l else if 0 ≤ idxTo (outP l [x, y]) ([x, y] : List Int).length then 2 else 0) = if atE l x ≠ 0 then atE l x else atE l y := by
  unfold atE
  by_cases h : curveE l = 0
  · have e : ∀ z : Int, (if curveE l ≠ 0 then curveE l else z) = z := fun z => if_neg (by simp [h])
    rw [e, e, e]
    have e0 : outP l [x, y] 0 = !decide ((gi l 0).1 ≤ x ∧ x ≤ (gi l ((l.length : Int) - 1)).1) := rfl
    have e1 : outP l [x, y] 1 = !decide ((gi l 0).1 ≤ y ∧ y ≤ (gi l ((l.length : Int) - 1)).1) := rfl
    by_cases hx : (gi l 0).1 ≤ x ∧ x ≤ (gi l ((l.length : Int) - 1)).1
    · by_cases hy : (gi l 0).1 ≤ y ∧ y ≤ (gi l ((l.length : Int) - 1)).1
      · rw [show idxTo (outP l [x, y]) ([x, y] : List Int).length = -1 from idxTo_none (fun j hj => by
          have : j = 0 ∨ j = 1 := by simp at hj; omega
          rcases this with rfl | rfl
          · rw [e0]; simp [hx]
          · rw [e1]; simp [hy])]
        simp [hx, hy]
      · rw [show idxTo (outP l [x, y]) ([x, y] : List Int).length = ((1 : Nat) : Int) from idxTo_at (fun j hj => by
          have : j = 0 := by omega
          subst this
          rw [e0]; simp [hx]) (by rw [e1]; simp [hy]) (by simp)]
        simp [hx, hy]
    · rw [show idxTo (outP l [x, y]) ([x, y] : List Int).length = ((0 : Nat) : Int) from idxTo_at (fun j hj => by omega) (by rw [e0]; simp [hx]) (by simp)]
      simp [hx]
  · have e : ∀ z : Int, (if curveE l ≠ 0 then curveE l else z) = curveE l := fun z => if_pos h
    rw [e, e, e]

theorem k_rLeast (l : Cur) (fr to : Int) : ref08xLeast l fr to = some (lsR l fr to) := by
  simp only [ref08xLeast, T_ref08xLeast]
  refine (r_bs (k_rAt l fr)).trans ?_
  by_cases h1 : atE l fr = 0
  · refine (br_f (by simp [h1])).trans ?_
    refine (r_bs (k_rAt l to)).trans ?_
    by_cases h2 : atE l to = 0
    · refine (br_f (by simp [h2])).trans ?_
      by_cases h3 : to < fr
      · refine (br_t (decide_eq_true h3)).trans ?_
        refine (r_ret _).trans ?_
        have e : lsE l fr to = 9 := by unfold lsE; rw [if_neg (by simp [h1]), if_neg (by simp [h2]), if_pos h3]
        simp only [lsR, e]; rfl
      · refine (br_f (decide_eq_false h3)).trans ?_
        have e : lsE l fr to = 0 := by unfold lsE; rw [if_neg (by simp [h1]), if_neg (by simp [h2]), if_neg h3]
        obtain ⟨hc, h0, _, _, _⟩ := atE_0 h1
        have hl := hc.len
        rw [r_iter]
        refine iter_eq (fun k y => y = ((k : Int), lsS l fr to k, ())) _ l.length (by omega) ?_ rfl
        rintro k y hk rfl
        dsimp only
        unfold T_ref08xLeast_l2
        by_cases ek : k < l.length
        · left
          refine ⟨(((k + 1 : Nat) : Int), lsS l fr to (k + 1), ()), ?_, ek, rfl⟩
          refine (br_t (decide_eq_true (by omega))).trans ?_
          refine (q_of (inB_t' (by omega) (by omega))).trans ?_
          refine (r_bs (k_Within _ _ _)).trans ?_
          rw [lsS_ref hc h0 ek, w64' (x := (k : Int) + 1) (by omega) (by omega)]
          by_cases h4 : fr ≤ (gi l (k : Int)).1 ∧ (gi l (k : Int)).1 ≤ to
          · refine (br_t (decide_eq_true h4)).trans ?_
            refine (q_of (inB_t' (by omega) (by omega))).trans ?_
            refine (q_of (inB_t' (by omega) (by omega))).trans ?_
            rw [if_pos h4]
            exact r_ret _
          · refine (br_f (decide_eq_false h4)).trans ?_
            rw [if_neg h4]
            exact r_ret _
        · right
          have ek : k = l.length := by omega
          subst ek
          refine (br_f (decide_eq_false (by omega))).trans ?_
          refine (r_ret _).trans ?_
          simp only [lsR, e, if_true]
    · refine (br_t (by simp [h2])).trans ?_
      refine (r_ret _).trans ?_
      have e : lsE l fr to = atE l to := by unfold lsE; rw [if_neg (by simp [h1]), if_pos h2]
      simp only [lsR, e, if_neg h2]
  · refine (br_t (by simp [h1])).trans ?_
    refine (r_ret _).trans ?_
    have e : lsE l fr to = atE l fr := by unfold lsE; rw [if_pos h1]
    simp only [lsR, e, if_neg h1]

theorem k_lsIn {l : Cur} {fr to : Int} (h1 : atE l fr = 0) (h2 : atE l to = 0) (h3 : ¬ to < fr) {ws : List Int} (hw : ∀ w, w ∈ ws → atE l w = 0) (hn : ws.length ≤ 100) :
    iterF (fun q_ : Int × (Int × Int) × Unit => (T_coat_Least_l3 l ws q_.1 q_.2.1).run) FUEL (0, atV l fr, ()) = some (.inr ((ws.foldl (mf l) (atV l fr), (0, ())), ())) := by
  refine iter_eq (fun k y => y = ((k : Int), (ws.take k).foldl (mf l) (atV l fr), ())) _ ws.length (by omega) ?_ rfl
  rintro k y hk rfl
  dsimp only
  unfold T_coat_Least_l3
  by_cases ek : k < ws.length
  · left
    refine ⟨(((k + 1 : Nat) : Int), (ws.take (k + 1)).foldl (mf l) (atV l fr), ()), ?_, ek, rfl⟩
    refine (br_t (decide_eq_true (by omega))).trans ?_
    refine (q_of (inB_t' (by omega) (by omega))).trans ?_
    refine (r_bs (k_atV (hw _ (gi_mem (by omega) (by omega))))).trans ?_
    rw [w64' (x := (k : Int) + 1) (by omega) (by omega)]
    refine (r_ret _).trans ?_
    rw [List.take_succ_eq_append_getElem ek, List.foldl_append, ← gi_nat ek]
    rfl
  · right
    have ek : k = ws.length := by omega
    subst ek
    rw [List.take_length]
    refine (br_f (decide_eq_false (by omega))).trans ?_
    exact r_ret _
theorem k_Least (l : Cur) (fr to : Int) : coat_Least l fr to = some (lsR l fr to) := by
  simp only [coat_Least, T_coat_Least]
  refine (r_bs (k_checkAt l (ws := [fr, to]) (by simp))).trans ?_
  rw [chk_two]
  by_cases h1 : atE l fr = 0
  · rw [if_neg (by simp [h1])]
    by_cases h2 : atE l to = 0
    · refine (br_f (by simp [h2])).trans ?_
      by_cases h3 : to < fr
      · refine (br_t (decide_eq_true h3)).trans ?_
        refine (r_ret _).trans ?_
        have e : lsE l fr to = 9 := by unfold lsE; rw [if_neg (by simp [h1]), if_neg (by simp [h2]), if_pos h3]
        simp only [lsR, e]; rfl
      · refine (br_f (decide_eq_false h3)).trans ?_
        have e : lsE l fr to = 0 := by unfold lsE; rw [if_neg (by simp [h1]), if_neg (by simp [h2]), if_neg h3]
        obtain ⟨hc, h0, _, _, _⟩ := atE_0 h1
        have hl := hc.len
        refine (q_of rfl).trans ?_
        rw [r_iter]
        refine iter_eq (fun k y => y = (lsW l fr to k, (k : Int), ())) _ l.length (by omega) ?_ rfl
        rintro k y hk rfl
        dsimp only
        unfold T_coat_Least_l1
        have hw := lsW_ok hc h0 (fr := fr) h2 k hk
        by_cases ek : k < l.length
        · left
          refine ⟨(lsW l fr to (k + 1), ((k + 1 : Nat) : Int), ()), ?_, ek, rfl⟩
          refine (br_t (decide_eq_true (by omega))).trans ?_
          refine (q_of (inB_t' (by omega) (by omega))).trans ?_
          rw [w64' (x := (k : Int) + 1) (by omega) (by omega)]
          rw [show lsW l fr to (k + 1) = if fr < (gi l (k : Int)).1 ∧ (gi l (k : Int)).1 < to then lsW l fr to k ++ [(gi l (k : Int)).1] else lsW l fr to k from rfl]
          by_cases h4 : fr < (gi l (k : Int)).1
          · refine (br_t (decide_eq_true h4)).trans ?_
            by_cases h5 : (gi l (k : Int)).1 < to
            · refine (br_t (decide_eq_true h5)).trans ?_
              rw [if_pos ⟨h4, h5⟩]
              refine (q_of (decide_eq_true rfl)).trans ?_
              refine (q_of (app_t' (by simp only [List.length_cons, List.length_nil]; omega) (by simp only [List.length_cons, List.length_nil]; omega))).trans ?_
              refine (q_of (decide_eq_true (by simp))).trans ?_
              exact r_ret _
            · refine (br_f (decide_eq_false h5)).trans ?_
              rw [if_neg (fun q => h5 q.2)]
              refine (q_of (decide_eq_true rfl)).trans ?_
              exact r_ret _
          · refine (br_f (decide_eq_false h4)).trans ?_
            rw [if_neg (fun q => h4 q.1)]
            refine (q_of (decide_eq_true rfl)).trans ?_
            exact r_ret _
        · right
          have ek : k = l.length := by omega
          subst ek
          refine (br_f (decide_eq_false (by omega))).trans ?_
          refine (r_bs (k_atV h1)).trans ?_
          rw [r_iter]
          refine (k_lsIn h1 h2 h3 hw.2 (by omega)).trans ?_
          rw [lsW_fold hc h0 fr to _ (Nat.le_refl _)]
          simp only [lsR, e, if_true]
    · refine (br_t (by simp [h2])).trans ?_
      refine (r_ret _).trans ?_
      have e : lsE l fr to = atE l to := by unfold lsE; rw [if_neg (by simp [h1]), if_pos h2]
      simp only [lsR, e, if_neg h2]
  · rw [if_pos h1]
    refine (br_t (by simp [h1])).trans ?_
    refine (r_ret _).trans ?_
    have e : lsE l fr to = atE l fr := by unfold lsE; rw [if_pos h1]
    simp only [lsR, e, if_neg h1]

/-- At no wavelength of the band is it less. -/
theorem ls_all {l : Cur} {fr to x : Int} (h : lsE l fr to = 0) (h1 : fr ≤ x) (h2 : x ≤ to) : atE l x = 0 ∧ (lsS l fr to l.length).1 ≤ (atV l x).1 ∧ (lsS l fr to l.length).2 ≤ (atV l x).2 := by
  unfold lsE at h
  split at h
  · rename_i q; exact absurd h q
  rename_i q1
  have q1 : atE l fr = 0 := Classical.not_not.1 q1
  split at h
  · rename_i q; exact absurd h q
  rename_i q2
  have q2 : atE l to = 0 := Classical.not_not.1 q2
  obtain ⟨hc, h0, a1, a2, _⟩ := atE_0 q1
  obtain ⟨_, _, b1, b2, _⟩ := atE_0 q2
  have hx : atE l x = 0 := by unfold atE; rw [if_neg (by simp [h0]), if_pos (by omega)]
  refine ⟨hx, ?_⟩
  obtain ⟨_, _, _, _, i, s⟩ := atE_0 hx
  have hl := hc.len
  obtain ⟨p, q, hp, hq, f1, f2, f3, f4, f5, f6, f7, f8, f9, f10, f11⟩ := s.facts hc
  have s1 := s.lt
  have sl := lsS_le l fr to l.length
  have e2 : ((i : Int) + 1) = ((i + 1 : Nat) : Int) := by omega
  have key : ∀ y, p.1 ≤ y → y ≤ q.1 → atV l y = segV p q y := fun y y1 y2 => by
    have := (atV_in hc h0 s1 (x := y) (by rw [hp]; exact y1) (by rw [hq]; exact y2)).2
    rw [hp, hq] at this; exact this
  rw [key x f1 f2]
  have L : ∃ y, p.1 ≤ y ∧ y ≤ x ∧ (lsS l fr to l.length).1 ≤ (atV l y).1 ∧ (lsS l fr to l.length).2 ≤ (atV l y).2 := by
    by_cases c : p.1 ≤ fr
    · exact ⟨fr, c, h1, sl.1, sl.2.1⟩
    · by_cases d : p.1 < to
      · have := lsS_pt (l := l) (fr := fr) (to := to) (k := i) (by rw [hp]; omega) l.length (by omega)
        refine ⟨p.1, Int.le_refl _, f1, ?_⟩
        have e := (atV_pt hc h0 (k := i) (by omega)).2
        rw [hp] at e this
        rw [e]; exact this
      · have e : to = x := by omega
        exact ⟨to, by omega, by omega, sl.2.2.1, sl.2.2.2⟩
  have R : ∃ y, x ≤ y ∧ y ≤ q.1 ∧ (lsS l fr to l.length).1 ≤ (atV l y).1 ∧ (lsS l fr to l.length).2 ≤ (atV l y).2 := by
    by_cases c : to ≤ q.1
    · exact ⟨to, h2, c, sl.2.2.1, sl.2.2.2⟩
    · by_cases d : fr < q.1
      · have := lsS_pt (l := l) (fr := fr) (to := to) (k := i + 1) (by rw [← e2, hq]; omega) l.length (by omega)
        refine ⟨q.1, f2, Int.le_refl _, ?_⟩
        have e := (atV_pt hc h0 (k := i + 1) (by omega)).2
        rw [← e2, hq] at e this
        rw [e]; exact this
      · have e : fr = x := by omega
        exact ⟨fr, by omega, by omega, sl.1, sl.2.1⟩
  obtain ⟨y, y1, y2, y3⟩ := L
  obtain ⟨z, z1, z2, z3⟩ := R
  rw [key y y1 (by omega)] at y3
  rw [key z (by omega) z2] at z3
  exact segV_mid f3 y2 z1 y3 z3

theorem k_CoatLeast {l : List ((Int × (Int × Int)))} {band : (Int × Int)} {x : Int} (b0 : bulkT (.list (.pair (.int .i64) (.pair (.int .i64) (.int .i64)))) l ≤ 1048576) (w0 : wfT (.list (.pair (.int .i64) (.pair (.int .i64) (.int .i64)))) l) (b1 : bulkT (.pair (.int .i64) (.int .i64)) band ≤ 1048576) (w1 : wfT (.pair (.int .i64) (.int .i64)) band) (b2 : bulkT (.int .i64) x ≤ 1048576) (w2 : wfT (.int .i64) x) : law08xCoatLeast l band x = some ((true, ()), ()) := by
  simp only [law08xCoatLeast, T_law08xCoatLeast]
  rw [r_bind, awake_ok, Option.bind_some]
  refine (br_f rfl).trans ?_
  obtain ⟨b, hf, hb⟩ := k_few l
  refine (r_bs hf).trans ?_
  cases b with
  | false => exact (br_t rfl).trans (r_ret _)
  | true =>
    have hl := hb rfl
    refine (br_f rfl).trans ?_
    refine (r_bs (k_table hl)).trans ?_
    refine (r_bs (k_Least l band.1 band.2)).trans ?_
    refine (r_bs (k_rLeast l band.1 band.2)).trans ?_
    refine (br_f (by simp)).trans ?_
    refine (br_f (by simp)).trans ?_
    by_cases h : lsE l band.1 band.2 = 0
    · refine (br_f (by simp [lsR, h])).trans ?_
      refine (r_bs (k_Within _ _ _)).trans ?_
      by_cases h1 : band.1 ≤ x ∧ x ≤ band.2
      · refine (br_f (by simp [h1])).trans ?_
        refine (r_bs (k_table hl)).trans ?_
        refine (r_bs (k_At l x)).trans ?_
        obtain ⟨g1, g2, g3⟩ := ls_all h h1.1 h1.2
        refine (br_t (decide_eq_true g1)).trans ?_
        have e : (lsR l band.1 band.2).1.1 = lsS l band.1 band.2 l.length := by simp only [lsR, h, if_true]
        refine (br_t (decide_eq_true (by rw [e]; exact g2))).trans ?_
        refine (r_ret _).trans ?_
        rw [decide_eq_true (by rw [e]; exact g3)]
      · refine (br_t (by simp only [h1, decide_false]; rfl)).trans ?_
        exact r_ret _
    · refine (br_t (by simp [lsR, h])).trans ?_
      exact r_ret _
end Go.Ab
