/- CheckCircle of the program and of the reference; Earliest of the program: the least times, or a circle. -/
import Derived.Test.YtnkpnobdhoemoaaD2
namespace Go.Ab
open Go
set_option maxRecDepth 1000000
set_option maxHeartbeats 1000000
set_option linter.unusedVariables false
set_option linter.unusedSimpArgs false

/-! ### Circles -/
def ccAt (l : List Tri) (c : List Int) : Nat → Int
  | 0 => (gi l (gi c ((c.length : Int) - 1))).2.1
  | i + 1 => (gi l (gi c (i : Int))).2.1
def ccSum (l : List Tri) (c : List Int) : Nat → Int
  | 0 => 0
  | i + 1 => ccSum l c i + (gi l (gi c (i : Int))).2.2
def ccIn (l : List Tri) (c : List Int) (i : Nat) : Int := if 0 ≤ gi c (i : Int) ∧ gi c (i : Int) ≤ (l.length : Int) - 1 then 0 else 6
def ccOp (l : List Tri) (c : List Int) (i : Nat) : Int := if (gi l (gi c (i : Int))).1 = ccAt l c i then 0 else 25
def ccE2 (l : List Tri) (c : List Int) : Int := if firstErr (ccOp l c) c.length = 0 then if 0 ≤ ccSum l c c.length then 22 else 0 else firstErr (ccOp l c) c.length
def ccE (l : List Tri) (c : List Int) : Int := if 1 ≤ c.length ∧ c.length ≤ 200 then if firstErr (ccIn l c) c.length = 0 then ccE2 l c else firstErr (ccIn l c) c.length else 10
def ccV (l : List Tri) (c : List Int) : Int := if ccE l c = 0 then ccSum l c c.length else 0
theorem ccIn_0 {l : List Tri} {c : List Int} {i : Nat} (h : ccIn l c i = 0) : 0 ≤ gi c (i : Int) ∧ gi c (i : Int) < l.length := by
  unfold ccIn at h
  split at h
  · omega
  · cases h
theorem ccOp_0 {l : List Tri} {c : List Int} {i : Nat} (h : ccOp l c i = 0) : (gi l (gi c (i : Int))).1 = ccAt l c i := by
  unfold ccOp at h
  split at h
  · assumption
  · cases h
theorem ccE_of {l : List Tri} {c : List Int} (h1 : 1 ≤ c.length ∧ c.length ≤ 200) (h2 : ∀ i, i < c.length → ccIn l c i = 0) (h3 : ∀ i, i < c.length → ccOp l c i = 0) (h4 : ccSum l c c.length < 0) : ccE l c = 0 := by
  unfold ccE ccE2
  rw [if_pos h1, if_pos (firstErr_0 h2), if_pos (firstErr_0 h3), if_neg (by omega)]
theorem ccE_0 {l : List Tri} {c : List Int} (h : ccE l c = 0) : (1 ≤ c.length ∧ c.length ≤ 200) ∧ (∀ i, i < c.length → ccIn l c i = 0) ∧ (∀ i, i < c.length → ccOp l c i = 0) ∧ ccSum l c c.length < 0 := by
  unfold ccE at h
  split at h
  · rename_i h1
    split at h
    · rename_i h2
      unfold ccE2 at h
      split at h
      · rename_i h3
        split at h
        · cases h
        · rename_i h4
          exact ⟨h1, firstErr_eq0 h2, firstErr_eq0 h3, by omega⟩
      · rename_i h3; exact absurd h h3
    · rename_i h2; exact absurd h h2
  · cases h
theorem ccSum_bd {a : Ann} (h : An a) {c : List Int} (hi : ∀ i, i < c.length → ccIn (sysL a) c i = 0) : ∀ k : Nat, k ≤ c.length → -((k : Int) * 250000000000) ≤ ccSum (sysL a) c k ∧ ccSum (sysL a) c k ≤ (k : Int) * 250000000000
  | 0, _ => by simp [ccSum]
  | k + 1, hk => by
    have ih := ccSum_bd h hi k (by omega)
    have g := ccIn_0 (hi k (by omega))
    have b := sysL_bd h (gi_mem g.1 g.2)
    simp only [ccSum]
    omega
/-- The result. -/
def ccR (l : List Tri) (c : List Int) : (Int × (Int × Unit)) × Unit := ((ccV l c, (ccE l c, ())), ())
theorem ccR_10 {l : List Tri} {c : List Int} (h : ¬ (1 ≤ c.length ∧ c.length ≤ 200)) : ccR l c = ((0, (10, ())), ()) := by
  have e : ccE l c = 10 := by unfold ccE; rw [if_neg h]
  unfold ccR ccV
  rw [e]; rfl
theorem ccR_in {l : List Tri} {c : List Int} (h : 1 ≤ c.length ∧ c.length ≤ 200) (h2 : firstErr (ccIn l c) c.length ≠ 0) : ccR l c = ((0, (firstErr (ccIn l c) c.length, ())), ()) := by
  have e : ccE l c = firstErr (ccIn l c) c.length := by unfold ccE; rw [if_pos h, if_neg h2]
  unfold ccR ccV
  rw [e, if_neg h2]
theorem ccR_op {l : List Tri} {c : List Int} (h : 1 ≤ c.length ∧ c.length ≤ 200) (h2 : firstErr (ccIn l c) c.length = 0) (h3 : firstErr (ccOp l c) c.length ≠ 0) : ccR l c = ((0, (firstErr (ccOp l c) c.length, ())), ()) := by
  have e : ccE l c = firstErr (ccOp l c) c.length := by unfold ccE ccE2; rw [if_pos h, if_pos h2, if_neg h3]
  unfold ccR ccV
  rw [e, if_neg h3]
theorem ccR_22 {l : List Tri} {c : List Int} (h : 1 ≤ c.length ∧ c.length ≤ 200) (h2 : firstErr (ccIn l c) c.length = 0) (h3 : firstErr (ccOp l c) c.length = 0) (h4 : 0 ≤ ccSum l c c.length) : ccR l c = ((0, (22, ())), ()) := by
  have e : ccE l c = 22 := by unfold ccE ccE2; rw [if_pos h, if_pos h2, if_pos h3, if_pos h4]
  unfold ccR ccV
  rw [e]; rfl
theorem ccR_0 {l : List Tri} {c : List Int} (h : 1 ≤ c.length ∧ c.length ≤ 200) (h2 : firstErr (ccIn l c) c.length = 0) (h3 : firstErr (ccOp l c) c.length = 0) (h4 : ¬ 0 ≤ ccSum l c c.length) : ccR l c = ((ccSum l c c.length, (0, ())), ()) := by
  have e : ccE l c = 0 := by unfold ccE ccE2; rw [if_pos h, if_pos h2, if_pos h3, if_neg h4]
  unfold ccR ccV
  rw [e]; rfl

theorem k_ccP {a : Ann} (h : An a) {c : List Int} (hc : 1 ≤ c.length ∧ c.length ≤ 200) : iterF (fun q_ : Int × Unit => (T_blank_CheckCircle_l3 c ((sysL a, ()), ()) q_.1).run) FUEL (0, ()) = some (ccR (sysL a) c) := by
  have hl := h.len
  have hw := h.wl
  have hL := sysL_len a
  refine (iter_err (fun i => ((i : Int), ())) (ccIn (sysL a) c) c.length (by omega) (fun e => if e = 0 then ccR (sysL a) c else ((0, (e, ())), ())) (fun i hi _ he => ?_) (fun i hi _ he => ?_) (fun hall => ?_)).trans ?_
  · unfold T_blank_CheckCircle_l3
    dsimp only
    rw [if_neg he, w64' (x := ((sysL a).length : Int) - 1) (by omega) (by omega)]
    refine (br_t (decide_eq_true (by omega))).trans ?_
    refine (q_of (inB_t' (by omega) (by omega))).trans ?_
    refine (r_bs (k_within _ _ _)).trans ?_
    unfold ccIn at he ⊢
    split at he
    · exact absurd rfl he
    · rename_i q
      refine (br_t (nd' q)).trans ?_
      rw [if_neg q]
      exact r_ret _
  · have g := ccIn_0 he
    unfold T_blank_CheckCircle_l3
    dsimp only
    rw [w64' (x := ((sysL a).length : Int) - 1) (by omega) (by omega), w64' (x := (i : Int) + 1) (by omega) (by omega)]
    refine (br_t (decide_eq_true (by omega))).trans ?_
    refine (q_of (inB_t' (by omega) (by omega))).trans ?_
    refine (r_bs (k_within _ _ _)).trans ?_
    refine (br_f (nd (by omega))).trans ?_
    exact r_ret _
  · have gl := ccIn_0 (hall (c.length - 1) (by omega))
    rw [show ((c.length - 1 : Nat) : Int) = (c.length : Int) - 1 by omega] at gl
    have h2 := firstErr_0 hall
    unfold T_blank_CheckCircle_l3
    dsimp only
    rw [if_pos rfl]
    refine (br_f (decide_eq_false (by omega))).trans ?_
    rw [w64' (x := (c.length : Int) - 1) (by omega) (by omega)]
    refine (q_of (inB_t' (by omega) (by omega))).trans ?_
    refine (q_of (inB_t' (by omega) (by omega))).trans ?_
    rw [r_iter]
    refine (iter_err (fun i => (ccSum (sysL a) c i, ccAt (sysL a) c i, (i : Int), ())) (ccOp (sysL a) c) c.length (by omega) (fun e => (Sum.inr (if e = 0 then ccR (sysL a) c else ((0, (e, ())), ())) : (Int × Unit) ⊕ ((Int × (Int × Unit)) × Unit))) (fun i hi _ he => ?_) (fun i hi _ he => ?_) (fun hal2 => ?_)).trans ?_
    · have g := ccIn_0 (hall i hi)
      unfold T_blank_CheckCircle_l5
      dsimp only
      rw [if_neg he]
      refine (br_t (decide_eq_true (by omega))).trans ?_
      refine (q_of (inB_t' (by omega) (by omega))).trans ?_
      refine (q_of (inB_t' (by omega) (by omega))).trans ?_
      unfold ccOp at he ⊢
      split at he
      · exact absurd rfl he
      · rename_i q
        refine (br_t (nd' q)).trans ?_
        rw [if_neg q]
        exact r_ret _
    · have g := ccIn_0 (hall i hi)
      have b := ccSum_bd h hall i (by omega)
      have b2 := sysL_bd h (gi_mem g.1 g.2)
      unfold T_blank_CheckCircle_l5
      dsimp only
      rw [w64' (x := ccSum (sysL a) c i + (gi (sysL a) (gi c (i : Int))).2.2) (by omega) (by omega), w64' (x := (i : Int) + 1) (by omega) (by omega)]
      refine (br_t (decide_eq_true (by omega))).trans ?_
      refine (q_of (inB_t' (by omega) (by omega))).trans ?_
      refine (q_of (inB_t' (by omega) (by omega))).trans ?_
      refine (br_f (nd (ccOp_0 he))).trans ?_
      refine (q_of (inB_t' (by omega) (by omega))).trans ?_
      refine (q_of (inB_t' (by omega) (by omega))).trans ?_
      exact r_ret _
    · have h3 := firstErr_0 hal2
      unfold T_blank_CheckCircle_l5
      dsimp only
      rw [if_pos rfl]
      refine (br_f (decide_eq_false (by omega))).trans ?_
      by_cases h4 : 0 ≤ ccSum (sysL a) c c.length
      · refine (br_t (decide_eq_true h4)).trans ?_
        rw [ccR_22 hc h2 h3 h4]
        exact r_ret _
      · refine (br_f (decide_eq_false h4)).trans ?_
        rw [ccR_0 hc h2 h3 h4]
        exact r_ret _
    · by_cases h3 : firstErr (ccOp (sysL a) c) c.length = 0
      · rw [if_pos h3]
      · rw [if_neg h3, ccR_op hc h2 h3]
  · by_cases h2 : firstErr (ccIn (sysL a) c) c.length = 0
    · rw [if_pos h2]
    · rw [if_neg h2, ccR_in hc h2]
theorem k_ccR {a : Ann} (h : An a) {c : List Int} (hc : 1 ≤ c.length ∧ c.length ≤ 200) : iterF (fun q_ : Int × Unit => (T_ref03xCheckCircle_l2 c ((sysL a, ()), ()) q_.1).run) FUEL (0, ()) = some (ccR (sysL a) c) := by
  have hl := h.len
  have hw := h.wl
  have hL := sysL_len a
  refine (iter_err (fun i => ((i : Int), ())) (ccIn (sysL a) c) c.length (by omega) (fun e => if e = 0 then ccR (sysL a) c else ((0, (e, ())), ())) (fun i hi _ he => ?_) (fun i hi _ he => ?_) (fun hall => ?_)).trans ?_
  · unfold T_ref03xCheckCircle_l2
    dsimp only
    rw [if_neg he, w64' (x := ((sysL a).length : Int) - 1) (by omega) (by omega)]
    refine (br_t (decide_eq_true (by omega))).trans ?_
    refine (q_of (inB_t' (by omega) (by omega))).trans ?_
    refine (r_bs (k_Within _ _ _)).trans ?_
    unfold ccIn at he ⊢
    split at he
    · exact absurd rfl he
    · rename_i q
      refine (br_t (nd' q)).trans ?_
      rw [if_neg q]
      exact r_ret _
  · have g := ccIn_0 he
    unfold T_ref03xCheckCircle_l2
    dsimp only
    rw [w64' (x := ((sysL a).length : Int) - 1) (by omega) (by omega), w64' (x := (i : Int) + 1) (by omega) (by omega)]
    refine (br_t (decide_eq_true (by omega))).trans ?_
    refine (q_of (inB_t' (by omega) (by omega))).trans ?_
    refine (r_bs (k_Within _ _ _)).trans ?_
    refine (br_f (nd (by omega))).trans ?_
    exact r_ret _
  · have gl := ccIn_0 (hall (c.length - 1) (by omega))
    rw [show ((c.length - 1 : Nat) : Int) = (c.length : Int) - 1 by omega] at gl
    have h2 := firstErr_0 hall
    unfold T_ref03xCheckCircle_l2
    dsimp only
    rw [if_pos rfl]
    refine (br_f (decide_eq_false (by omega))).trans ?_
    rw [w64' (x := (c.length : Int) - 1) (by omega) (by omega)]
    refine (q_of (inB_t' (by omega) (by omega))).trans ?_
    refine (q_of (inB_t' (by omega) (by omega))).trans ?_
    rw [r_iter]
    refine (iter_err (fun i => (ccSum (sysL a) c i, ccAt (sysL a) c i, (i : Int), ())) (ccOp (sysL a) c) c.length (by omega) (fun e => (Sum.inr (if e = 0 then ccR (sysL a) c else ((0, (e, ())), ())) : (Int × Unit) ⊕ ((Int × (Int × Unit)) × Unit))) (fun i hi _ he => ?_) (fun i hi _ he => ?_) (fun hal2 => ?_)).trans ?_
    · have g := ccIn_0 (hall i hi)
      unfold T_ref03xCheckCircle_l4
      dsimp only
      rw [if_neg he]
      refine (br_t (decide_eq_true (by omega))).trans ?_
      refine (q_of (inB_t' (by omega) (by omega))).trans ?_
      refine (q_of (inB_t' (by omega) (by omega))).trans ?_
      unfold ccOp at he ⊢
      split at he
      · exact absurd rfl he
      · rename_i q
        refine (br_t (nd' q)).trans ?_
        rw [if_neg q]
        exact r_ret _
    · have g := ccIn_0 (hall i hi)
      have b := ccSum_bd h hall i (by omega)
      have b2 := sysL_bd h (gi_mem g.1 g.2)
      unfold T_ref03xCheckCircle_l4
      dsimp only
      rw [w64' (x := ccSum (sysL a) c i + (gi (sysL a) (gi c (i : Int))).2.2) (by omega) (by omega), w64' (x := (i : Int) + 1) (by omega) (by omega)]
      refine (br_t (decide_eq_true (by omega))).trans ?_
      refine (q_of (inB_t' (by omega) (by omega))).trans ?_
      refine (q_of (inB_t' (by omega) (by omega))).trans ?_
      refine (br_f (nd (ccOp_0 he))).trans ?_
      exact r_ret _
    · have h3 := firstErr_0 hal2
      unfold T_ref03xCheckCircle_l4
      dsimp only
      rw [if_pos rfl]
      refine (br_f (decide_eq_false (by omega))).trans ?_
      by_cases h4 : 0 ≤ ccSum (sysL a) c c.length
      · refine (br_t (decide_eq_true h4)).trans ?_
        rw [ccR_22 hc h2 h3 h4]
        exact r_ret _
      · refine (br_f (decide_eq_false h4)).trans ?_
        rw [ccR_0 hc h2 h3 h4]
        exact r_ret _
    · by_cases h3 : firstErr (ccOp (sysL a) c) c.length = 0
      · rw [if_pos h3]
      · rw [if_neg h3, ccR_op hc h2 h3]
  · by_cases h2 : firstErr (ccIn (sysL a) c) c.length = 0
    · rw [if_pos h2]
    · rw [if_neg h2, ccR_in hc h2]
theorem k_rCheckCircle {a : Ann} (h : An a) (c : List Int) : ref03xCheckCircle a c = some (ccR (sysL a) c) := by
  simp only [ref03xCheckCircle, T_ref03xCheckCircle]
  refine (r_bs (k_System h)).trans ?_
  refine (r_bs (k_Within _ _ _)).trans ?_
  by_cases hc : 1 ≤ c.length ∧ c.length ≤ 200
  · refine (br_f (nd (by omega))).trans ?_
    rw [r_iter]
    exact k_ccR h hc
  · refine (br_t (nd' (by omega))).trans ?_
    rw [ccR_10 hc]
    exact r_ret _
theorem k_CheckCircle (a : Ann) (c : List Int) : blank_CheckCircle a c = some (if annE a = 0 then ccR (sysL a) c else ((0, (annE a, ())), ())) := by
  simp only [blank_CheckCircle, T_blank_CheckCircle]
  refine (r_bs (k_CheckAnnealing a)).trans ?_
  by_cases h : annE a = 0
  · rw [if_pos h]
    refine (br_f (nd h)).trans ?_
    refine (r_bs (k_within _ _ _)).trans ?_
    by_cases hc : 1 ≤ c.length ∧ c.length ≤ 200
    · refine (br_f (nd (by omega))).trans ?_
      refine (r_bs (k_bounds (an_of h))).trans ?_
      rw [r_iter]
      exact k_ccP (an_of h) hc
    · refine (br_t (nd' (by omega))).trans ?_
      rw [ccR_10 hc]
      exact r_ret _
  · rw [if_neg h]
    refine (br_t (nd' h)).trans ?_
    exact r_ret _

/-! ### Times that keep all bounds -/
/-- The time of a level; the beginning's is 0. -/
def tmL (T : Nat → Int) (x : Int) : Int := if x < 0 then 0 else T x.toNat
def Fs (a : Ann) (T : Nat → Int) : Prop := ∀ b, b ∈ sysL a → tmL T b.2.1 - b.2.2 ≤ tmL T b.1
theorem Fs.nonneg {a : Ann} {T : Nat → Int} (F : Fs a T) {x : Nat} (hx : x < a.2.2.1.length + 1) : 0 ≤ T x := by
  have := F ((x : Int), -1, 0) (sysL_mem.2 (.inl ⟨x, hx, rfl⟩))
  unfold tmL at this
  dsimp only at this
  rw [if_pos (by decide), if_neg (by omega), Int.toNat_natCast] at this
  omega
def ext0 (a : Ann) (T : Nat → Int) : Nat → Int := fun x => if x < a.2.2.1.length + 1 then T x else 0
theorem ext0_ndx {a : Ann} {T : Nat → Int} {y : Int} (h1 : -1 ≤ y) (h2 : y ≤ a.2.2.1.length) : ext0 a T (ndx (nn a) y) = tmL T y := by
  have hnn : nn a = a.2.2.1.length + 2 := rfl
  unfold ext0 ndx tmL
  by_cases q : y = -1
  · rw [if_pos q, if_neg (by omega), if_pos (by omega)]
  · rw [if_neg q, if_pos (by omega), if_neg (by omega)]
/-- No number of the program passes one that keeps all bounds. -/
theorem Fs.run {a : Ann} (h : An a) {T : Nat → Int} (F : Fs a T) (m x : Nat) : (rA a m).1 x ≤ ext0 a T x := by
  refine run_le (fun x => ?_) m (fun k _ => ?_) x
  · unfold ext0
    split
    · exact F.nonneg (by assumption)
    · exact Int.le_refl _
  · have b := sysL_bd h (edA_mem a k)
    have f := F _ (edA_mem a k)
    have e1 := ext0_ndx (T := T) b.1.1 b.1.2
    have e2 := ext0_ndx (T := T) b.2.1.1 b.2.1.2
    show ext0 a T (ndx (nn a) _) - _ ≤ ext0 a T (ndx (nn a) _)
    rw [e1, e2]; exact f
/-- Where no bound asks for more, the numbers keep all bounds. -/
theorem fs_fix {a : Ann} (h : An a) {r : Nat} (hf : ∀ j, j < (sysL a).length → ¬ trg (rA a (r * (sysL a).length + j)).1 (edA a (r * (sysL a).length + j))) : Fs a (rA a (r * (sysL a).length)).1 := by
  have hnn : nn a = a.2.2.1.length + 2 := rfl
  have all : ∀ b, b ∈ sysL a → (rA a (r * (sysL a).length)).1 (ndx (nn a) b.2.1) - b.2.2 ≤ (rA a (r * (sysL a).length)).1 (ndx (nn a) b.1) := fun b hb => by
    obtain ⟨j, hj, e⟩ := List.getElem_of_mem hb
    have f := hf j hj
    have g : rA a (r * (sysL a).length + j) = rA a (r * (sysL a).length) := run_fix j (fun i hi => hf i (by omega))
    rw [g, edA_at a r hj, gi_nat hj, e] at f
    unfold trg edO at f
    dsimp only at f
    omega
  have nd1 : ∀ {y : Int}, 0 ≤ y → ndx (nn a) y = y.toNat := fun hy => by unfold ndx; rw [if_neg (by omega)]
  have nd0 : ndx (nn a) (-1) = nn a - 1 := by unfold ndx; rw [if_pos rfl]
  -- the beginning is not moved
  have sh : Fs a (fun x => (rA a (r * (sysL a).length)).1 x - (rA a (r * (sysL a).length)).1 (nn a - 1)) := fun b hb => by
    have i := all b hb
    have bd := sysL_bd h hb
    unfold tmL
    by_cases q1 : b.1 = -1
    · by_cases q2 : b.2.1 = -1
      · rw [q1, q2, nd0] at i
        rw [q1, q2, if_pos (by decide)]; omega
      · rw [q1, nd0, nd1 (by omega)] at i
        rw [if_neg (by omega), q1, if_pos (by decide)]
        dsimp only
        omega
    · by_cases q2 : b.2.1 = -1
      · rw [q2, nd0, nd1 (by omega)] at i
        rw [q2, if_pos (by decide), if_neg (by omega)]
        dsimp only
        omega
      · rw [nd1 (by omega), nd1 (by omega)] at i
        rw [if_neg (by omega), if_neg (by omega)]
        dsimp only
        omega
  have z := sh.run h (r * (sysL a).length) (nn a - 1)
  have z2 := (rA_bd h (r * (sysL a).length) (nn a - 1)).1
  have z3 : (rA a (r * (sysL a).length)).1 (nn a - 1) = 0 := by
    unfold ext0 at z
    rw [if_neg (by omega)] at z
    omega
  intro b hb
  have := sh b hb
  rw [z3] at this
  unfold tmL at this ⊢
  simp only [Int.sub_zero] at this
  exact this
/-- Where a circle is accepted no times keep all bounds. -/
theorem cc_none {a : Ann} {c : List Int} (h : ccE (sysL a) c = 0) {T : Nat → Int} (F : Fs a T) : False := by
  obtain ⟨h1, h2, h3, h4⟩ := ccE_0 h
  have key : ∀ k, k ≤ c.length → tmL T (ccAt (sysL a) c k) - tmL T (ccAt (sysL a) c 0) ≤ ccSum (sysL a) c k := fun k => by
    induction k with
    | zero => intro _; simp [ccSum]
    | succ k ih =>
      intro hk
      have i := ih (by omega)
      have g := ccIn_0 (h2 k (by omega))
      have f := F _ (gi_mem g.1 g.2)
      rw [ccOp_0 (h3 k (by omega))] at f
      simp only [ccSum]
      rw [show ccAt (sysL a) c (k + 1) = (gi (sysL a) (gi c (k : Int))).2.1 from rfl]
      omega
  have l := key c.length (Nat.le_refl _)
  have e : ccAt (sysL a) c c.length = ccAt (sysL a) c 0 := by
    obtain ⟨n, hn⟩ : ∃ n, c.length = n + 1 := ⟨c.length - 1, by omega⟩
    rw [hn]
    simp only [ccAt]
    rw [show ((c.length : Int) - 1) = ((n : Nat) : Int) by omega]
  rw [e] at l
  omega
end Go.Ab
