/- The bounds of an annealing; BlankSystems answers true. -/
import Derived.Test.YtnkpnobdhoemoaaC1
import Derived.Test.YtnkpnobdhoemoaaQLBlankSystems
import Derived.Test.YtnkpnobdhoemoaaR1
namespace Go.Ab
open Go
set_option maxRecDepth 1000000
set_option maxHeartbeats 1000000
set_option linter.unusedVariables false
set_option linter.unusedSimpArgs false

def lvL : Nat → List Tri
  | 0 => []
  | k + 1 => lvL k ++ [((k : Int), -1, 0)]
def stL (a : Ann) : Nat → List Tri
  | 0 => lvL (a.2.2.1.length + 1)
  | k + 1 => stL a k ++ [((k : Int), (k : Int) + 1, (gi a.2.2.1 (k : Int)).2.2), ((k : Int) + 1, (k : Int), -lm a (k : Int))]
def wiL (a : Ann) : Nat → List Tri
  | 0 => stL a a.2.2.1.length
  | k + 1 => wiL a k ++ [(-1, (gi a.2.2.2 (k : Int)).1, (gi a.2.2.2 (k : Int)).2.2), ((gi a.2.2.2 (k : Int)).1, -1, -(gi a.2.2.2 (k : Int)).2.1)]
/-- All bounds in their order. -/
def sysL (a : Ann) : List Tri := wiL a a.2.2.2.length
theorem lvL_len : ∀ k, (lvL k).length = k
  | 0 => rfl
  | k + 1 => by simp [lvL, lvL_len k]
theorem stL_len (a : Ann) : ∀ k, (stL a k).length = a.2.2.1.length + 1 + 2 * k
  | 0 => by simp [stL, lvL_len]
  | k + 1 => by simp [stL, stL_len a k]; omega
theorem wiL_len (a : Ann) : ∀ k, (wiL a k).length = 3 * a.2.2.1.length + 1 + 2 * k
  | 0 => by simp [wiL, stL_len]; omega
  | k + 1 => by simp [wiL, wiL_len a k]; omega
theorem sysL_len (a : Ann) : (sysL a).length = 3 * a.2.2.1.length + 1 + 2 * a.2.2.2.length := wiL_len a _

theorem lvL_mem {b : Tri} : ∀ {k}, b ∈ lvL k ↔ ∃ i : Nat, i < k ∧ b = ((i : Int), -1, 0)
  | 0 => by simp [lvL]
  | k + 1 => by
    simp only [lvL, List.mem_append, lvL_mem (k := k), List.mem_singleton]
    constructor
    · rintro (⟨i, h, e⟩ | e)
      · exact ⟨i, by omega, e⟩
      · exact ⟨k, by omega, e⟩
    · rintro ⟨i, h, e⟩
      by_cases q : i = k
      · subst q; exact .inr e
      · exact .inl ⟨i, by omega, e⟩
theorem stL_mem {a : Ann} {b : Tri} : ∀ {k}, b ∈ stL a k ↔ (∃ i : Nat, i < a.2.2.1.length + 1 ∧ b = ((i : Int), -1, 0)) ∨ ∃ i : Nat, i < k ∧ (b = ((i : Int), (i : Int) + 1, (gi a.2.2.1 (i : Int)).2.2) ∨ b = ((i : Int) + 1, (i : Int), -lm a (i : Int)))
  | 0 => by simp [stL, lvL_mem]
  | k + 1 => by
    simp only [stL, List.mem_append, stL_mem (k := k), List.mem_cons, List.not_mem_nil, or_false]
    constructor
    · rintro ((h | ⟨i, h, e⟩) | e)
      · exact .inl h
      · exact .inr ⟨i, by omega, e⟩
      · exact .inr ⟨k, by omega, e⟩
    · rintro (h | ⟨i, h, e⟩)
      · exact .inl (.inl h)
      · by_cases q : i = k
        · subst q; exact .inr e
        · exact .inl (.inr ⟨i, by omega, e⟩)
theorem wiL_mem {a : Ann} {b : Tri} : ∀ {k}, b ∈ wiL a k ↔ b ∈ stL a a.2.2.1.length ∨ ∃ i : Nat, i < k ∧ (b = (-1, (gi a.2.2.2 (i : Int)).1, (gi a.2.2.2 (i : Int)).2.2) ∨ b = ((gi a.2.2.2 (i : Int)).1, -1, -(gi a.2.2.2 (i : Int)).2.1))
  | 0 => by simp [wiL]
  | k + 1 => by
    simp only [wiL, List.mem_append, wiL_mem (k := k), List.mem_cons, List.not_mem_nil, or_false]
    constructor
    · rintro ((h | ⟨i, h, e⟩) | e)
      · exact .inl h
      · exact .inr ⟨i, by omega, e⟩
      · exact .inr ⟨k, by omega, e⟩
    · rintro (h | ⟨i, h, e⟩)
      · exact .inl (.inl h)
      · by_cases q : i = k
        · subst q; exact .inr e
        · exact .inl (.inr ⟨i, by omega, e⟩)
/-- What a bound may be. -/
theorem sysL_mem {a : Ann} {b : Tri} : b ∈ sysL a ↔ (∃ i : Nat, i < a.2.2.1.length + 1 ∧ b = ((i : Int), -1, 0)) ∨
    (∃ i : Nat, i < a.2.2.1.length ∧ (b = ((i : Int), (i : Int) + 1, (gi a.2.2.1 (i : Int)).2.2) ∨ b = ((i : Int) + 1, (i : Int), -lm a (i : Int)))) ∨
    ∃ i : Nat, i < a.2.2.2.length ∧ (b = (-1, (gi a.2.2.2 (i : Int)).1, (gi a.2.2.2 (i : Int)).2.2) ∨ b = ((gi a.2.2.2 (i : Int)).1, -1, -(gi a.2.2.2 (i : Int)).2.1)) := by
  unfold sysL
  rw [wiL_mem, stL_mem, or_assoc]
theorem sysL_bd {a : Ann} (h : An a) {b : Tri} (hb : b ∈ sysL a) : (-1 ≤ b.1 ∧ b.1 ≤ (a.2.2.1.length : Int)) ∧ (-1 ≤ b.2.1 ∧ b.2.1 ≤ (a.2.2.1.length : Int)) ∧ -250000000000 ≤ b.2.2 ∧ b.2.2 ≤ 1000000 := by
  rcases sysL_mem.1 hb with ⟨i, hi, e⟩ | ⟨i, hi, e | e⟩ | ⟨i, hi, e | e⟩
  · subst e; dsimp only; omega
  · have := h.st i hi
    subst e; dsimp only; omega
  · have := h.lm_bd (i := (i : Int)) (by omega) (by omega)
    subst e; dsimp only; omega
  · have := h.wi i hi
    subst e; dsimp only; omega
  · have := h.wi i hi
    subst e; dsimp only; omega

theorem k_b3 {a : Ann} (h : An a) : iterF (fun q_ : List Tri × Int × Unit => (T_blank_bounds_l3 a q_.1 q_.2.1).run) FUEL (stL a a.2.2.1.length, 0, ()) = some (.inr (.inr ((sysL a, ()), ()))) := by
  have hl := h.len
  have hw := h.wl
  refine iter_eq (fun k y => y = (wiL a k, (k : Int), ())) _ a.2.2.2.length (by omega) ?_ rfl
  rintro k y hk rfl
  dsimp only
  unfold T_blank_bounds_l3
  have ln := wiL_len a k
  by_cases e : k < a.2.2.2.length
  · left
    have hs := h.wi k e
    refine ⟨(wiL a (k + 1), ((k + 1 : Nat) : Int), ()), ?_, e, rfl⟩
    refine (br_t (decide_eq_true (by omega))).trans ?_
    refine (q_of (inB_t' (by omega) (by omega))).trans ?_
    refine (q_of (decide_eq_true rfl)).trans ?_
    refine (q_of (app_t' (by simp only [List.length_cons, List.length_nil]; omega) (by simp only [List.length_cons, List.length_nil]; omega))).trans ?_
    refine (q_of (decide_eq_true (by simp))).trans ?_
    rw [w64' (x := 0 - (gi a.2.2.2 (k : Int)).2.1) (by omega) (by omega), w64' (x := (k : Int) + 1) (by omega) (by omega), Int.zero_sub]
    exact r_ret _
  · right
    have e : k = a.2.2.2.length := by omega
    subst e
    refine (br_f (decide_eq_false (by omega))).trans ?_
    exact r_ret _
theorem k_b1 {a : Ann} (h : An a) : iterF (fun q_ : List Tri × Int × Unit => (T_blank_bounds_l1 a q_.1 q_.2.1).run) FUEL (lvL (a.2.2.1.length + 1), 0, ()) = some (.inr ((sysL a, ()), ())) := by
  have hl := h.len
  refine iter_eq (fun k y => y = (stL a k, (k : Int), ())) _ a.2.2.1.length (by omega) ?_ rfl
  rintro k y hk rfl
  dsimp only
  unfold T_blank_bounds_l1
  have ln := stL_len a k
  by_cases e : k < a.2.2.1.length
  · left
    have hs := h.lm_bd (i := (k : Int)) (by omega) (by omega)
    refine ⟨(stL a (k + 1), ((k + 1 : Nat) : Int), ()), ?_, e, rfl⟩
    refine (br_t (decide_eq_true (by omega))).trans ?_
    refine (q_of (inB_t' (by omega) (by omega))).trans ?_
    refine (r_bs (k_least h (i := (k : Int)) (by omega) (by omega))).trans ?_
    refine (q_of (decide_eq_true rfl)).trans ?_
    refine (q_of (app_t' (by simp only [List.length_cons, List.length_nil]; omega) (by simp only [List.length_cons, List.length_nil]; omega))).trans ?_
    refine (q_of (decide_eq_true (by simp))).trans ?_
    dsimp only
    rw [w64' (x := 0 - lm a (k : Int)) (by omega) (by omega), w64' (x := (k : Int) + 1) (by omega) (by omega), Int.zero_sub]
    exact r_ret _
  · right
    have e : k = a.2.2.1.length := by omega
    subst e
    refine (br_f (decide_eq_false (by omega))).trans ?_
    refine (q_of (decide_eq_true rfl)).trans ?_
    rw [r_iter]
    exact k_b3 h
theorem k_bounds {a : Ann} (h : An a) : blank_bounds a = some ((sysL a, ()), ()) := by
  have hl := h.len
  simp only [blank_bounds, T_blank_bounds]
  refine (q_of rfl).trans ?_
  rw [r_iter]
  refine iter_eq (fun k y => y = (lvL k, (k : Int), ())) _ (a.2.2.1.length + 1) (by omega) ?_ rfl
  rintro k y hk rfl
  dsimp only
  unfold T_blank_bounds_l0
  rw [w64' (x := (a.2.2.1.length : Int) + 1) (by omega) (by omega)]
  have ln := lvL_len k
  by_cases e : k < a.2.2.1.length + 1
  · left
    refine ⟨(lvL (k + 1), ((k + 1 : Nat) : Int), ()), ?_, e, rfl⟩
    refine (br_t (decide_eq_true (by omega))).trans ?_
    refine (q_of (decide_eq_true rfl)).trans ?_
    refine (q_of (app_t' (by simp only [List.length_cons, List.length_nil]; omega) (by simp only [List.length_cons, List.length_nil]; omega))).trans ?_
    refine (q_of (decide_eq_true (by simp))).trans ?_
    rw [w64' (x := (k : Int) + 1) (by omega) (by omega)]
    exact r_ret _
  · right
    have e : k = a.2.2.1.length + 1 := by omega
    subst e
    refine (br_f (decide_eq_false (by omega))).trans ?_
    refine (q_of (decide_eq_true rfl)).trans ?_
    rw [r_iter]
    exact k_b1 h

theorem k_r3 {a : Ann} (h : An a) : iterF (fun q_ : List Tri × Int × Unit => (T_ref03xSystem_l3 a q_.1 q_.2.1).run) FUEL (stL a a.2.2.1.length, 0, ()) = some (.inr (.inr ((sysL a, ()), ()))) := by
  have hl := h.len
  have hw := h.wl
  refine iter_eq (fun k y => y = (wiL a k, (k : Int), ())) _ a.2.2.2.length (by omega) ?_ rfl
  rintro k y hk rfl
  dsimp only
  unfold T_ref03xSystem_l3
  have ln := wiL_len a k
  by_cases e : k < a.2.2.2.length
  · left
    have hs := h.wi k e
    refine ⟨(wiL a (k + 1), ((k + 1 : Nat) : Int), ()), ?_, e, rfl⟩
    refine (br_t (decide_eq_true (by omega))).trans ?_
    refine (q_of (inB_t' (by omega) (by omega))).trans ?_
    refine (q_of (decide_eq_true rfl)).trans ?_
    refine (q_of (app_t' (by simp only [List.length_cons, List.length_nil]; omega) (by simp only [List.length_cons, List.length_nil]; omega))).trans ?_
    refine (q_of (decide_eq_true (by simp))).trans ?_
    refine (q_of (app_t' (by simp only [List.length_append, List.length_cons, List.length_nil]; omega) (by simp only [List.length_append, List.length_cons, List.length_nil]; omega))).trans ?_
    refine (q_of (decide_eq_true (by simp))).trans ?_
    rw [w64' (x := 0 - (gi a.2.2.2 (k : Int)).2.1) (by omega) (by omega), w64' (x := (k : Int) + 1) (by omega) (by omega), Int.zero_sub, List.append_assoc]
    exact r_ret _
  · right
    have e : k = a.2.2.2.length := by omega
    subst e
    refine (br_f (decide_eq_false (by omega))).trans ?_
    exact r_ret _
theorem k_r1 {a : Ann} (h : An a) : iterF (fun q_ : List Tri × Int × Unit => (T_ref03xSystem_l1 a q_.1 q_.2.1).run) FUEL (lvL (a.2.2.1.length + 1), 0, ()) = some (.inr ((sysL a, ()), ())) := by
  have hl := h.len
  refine iter_eq (fun k y => y = (stL a k, (k : Int), ())) _ a.2.2.1.length (by omega) ?_ rfl
  rintro k y hk rfl
  dsimp only
  unfold T_ref03xSystem_l1
  have ln := stL_len a k
  by_cases e : k < a.2.2.1.length
  · left
    have hs := h.lm_bd (i := (k : Int)) (by omega) (by omega)
    refine ⟨(stL a (k + 1), ((k + 1 : Nat) : Int), ()), ?_, e, rfl⟩
    refine (br_t (decide_eq_true (by omega))).trans ?_
    refine (q_of (inB_t' (by omega) (by omega))).trans ?_
    refine (q_of (decide_eq_true rfl)).trans ?_
    refine (q_of (app_t' (by simp only [List.length_cons, List.length_nil]; omega) (by simp only [List.length_cons, List.length_nil]; omega))).trans ?_
    refine (r_bs (k_rLeast h (i := (k : Int)) (by omega) (by omega))).trans ?_
    refine (q_of (decide_eq_true (by simp))).trans ?_
    refine (q_of (app_t' (by simp only [List.length_append, List.length_cons, List.length_nil]; omega) (by simp only [List.length_append, List.length_cons, List.length_nil]; omega))).trans ?_
    refine (q_of (decide_eq_true (by simp))).trans ?_
    dsimp only
    rw [w64' (x := 0 - lm a (k : Int)) (by omega) (by omega), w64' (x := (k : Int) + 1) (by omega) (by omega), Int.zero_sub, List.append_assoc]
    exact r_ret _
  · right
    have e : k = a.2.2.1.length := by omega
    subst e
    refine (br_f (decide_eq_false (by omega))).trans ?_
    refine (q_of (decide_eq_true rfl)).trans ?_
    rw [r_iter]
    exact k_r3 h
theorem k_System {a : Ann} (h : An a) : ref03xSystem a = some ((sysL a, ()), ()) := by
  have hl := h.len
  simp only [ref03xSystem, T_ref03xSystem]
  refine (q_of rfl).trans ?_
  rw [r_iter]
  refine iter_eq (fun k y => y = (lvL k, (k : Int), ())) _ (a.2.2.1.length + 1) (by omega) ?_ rfl
  rintro k y hk rfl
  dsimp only
  unfold T_ref03xSystem_l0
  have ln := lvL_len k
  by_cases e : k < a.2.2.1.length + 1
  · left
    refine ⟨(lvL (k + 1), ((k + 1 : Nat) : Int), ()), ?_, e, rfl⟩
    refine (br_t (decide_eq_true (by omega))).trans ?_
    refine (q_of (decide_eq_true rfl)).trans ?_
    refine (q_of (app_t' (by simp only [List.length_cons, List.length_nil]; omega) (by simp only [List.length_cons, List.length_nil]; omega))).trans ?_
    refine (q_of (decide_eq_true (by simp))).trans ?_
    rw [w64' (x := (k : Int) + 1) (by omega) (by omega)]
    exact r_ret _
  · right
    have e : k = a.2.2.1.length + 1 := by omega
    subst e
    refine (br_f (decide_eq_false (by omega))).trans ?_
    refine (q_of (decide_eq_true rfl)).trans ?_
    rw [r_iter]
    exact k_r1 h

theorem k_CoolSystem (a : Ann) : blank_CoolSystem a = some (((if annE a = 0 then sysL a else []), (annE a, ())), ()) := by
  simp only [blank_CoolSystem, T_blank_CoolSystem]
  refine (r_bs (k_CheckAnnealing a)).trans ?_
  by_cases h : annE a = 0
  · refine (br_f (nd h)).trans ?_
    refine (r_bs (k_bounds (an_of h))).trans ?_
    rw [if_pos h]
    refine (r_ret _).trans ?_
    rw [h]
  · refine (br_t (nd' h)).trans ?_
    rw [if_neg h]
    exact r_ret _

theorem k_BlankSystems {a : (Int × (Int × (List ((Int × (Int × Int))) × List ((Int × (Int × Int))))))} (b0 : bulkT (.pair (.int .i64) (.pair (.int .i64) (.pair (.list (.pair (.int .i64) (.pair (.int .i64) (.int .i64)))) (.list (.pair (.int .i64) (.pair (.int .i64) (.int .i64))))))) a ≤ 1048576) (w0 : wfT (.pair (.int .i64) (.pair (.int .i64) (.pair (.list (.pair (.int .i64) (.pair (.int .i64) (.int .i64)))) (.list (.pair (.int .i64) (.pair (.int .i64) (.int .i64))))))) a) : law03xBlankSystems a = some ((true, ()), ()) := by
  simp only [law03xBlankSystems, T_law03xBlankSystems]
  rw [r_bind, awake_ok, Option.bind_some]
  refine (br_f rfl).trans ?_
  obtain ⟨b, hf, hb⟩ := k_Light a
  refine (r_bs hf).trans ?_
  cases b with
  | false => exact (br_t rfl).trans (r_ret _)
  | true =>
    obtain ⟨l1, l2⟩ := hb rfl
    refine (br_f rfl).trans ?_
    refine (r_bs (k_own l1 l2)).trans ?_
    refine (r_bs (k_CoolSystem a)).trans ?_
    refine (r_bs (k_rCheckAnnealing a)).trans ?_
    by_cases h : annE a = 0
    · refine (br_f (nd h)).trans ?_
      refine (r_bs (k_System (an_of h))).trans ?_
      refine (br_f (nd h)).trans ?_
      refine (br_f (nd (by rw [if_pos h]))).trans ?_
      rw [if_pos h, r_iter]
      have hn := sysL_len a
      refine iter_eq (fun k y => y = ((k : Int), ())) _ (sysL a).length (by omega) ?_ rfl
      rintro k y hk rfl
      dsimp only
      unfold T_law03xBlankSystems_l6
      by_cases e : k < (sysL a).length
      · left
        refine ⟨((k : Int) + 1, ()), ?_, e, by rw [Int.natCast_succ]⟩
        refine (br_t (decide_eq_true (by dsimp only; omega))).trans ?_
        refine (q_of (inB_t' (by omega) (by dsimp only; omega))).trans ?_
        refine (q_of (inB_t' (by omega) (by dsimp only; omega))).trans ?_
        refine (br_f (by simp)).trans ?_
        rw [w64' (x := (k : Int) + 1) (by omega) (by omega)]
        exact r_ret _
      · right
        refine (br_f (decide_eq_false (by dsimp only; omega))).trans ?_
        exact r_ret _
    · refine (br_t (nd' h)).trans ?_
      refine (br_t (decide_eq_true rfl)).trans ?_
      refine (r_ret _).trans ?_
      rw [if_neg h]; rfl
end Go.Ab
