/- Lengths and conic constants of the reference, and the program's; the keys. -/
import Derived.Test.YtpghhfnlfmlakaaGreatDoorN4
import Derived.Test.YtpghhfnlfmlakaaGreatDoorNC
namespace Go.Ab
open Go
set_option maxRecDepth 1000000
set_option maxHeartbeats 1000000
set_option linter.unusedVariables false
set_option linter.unusedSimpArgs false

/-! ### Constants -/

/-- A conic constant. -/
def conS (s : List UInt8) : Option (Int × Int) := match cutL 47 s with
  | [a] => (numS a).map fun n => (n, 1)
  | [a, b] => match numS a, numS b with
    | some x, some y => if 1 < y then some (x, y) else none
    | _, _ => none
  | _ => none
theorem conS_bd {s : List UInt8} {v : Int × Int} (h : conS s = some v) : (-100000000 < v.1 ∧ v.1 < 100000000) ∧ (-100000000 < v.2 ∧ v.2 < 100000000) := by
  unfold conS at h
  split at h
  · rename_i a _
    cases hn : numS a with
    | none => rw [hn] at h; cases h
    | some n =>
      rw [hn] at h; injection h with h; subst h
      exact ⟨numS_bd hn, show (-100000000 : Int) < 1 ∧ (1 : Int) < 100000000 by decide⟩
  · split at h
    · rename_i h1 h2
      split at h
      · injection h with h; subst h
        exact ⟨numS_bd h1, numS_bd h2⟩
      · cases h
    · cases h
  · cases h
theorem cutL_mem (c : UInt8) : ∀ (s : List UInt8) (p : List UInt8), p ∈ cutL c s → p.length ≤ s.length
  | [], p, h => by simp [cutL] at h; subst h; simp
  | b :: r, p, h => by
    by_cases hb : b = c
    · subst hb
      rw [cutL_hit] at h
      rcases List.mem_cons.1 h with h | h
      · subst h; simp
      · have := cutL_mem b r p h; simp; omega
    · cases e : cutL c r with
      | nil => rw [cutL, if_neg hb, e] at h; simp at h; subst h; simp
      | cons q qs =>
        rw [cutL_ne hb e] at h
        have ih := cutL_mem c r
        rcases List.mem_cons.1 h with h | h
        · subst h
          have := ih q (by rw [e]; simp); simp; omega
        · have := ih p (by rw [e]; simp [h]); simp; omega
/-- Two numbers that were read, with a bar between them. -/
theorem got_both {a b : Option Int} {x y : Int} {p q : Bool} (h1 : Got a x p) (h2 : Got b y q) : Got (match a, b with | some x, some y => if 1 < y then some (x, y) else none | _, _ => none) (x, y) (p && q && decide (1 < y)) := by
  obtain ⟨rfl, h1⟩ := h1
  obtain ⟨rfl, h2⟩ := h2
  cases a with
  | none => exact got_none
  | some a =>
    cases b with
    | none => exact got_none
    | some b =>
      have e1 := h1 a rfl
      have e2 := h2 b rfl
      subst e1 e2
      simp only [Option.isSome_some, Bool.true_and]
      by_cases h : 1 < y
      · rw [if_pos h, decide_eq_true h]; exact got_some
      · rw [if_neg h, decide_eq_false h]; exact got_none
theorem got_one {a : Option Int} {x : Int} {p : Bool} (h : Got a x p) : Got (a.map fun n => (n, (1 : Int))) (x, 1) p := by
  obtain ⟨rfl, h⟩ := h
  cases a with
  | none => exact got_none
  | some n => rw [h n rfl]; exact got_some
theorem both_tree {x y : Int} {p q : Bool} : (Tr.br p (.br q (.ret ((((x), (y)), ((decide (1 < y)), ())), ())) (.ret ((((x), (y)), (false, ())), ()))) (.ret ((((x), (y)), (false, ())), ())) : Tr (((Int × Int) × Bool × Unit) × Unit)).run = some (((x, y), (p && q && decide (1 < y)), ()), ()) := by
  cases p <;> cases q <;> rfl
theorem numS_bar {u : List UInt8} {k : Nat} (h : u[k]? = some 47) : numS u = none := by
  refine numS_none (.inr (.inr ⟨47, ?_, by decide⟩))
  unfold fromS
  split
  · rename_i hh
    cases u with
    | nil => cases hh
    | cons c r =>
      simp at hh; subst hh
      cases k with
      | zero => simp at h
      | succ k => exact List.mem_iff_getElem?.2 ⟨k, by simpa using h⟩
  · exact List.mem_iff_getElem?.2 ⟨k, by simpa using h⟩
theorem k_conic {s : List UInt8} (hs : s.length ≤ 1048576) : ∃ w b, optics_conic s = some ((w, b, ()), ()) ∧ Got (conS s) w b := by
  show ∃ w b, (T_optics_conic s).run = _ ∧ _
  unfold T_optics_conic conS
  rcases first_at s 47 with h | ⟨i, h1, h2⟩
  · have kc := k_cut s [47] hs
    rw [cut_none h] at kc
    rw [cutL_none h]
    obtain ⟨x, p, k1, g1⟩ := k_integer hs
    refine ⟨(x, 1), p, ?_, ?_⟩
    · refine (r_bs kc).trans ?_
      refine (r_bs k1).trans ?_
      refine (br_t rfl).trans ?_
      refine (r_bs (k_owhole x)).trans ?_
      exact r_ret _
    · exact got_one g1
  · have kc := k_cut s [47] hs
    rw [cut_some h1 h2] at kc
    rw [cutL_some h1 h2]
    obtain ⟨x, p, k1, g1⟩ := k_integer (s := s.take i) (by rw [List.length_take]; omega)
    obtain ⟨y, q, k2, g2⟩ := k_integer (s := s.drop (i + 1)) (by rw [List.length_drop]; omega)
    refine ⟨(x, y), p && q && decide (1 < y), ?_, ?_⟩
    · refine (r_bs kc).trans ?_
      refine (r_bs k1).trans ?_
      refine (br_f rfl).trans ?_
      refine (r_bs k2).trans ?_
      exact both_tree
    · have hb := got_both g1 g2
      rcases first_at (s.drop (i + 1)) 47 with h | ⟨j, h3, h4⟩
      · rw [cutL_none h]; exact hb
      · rw [numS_bar h3] at hb
        have e : (match numS (s.take i), (none : Option Int) with | some x, some y => if 1 < y then some (x, y) else none | _, _ => none) = (none : Option (Int × Int)) := by
          cases numS (s.take i) <;> rfl
        rw [e] at hb
        rw [cutL_some h3 h4]
        cases hq : cutL 47 ((s.drop (i + 1)).drop (j + 1)) with
        | nil =>
          exfalso
          revert hq
          generalize (s.drop (i + 1)).drop (j + 1) = v
          cases v with
          | nil => simp [cutL]
          | cons b r => rw [cutL]; split
                        · simp
                        · split <;> simp
        | cons a l => exact hb

/-! ### Keys -/

/-- The number of a key. -/
def keyS (s : List UInt8) : Option Nat := if s = bRadius then some 0 else if s = bConic then some 1 else if s = bDiameter then some 2 else if s = bApart then some 3 else none
end Go.Ab
