/- What blanks and comments change; designs that are equal. -/
import Derived.Test.YtpghhfnlfmlakaaGreatDoorNB
namespace Go.Ab
open Go
set_option maxRecDepth 1000000
set_option maxHeartbeats 4000000
set_option linter.unusedVariables false
set_option linter.unusedSimpArgs false

theorem cutL_app (c : UInt8) : ∀ (a b : List UInt8), cutL c (a ++ c :: b) = cutL c a ++ cutL c b
  | [], b => cutL_hit c b
  | x :: r, b => by
    have ih := cutL_app c r b
    by_cases h : x = c
    · subst h
      rw [List.cons_append, cutL_hit, cutL_hit, ih]; rfl
    · cases e : cutL c r with
      | nil =>
        exfalso
        cases r with
        | nil => simp [cutL] at e
        | cons y r => rw [cutL] at e; split at e
                      · cases e
                      · split at e <;> cases e
      | cons p ps =>
        rw [e] at ih
        rw [List.cons_append, cutL_ne h e]
        exact cutL_ne h ih
theorem cutL_cons {c : UInt8} (s : List UInt8) : ∃ p ps, cutL c s = p :: ps := by
  cases e : cutL c s with
  | cons p ps => exact ⟨p, ps, rfl⟩
  | nil =>
    exfalso
    cases s with
    | nil => simp [cutL] at e
    | cons y r => rw [cutL] at e; split at e
                  · cases e
                  · split at e <;> cases e
theorem mrL_err {l : List Srf} {ws : List Wd} {c e : Int} (h : mrL l ws = .inl (c, e)) : e ≠ 0 := by
  match ws with
  | [] => simp only [mrL] at h; injection h with h; injection h with _ h; omega
  | [w0] =>
    simp only [mrL] at h
    split at h
    · split at h <;> (injection h with h; injection h with _ h; omega)
    · injection h with h; injection h with _ h; omega
  | w0 :: w1 :: r =>
    simp only [mrL] at h
    split at h
    · split at h
      · injection h with h; injection h with _ h; omega
      · split at h
        · split at h
          · injection h with h; injection h with _ h; omega
          · split at h
            · rename_i x hx
              injection h with h
              subst h
              exact pairsS_err _ _ _ _ _ _ hx
            · split at h
              · cases h
              · rename_i hs
                injection h with h; injection h with _ h
                rw [← h]; exact hs
        · injection h with h; injection h with _ h; omega
    · injection h with h; injection h with _ h; omega
theorem hdL_err {ws : List Wd} {c e : Int} (h : hdL ws = .inl (c, e)) : e ≠ 0 := by
  match ws with
  | [] => simp only [hdL] at h; injection h with h; injection h with _ h; omega
  | [w0] =>
    simp only [hdL] at h
    split at h <;> (injection h with h; injection h with _ h; omega)
  | [w0, w1] =>
    simp only [hdL] at h
    split at h
    · split at h
      · cases h
      · injection h with h; injection h with _ h; omega
    · injection h with h; injection h with _ h; omega
  | w0 :: w1 :: w2 :: r =>
    simp only [hdL] at h
    split at h
    · split at h <;> (injection h with h; injection h with _ h; omega)
    · injection h with h; injection h with _ h; omega
theorem hdL_shift {ws : List Wd} {n : List UInt8} (k : Nat) (h : hdL ws = .inr n) : hdL (ws.map (shiftW k)) = .inr n := by
  match ws with
  | [] => simp only [hdL] at h; cases h
  | [w0] =>
    simp only [hdL] at h
    split at h <;> cases h
  | [w0, w1] =>
    simp only [hdL] at h
    simp only [hdL, List.map_cons, List.map_nil, shiftW]
    split at h
    · rename_i h1
      rw [if_pos h1]
      split at h
      · rename_i h2; rw [if_pos h2]; exact h
      · cases h
    · cases h
  | w0 :: w1 :: w2 :: r =>
    simp only [hdL] at h
    split at h
    · split at h <;> cases h
    · cases h
theorem lines_ok {nm z : List UInt8} {d : Dsg} (hz : wordsA 0 [] z = []) : ∀ (rows : List (List UInt8)) (i j : Nat) (l : List Srf) (m : Int × Int), linesS nm i l rows = (d, (m, 0)) → linesS nm j l (rows ++ [z]) = (d, ((0, 0), 0))
  | [], i, j, l, m, h => by
    rw [linesS] at h
    rw [List.nil_append, linesS, if_pos hz, linesS]
    injection h with h h2
    rw [h]
  | p :: r, i, j, l, m, h => by
    rw [linesS] at h
    rw [List.cons_append, linesS]
    split at h
    · rename_i hw
      rw [if_pos hw]
      exact lines_ok hz r _ _ _ _ h
    · rename_i hw
      rw [if_neg hw]
      cases hq : mrL l (wordsA 0 [] p) with
      | inl x =>
        obtain ⟨c, e⟩ := x
        rw [hq] at h
        injection h with _ h
        injection h with _ h
        exact absurd h (mrL_err hq)
      | inr s =>
        rw [hq] at h
        exact lines_ok hz r _ _ _ _ h
theorem heads_ok {z : List UInt8} {d : Dsg} (hz : wordsA 0 [] z = []) : ∀ (rows : List (List UInt8)) (i j : Nat) (m : Int × Int), headsS i rows = (d, (m, 0)) → headsS j (rows ++ [z]) = (d, ((0, 0), 0))
  | [], i, j, m, h => by
    rw [headsS] at h
    injection h with _ h
    injection h with _ h
    exact absurd h (by decide)
  | p :: r, i, j, m, h => by
    rw [headsS] at h
    rw [List.cons_append, headsS]
    split at h
    · rename_i hw
      rw [if_pos hw]
      exact heads_ok hz r _ _ _ h
    · rename_i hw
      rw [if_neg hw]
      cases hq : hdL (wordsA 0 [] p) with
      | inl x =>
        obtain ⟨c, e⟩ := x
        rw [hq] at h
        injection h with _ h
        injection h with _ h
        exact absurd h (hdL_err hq)
      | inr n =>
        rw [hq] at h
        exact lines_ok hz r _ _ _ _ h
/-- Blanks and comments around a text. -/
abbrev wrapT (t : List UInt8) : List UInt8 := ([35, 32, 97, 32, 99, 111, 109, 109, 101, 110, 116, 10, 32, 9] ++ t) ++ [10, 9, 32, 35]
theorem parS_wrap {t : List UInt8} {d : Dsg} {m : Int × Int} (hl : t.length ≤ 600) (h : parS t = (d, (m, 0))) : parS (wrapT t) = (d, ((0, 0), 0)) := by
  unfold parS at h ⊢
  rw [if_neg (by omega)] at h
  rw [if_neg (by simp only [wrapT, List.length_append, List.length_cons, List.length_nil]; omega)]
  have e1 : wrapT t = [35, 32, 97, 32, 99, 111, 109, 109, 101, 110, 116] ++ 10 :: ((32 :: 9 :: t) ++ 10 :: [9, 32, 35]) := by simp [wrapT]
  rw [e1, cutL_app, cutL_app]
  obtain ⟨p, ps, hp⟩ := cutL_cons (c := 10) t
  rw [hp] at h
  have e2 : cutL 10 (9 :: t) = (9 :: p) :: ps := cutL_ne (by decide) hp
  have e3 : cutL 10 (32 :: 9 :: t) = (32 :: 9 :: p) :: ps := cutL_ne (by decide) e2
  rw [e3]
  have e4 : cutL 10 [35, 32, 97, 32, 99, 111, 109, 109, 101, 110, 116] = [[35, 32, 97, 32, 99, 111, 109, 109, 101, 110, 116]] := rfl
  have e5 : cutL 10 [9, 32, 35] = [[9, 32, 35]] := rfl
  rw [e4, e5]
  have hz : wordsA 0 [] [9, 32, 35] = [] := rfl
  have ha : wordsA 0 [] [35, 32, 97, 32, 99, 111, 109, 109, 101, 110, 116] = [] := rfl
  show headsS 0 ([35, 32, 97, 32, 99, 111, 109, 109, 101, 110, 116] :: ((32 :: 9 :: p) :: ps ++ [[9, 32, 35]])) = _
  rw [headsS, if_pos ha, List.cons_append, headsS]
  have hsh : wordsA 0 [] (32 :: 9 :: p) = (wordsA 0 [] p).map (shiftW 2) := by
    rw [wordsA_gap (.inl rfl), wordsA_gap (.inr rfl), flushW_nil, flushW_nil, List.nil_append, List.nil_append]
    exact wordsA_shift 2 p 0 [] (Nat.le_refl _)
  rw [hsh]
  rw [headsS] at h
  split at h
  · rename_i hw
    rw [hw, List.map_nil, if_pos rfl]
    exact heads_ok hz ps _ _ _ h
  · rename_i hw
    rw [if_neg (by intro e; exact hw (List.map_eq_nil_iff.1 e))]
    cases hq : hdL (wordsA 0 [] p) with
    | inl x =>
      obtain ⟨c, e⟩ := x
      rw [hq] at h
      injection h with _ h
      injection h with _ h
      exact absurd h (hdL_err hq)
    | inr n =>
      rw [hq] at h
      rw [hdL_shift 2 hq]
      exact lines_ok hz ps _ _ _ _ h
theorem lines_len {nm : List UInt8} : ∀ (rows : List (List UInt8)) (i : Nat) (l : List Srf), l.length ≤ 12 → (linesS nm i l rows).1.2.length ≤ 12
  | [], i, l, h => by rw [linesS]; exact h
  | p :: r, i, l, h => by
    rw [linesS]
    split
    · exact lines_len r _ _ h
    · cases hq : mrL l (wordsA 0 [] p) with
      | inl x => exact Nat.zero_le _
      | inr s =>
        have := mrL_len hq
        exact lines_len r _ _ (by simp; omega)
theorem heads_len : ∀ (rows : List (List UInt8)) (i : Nat), (headsS i rows).1.2.length ≤ 12
  | [], i => by rw [headsS]; exact Nat.zero_le _
  | p :: r, i => by
    rw [headsS]
    split
    · exact heads_len r _
    · cases hq : hdL (wordsA 0 [] p) with
      | inl x => exact Nat.zero_le _
      | inr n => exact lines_len r _ _ (Nat.zero_le _)
theorem parS_len (t : List UInt8) : (parS t).1.2.length ≤ 12 := by
  unfold parS
  split
  · exact Nat.zero_le _
  · exact heads_len _ _
theorem k_same {d : Dsg} (h : d.2.length ≤ 1048576) : law02xsame d d = some ((true, ()), ()) := by
  show (T_law02xsame d d).run = _
  unfold T_law02xsame
  refine (br_f (nd rfl)).trans ?_
  refine (br_f (nd rfl)).trans ?_
  rw [r_iter]
  refine iter_eq (fun i st => st = ((i : Int), ())) _ d.2.length (by omega) ?_ rfl
  rintro i st hi rfl
  show (∃ x', (T_law02xsame_l0 d d (i : Int)).run = _ ∧ _) ∨ (T_law02xsame_l0 d d (i : Int)).run = _
  unfold T_law02xsame_l0
  by_cases hl : i < d.2.length
  · left
    refine ⟨_, ?_, hl, rfl⟩
    rw [← w1 i (by omega)]
    refine (br_t (decide_eq_true (by omega))).trans ?_
    refine (q_of (inB_t' (by omega) (by omega))).trans ?_
    refine (q_of (inB_t' (by omega) (by omega))).trans ?_
    refine (br_f (by simp)).trans ?_
    exact r_ret _
  · right
    refine (br_f (decide_eq_false (by omega))).trans ?_
    exact r_ret _
end Go.Ab
