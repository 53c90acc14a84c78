/- Histories: the program's and the reference's walk along events; CoatHistories answers true. -/
import Derived.Test.YtjmmjfcapgaomaaK11
namespace Go.Ab
open Go
set_option maxRecDepth 1000000
set_option maxHeartbeats 1000000
set_option linter.unusedVariables false
set_option linter.unusedSimpArgs false
attribute [local congr] bindC iterC

abbrev fmD : Ag × Sf := ((((Ty.int IntKind.i64).pair (Ty.int IntKind.i64)).pair (((Ty.int IntKind.i64).pair (Ty.int IntKind.i64)).pair (((Ty.int IntKind.i64).pair (Ty.int IntKind.i64)).pair (Ty.int IntKind.i64)))).pair (Ty.bool.pair ((Ty.int IntKind.i64).pair ((Ty.int IntKind.i64).pair ((Ty.int IntKind.i64).pair (Ty.int IntKind.i64)))))).d

def folE (a : Ag) (l : List Ev) : Int := if agE a = 0 then hisE a l else agE a
def folI (a : Ag) (l : List Ev) : Int := if agE a = 0 then hisI a l else 0
def folV (a : Ag) (l : List Ev) (day : Int) : Ag × Sf := if folE a l = 0 then (a, thn a l day l.length) else fmD

theorem k_follow_loop {a : Ag} {l : List Ev} (ha : agE a = 0) (h40 : ¬ (40 : Int) < l.length) (hw : EvOk l) (day : Int) :
    iterF (fun y : Int × (Ag × Sf) × (Ag × Sf) × Unit => (T_coat_follow_l1 l day y.1 y.2.1 y.2.2.1).run) FUEL (0, (a, sf0), (a, sf0), ()) = some (((decide (firstErr (hsE a l) l.length = 0), if firstErr (hsE a l) l.length = 0 then (a, thn a l day l.length) else fmD), (firstIx (hsE a l) l.length, (firstErr (hsE a l) l.length, ()))), ()) := by
  refine iter_errI (fun i => ((i : Int), (a, flm a l i), (a, thn a l day i), ())) (hsE a l) l.length (by omega) (fun i e => (((decide (e = 0), if e = 0 then (a, thn a l day l.length) else fmD), (i, (e, ()))), ())) ?_ ?_ ?_
  all_goals simp only [T_coat_follow_l1]
  · intro i hi hp hb
    have hc := k_checkEvent (hw i hi)
    have hpo := k_possible a (flm a l i) (gi l (i : Int)).2.2
    have hg : 0 < i → ((i : Int) - 1) = ((i - 1 : Nat) : Int) := by omega
    unfold hsE at hb ⊢
    by_cases c1 : evE (gi l (i : Int)) = 0
    · rw [if_pos c1] at hb ⊢
      by_cases c2 : (gi l (i : Int)).1 = (gi l (0 : Int)).1
      · rw [if_pos c2] at hb ⊢
        have c2 : decide ((gi l (i : Int)).1 = (gi l (0 : Int)).1) = true := decide_eq_true c2
        by_cases c3 : (0 : Int) < i
        · by_cases c4 : (gi l (i : Int)).2.1 < (gi l ((i : Int) - 1)).2.1
          · rw [if_pos ⟨by omega, c4⟩]
            simp (maxSteps := 1000000) (disch := first | omega | assumption) only [r_ret, r_br, decide_eq_true_eq, Bool.not_eq_eq_eq_not, decide_eq_false_iff_not, ite_not, q_true, r_bind, r_iter, q_inB, q_nz, q_app, q_eq, q_bnd, q_str, w64', Option.bind_some, Option.bind_none, List.length_cons, List.length_nil, List.length_append, Nat.zero_add, if_pos, if_neg, decide_true, decide_false, if_true, if_false, Bool.not_true, Bool.not_false, Bool.false_eq_true, Bool.true_eq_false, not_true_eq_false, not_false_eq_true, reduceIte, List.nil_append, hc, c1, c2, c3, c4]
            all_goals rfl
          · have c5 : ¬ (0 < i ∧ (gi l (i : Int)).2.1 < (gi l ((i : Int) - 1)).2.1) := fun h => c4 h.2
            rw [if_neg c5] at hb ⊢
            simp (maxSteps := 1000000) (disch := first | omega | assumption) only [r_ret, r_br, decide_eq_true_eq, Bool.not_eq_eq_eq_not, decide_eq_false_iff_not, ite_not, q_true, r_bind, r_iter, q_inB, q_nz, q_app, q_eq, q_bnd, q_str, w64', Option.bind_some, Option.bind_none, List.length_cons, List.length_nil, List.length_append, Nat.zero_add, if_pos, if_neg, decide_true, decide_false, if_true, if_false, Bool.not_true, Bool.not_false, Bool.false_eq_true, Bool.true_eq_false, not_true_eq_false, not_false_eq_true, reduceIte, List.nil_append, hc, c1, c2, c3, c4, hpo, hb]
            all_goals rfl
        · have c5 : ¬ (0 < i ∧ (gi l (i : Int)).2.1 < (gi l ((i : Int) - 1)).2.1) := by omega
          rw [if_neg c5] at hb ⊢
          simp (maxSteps := 1000000) (disch := first | omega | assumption) only [r_ret, r_br, decide_eq_true_eq, Bool.not_eq_eq_eq_not, decide_eq_false_iff_not, ite_not, q_true, r_bind, r_iter, q_inB, q_nz, q_app, q_eq, q_bnd, q_str, w64', Option.bind_some, Option.bind_none, List.length_cons, List.length_nil, List.length_append, Nat.zero_add, if_pos, if_neg, decide_true, decide_false, if_true, if_false, Bool.not_true, Bool.not_false, Bool.false_eq_true, Bool.true_eq_false, not_true_eq_false, not_false_eq_true, reduceIte, List.nil_append, hc, c1, c2, c3, hpo, hb]
          all_goals rfl
      · rw [if_neg c2] at hb ⊢
        simp (maxSteps := 1000000) (disch := first | omega | assumption) only [r_ret, r_br, decide_eq_true_eq, Bool.not_eq_eq_eq_not, decide_eq_false_iff_not, ite_not, q_true, r_bind, r_iter, q_inB, q_nz, q_app, q_eq, q_bnd, q_str, w64', Option.bind_some, Option.bind_none, List.length_cons, List.length_nil, List.length_append, Nat.zero_add, if_pos, if_neg, decide_true, decide_false, if_true, if_false, Bool.not_true, Bool.not_false, Bool.false_eq_true, Bool.true_eq_false, not_true_eq_false, not_false_eq_true, reduceIte, List.nil_append, hc, c1, c2]
        all_goals rfl
    · rw [if_neg c1] at hb ⊢
      simp (maxSteps := 1000000) (disch := first | omega | assumption) only [r_ret, r_br, decide_eq_true_eq, Bool.not_eq_eq_eq_not, decide_eq_false_iff_not, ite_not, q_true, r_bind, r_iter, q_inB, q_nz, q_app, q_eq, q_bnd, q_str, w64', Option.bind_some, Option.bind_none, List.length_cons, List.length_nil, List.length_append, Nat.zero_add, if_pos, if_neg, decide_true, decide_false, if_true, if_false, Bool.not_true, Bool.not_false, Bool.false_eq_true, Bool.true_eq_false, not_true_eq_false, not_false_eq_true, reduceIte, List.nil_append, hc, c1]
      all_goals rfl
  · intro i hi hp hb
    have hc := k_checkEvent (hw i hi)
    have hpo := k_possible a (flm a l i) (gi l (i : Int)).2.2
    obtain ⟨c1, c2, c3, c4⟩ := hsE_0 hb
    have c2 : decide ((gi l (i : Int)).1 = (gi l (0 : Int)).1) = true := decide_eq_true c2
    have ht := k_take (x := gi l (i : Int)) ha (flm_ok ha i hp) (evE_0 c1).1
    simp only [thn, flm]
    by_cases d : (gi l (i : Int)).2.1 ≤ day
    · by_cases c : (0 : Int) < i
      · have c5 : ¬ (gi l (i : Int)).2.1 < (gi l ((i : Int) - 1)).2.1 := Int.not_lt.2 (c3 (by omega))
        simp (maxSteps := 1000000) (disch := first | omega | assumption) only [r_ret, r_br, decide_eq_true_eq, Bool.not_eq_eq_eq_not, decide_eq_false_iff_not, ite_not, q_true, r_bind, r_iter, q_inB, q_nz, q_app, q_eq, q_bnd, q_str, w64', Option.bind_some, Option.bind_none, List.length_cons, List.length_nil, List.length_append, Nat.zero_add, if_pos, if_neg, decide_true, decide_false, if_true, if_false, Bool.not_true, Bool.not_false, Bool.false_eq_true, Bool.true_eq_false, not_true_eq_false, not_false_eq_true, reduceIte, List.nil_append, hc, c1, c2, c, c5, hpo, c4, ht, d]
        all_goals rfl
      · simp (maxSteps := 1000000) (disch := first | omega | assumption) only [r_ret, r_br, decide_eq_true_eq, Bool.not_eq_eq_eq_not, decide_eq_false_iff_not, ite_not, q_true, r_bind, r_iter, q_inB, q_nz, q_app, q_eq, q_bnd, q_str, w64', Option.bind_some, Option.bind_none, List.length_cons, List.length_nil, List.length_append, Nat.zero_add, if_pos, if_neg, decide_true, decide_false, if_true, if_false, Bool.not_true, Bool.not_false, Bool.false_eq_true, Bool.true_eq_false, not_true_eq_false, not_false_eq_true, reduceIte, List.nil_append, hc, c1, c2, c, hpo, c4, ht, d]
        all_goals rfl
    · by_cases c : (0 : Int) < i
      · have c5 : ¬ (gi l (i : Int)).2.1 < (gi l ((i : Int) - 1)).2.1 := Int.not_lt.2 (c3 (by omega))
        simp (maxSteps := 1000000) (disch := first | omega | assumption) only [r_ret, r_br, decide_eq_true_eq, Bool.not_eq_eq_eq_not, decide_eq_false_iff_not, ite_not, q_true, r_bind, r_iter, q_inB, q_nz, q_app, q_eq, q_bnd, q_str, w64', Option.bind_some, Option.bind_none, List.length_cons, List.length_nil, List.length_append, Nat.zero_add, if_pos, if_neg, decide_true, decide_false, if_true, if_false, Bool.not_true, Bool.not_false, Bool.false_eq_true, Bool.true_eq_false, not_true_eq_false, not_false_eq_true, reduceIte, List.nil_append, hc, c1, c2, c, c5, hpo, c4, ht, d]
        all_goals rfl
      · simp (maxSteps := 1000000) (disch := first | omega | assumption) only [r_ret, r_br, decide_eq_true_eq, Bool.not_eq_eq_eq_not, decide_eq_false_iff_not, ite_not, q_true, r_bind, r_iter, q_inB, q_nz, q_app, q_eq, q_bnd, q_str, w64', Option.bind_some, Option.bind_none, List.length_cons, List.length_nil, List.length_append, Nat.zero_add, if_pos, if_neg, decide_true, decide_false, if_true, if_false, Bool.not_true, Bool.not_false, Bool.false_eq_true, Bool.true_eq_false, not_true_eq_false, not_false_eq_true, reduceIte, List.nil_append, hc, c1, c2, c, hpo, c4, ht, d]
        all_goals rfl
  · intro hp
    simp (maxSteps := 1000000) (disch := first | omega | assumption) only [r_ret, r_br, decide_eq_true_eq, Bool.not_eq_eq_eq_not, decide_eq_false_iff_not, ite_not, q_true, r_bind, r_iter, q_inB, q_nz, q_app, q_eq, q_bnd, q_str, w64', Option.bind_some, Option.bind_none, List.length_cons, List.length_nil, List.length_append, Nat.zero_add, if_pos, if_neg, decide_true, decide_false, if_true, if_false, Bool.not_true, Bool.not_false, Bool.false_eq_true, Bool.true_eq_false, not_true_eq_false, not_false_eq_true, reduceIte, List.nil_append, ]
    all_goals rfl

theorem k_follow {a : Ag} {l : List Ev} (hl : l.length ≤ 1048576) (hw : EvOk l) (day : Int) :
    coat_follow a l day = some (((decide (folE a l = 0), folV a l day), (folI a l, (folE a l, ()))), ()) := by
  simp only [coat_follow, T_coat_follow]
  unfold folV
  by_cases ha : agE a = 0
  · have e1 : folE a l = hisE a l := if_pos ha
    have e2 : folI a l = hisI a l := if_pos ha
    rw [e1, e2]
    unfold hisE hisI
    by_cases h40 : (40 : Int) < l.length
    · simp (maxSteps := 1000000) (disch := first | omega | assumption) only [r_ret, r_br, decide_eq_true_eq, Bool.not_eq_eq_eq_not, decide_eq_false_iff_not, ite_not, q_true, r_bind, r_iter, q_inB, q_nz, q_app, q_eq, q_bnd, q_str, w64', Option.bind_some, Option.bind_none, List.length_cons, List.length_nil, List.length_append, Nat.zero_add, if_pos, if_neg, decide_true, decide_false, if_true, if_false, Bool.not_true, Bool.not_false, Bool.false_eq_true, Bool.true_eq_false, not_true_eq_false, not_false_eq_true, reduceIte, List.nil_append, k_CheckAging, ha, h40]
      all_goals rfl
    · have h := k_follow_loop ha h40 hw day
      simp (maxSteps := 1000000) (disch := first | omega | assumption) only [r_ret, r_br, decide_eq_true_eq, Bool.not_eq_eq_eq_not, decide_eq_false_iff_not, ite_not, q_true, r_bind, r_iter, q_inB, q_nz, q_app, q_eq, q_bnd, q_str, w64', Option.bind_some, Option.bind_none, List.length_cons, List.length_nil, List.length_append, Nat.zero_add, if_pos, if_neg, decide_true, decide_false, if_true, if_false, Bool.not_true, Bool.not_false, Bool.false_eq_true, Bool.true_eq_false, not_true_eq_false, not_false_eq_true, reduceIte, List.nil_append, k_CheckAging, ha, h40]
      exact h
  · have e1 : folE a l = agE a := if_neg ha
    have e2 : folI a l = 0 := if_neg ha
    rw [e1, e2]
    simp (maxSteps := 1000000) (disch := first | omega | assumption) only [r_ret, r_br, decide_eq_true_eq, Bool.not_eq_eq_eq_not, decide_eq_false_iff_not, ite_not, q_true, r_bind, r_iter, q_inB, q_nz, q_app, q_eq, q_bnd, q_str, w64', Option.bind_some, Option.bind_none, List.length_cons, List.length_nil, List.length_append, Nat.zero_add, if_pos, if_neg, decide_true, decide_false, if_true, if_false, Bool.not_true, Bool.not_false, Bool.false_eq_true, Bool.true_eq_false, not_true_eq_false, not_false_eq_true, reduceIte, List.nil_append, k_CheckAging, ha]
    all_goals rfl

theorem k_CheckHistory {a : Ag} {l : List Ev} (hl : l.length ≤ 1048576) (hw : EvOk l) : coat_CheckHistory a l = some ((folI a l, (folE a l, ())), ()) := by
  have h := k_follow (a := a) hl hw 100000
  simp only [coat_CheckHistory, T_coat_CheckHistory]
  by_cases c : folE a l = 0
  · simp (maxSteps := 1000000) (disch := first | omega | assumption) only [r_ret, r_br, decide_eq_true_eq, Bool.not_eq_eq_eq_not, decide_eq_false_iff_not, ite_not, q_true, r_bind, r_iter, q_inB, q_nz, q_app, q_eq, q_bnd, q_str, w64', Option.bind_some, Option.bind_none, List.length_cons, List.length_nil, List.length_append, Nat.zero_add, if_pos, if_neg, decide_true, decide_false, if_true, if_false, Bool.not_true, Bool.not_false, Bool.false_eq_true, Bool.true_eq_false, not_true_eq_false, not_false_eq_true, reduceIte, List.nil_append, h, c]
  · simp (maxSteps := 1000000) (disch := first | omega | assumption) only [r_ret, r_br, decide_eq_true_eq, Bool.not_eq_eq_eq_not, decide_eq_false_iff_not, ite_not, q_true, r_bind, r_iter, q_inB, q_nz, q_app, q_eq, q_bnd, q_str, w64', Option.bind_some, Option.bind_none, List.length_cons, List.length_nil, List.length_append, Nat.zero_add, if_pos, if_neg, decide_true, decide_false, if_true, if_false, Bool.not_true, Bool.not_false, Bool.false_eq_true, Bool.true_eq_false, not_true_eq_false, not_false_eq_true, reduceIte, List.nil_append, h, c]

/-! ### The reference -/

def sta (w : Int) (l : List Ev) : Nat → Int
  | 0 => -1
  | i + 1 => if (gi l (i : Int)).2.2 = 0 then w else if (gi l (i : Int)).2.2 = 1 then sta w l i - 1 else if (gi l (i : Int)).2.2 = 2 then -1 else sta w l i
theorem sta_bd {w : Int} (hw : 0 ≤ w ∧ w ≤ 100) (l : List Ev) : ∀ i : Nat, -1 - (i : Int) ≤ sta w l i ∧ sta w l i ≤ 100
  | 0 => by simp only [sta]; omega
  | i + 1 => by
    have := sta_bd hw l i
    simp only [sta]
    split
    · omega
    · split
      · omega
      · split <;> omega
theorem sta_congr {w : Int} {l m : List Ev} : ∀ {n : Nat}, (∀ j : Nat, j < n → gi l (j : Int) = gi m (j : Int)) → sta w l n = sta w m n
  | 0, _ => rfl
  | n + 1, h => by rw [sta, sta, sta_congr (fun j hj => h j (by omega)), h n (by omega)]
theorem k_rstate {a : Ag} {l : List Ev} (hl : l.length ≤ 1048576) (hw : 0 ≤ a.2.2.2 ∧ a.2.2.2 ≤ 100) : ref08xstate a l = some ((sta a.2.2.2 l l.length, ()), ()) := by
  simp only [ref08xstate, T_ref08xstate]
  rw [r_iter]
  refine iter_eq (fun i x => x = (sta a.2.2.2 l i, (i : Int), ())) _ l.length (by omega) ?_ rfl
  rintro i x hi rfl
  simp only [T_ref08xstate_l0]
  by_cases hlt : i < l.length
  · left
    have hb := sta_bd hw l i
    refine ⟨(sta a.2.2.2 l (i + 1), (i : Int) + 1, ()), ?_, hlt, rfl⟩
    simp only [sta]
    by_cases c0 : (gi l (i : Int)).2.2 = 0
    · simp (maxSteps := 1000000) (disch := first | omega | assumption) only [r_ret, r_br, decide_eq_true_eq, Bool.not_eq_eq_eq_not, decide_eq_false_iff_not, ite_not, q_true, r_bind, r_iter, q_inB, q_nz, q_app, q_eq, q_bnd, q_str, w64', Option.bind_some, Option.bind_none, List.length_cons, List.length_nil, List.length_append, Nat.zero_add, if_pos, if_neg, decide_true, decide_false, if_true, if_false, Bool.not_true, Bool.not_false, Bool.false_eq_true, Bool.true_eq_false, not_true_eq_false, not_false_eq_true, reduceIte, List.nil_append, c0]
      all_goals rfl
    · by_cases c1 : (gi l (i : Int)).2.2 = 1
      · simp (maxSteps := 1000000) (disch := first | omega | assumption) only [r_ret, r_br, decide_eq_true_eq, Bool.not_eq_eq_eq_not, decide_eq_false_iff_not, ite_not, q_true, r_bind, r_iter, q_inB, q_nz, q_app, q_eq, q_bnd, q_str, w64', Option.bind_some, Option.bind_none, List.length_cons, List.length_nil, List.length_append, Nat.zero_add, if_pos, if_neg, decide_true, decide_false, if_true, if_false, Bool.not_true, Bool.not_false, Bool.false_eq_true, Bool.true_eq_false, not_true_eq_false, not_false_eq_true, reduceIte, List.nil_append, c0, c1]
        all_goals rfl
      · by_cases c2 : (gi l (i : Int)).2.2 = 2
        · simp (maxSteps := 1000000) (disch := first | omega | assumption) only [r_ret, r_br, decide_eq_true_eq, Bool.not_eq_eq_eq_not, decide_eq_false_iff_not, ite_not, q_true, r_bind, r_iter, q_inB, q_nz, q_app, q_eq, q_bnd, q_str, w64', Option.bind_some, Option.bind_none, List.length_cons, List.length_nil, List.length_append, Nat.zero_add, if_pos, if_neg, decide_true, decide_false, if_true, if_false, Bool.not_true, Bool.not_false, Bool.false_eq_true, Bool.true_eq_false, not_true_eq_false, not_false_eq_true, reduceIte, List.nil_append, c0, c1, c2]
          all_goals rfl
        · simp (maxSteps := 1000000) (disch := first | omega | assumption) only [r_ret, r_br, decide_eq_true_eq, Bool.not_eq_eq_eq_not, decide_eq_false_iff_not, ite_not, q_true, r_bind, r_iter, q_inB, q_nz, q_app, q_eq, q_bnd, q_str, w64', Option.bind_some, Option.bind_none, List.length_cons, List.length_nil, List.length_append, Nat.zero_add, if_pos, if_neg, decide_true, decide_false, if_true, if_false, Bool.not_true, Bool.not_false, Bool.false_eq_true, Bool.true_eq_false, not_true_eq_false, not_false_eq_true, reduceIte, List.nil_append, c0, c1, c2]
          all_goals rfl
  · right
    have : i = l.length := by omega
    subst this
    simp (maxSteps := 1000000) (disch := first | omega | assumption) only [r_ret, r_br, decide_eq_true_eq, Bool.not_eq_eq_eq_not, decide_eq_false_iff_not, ite_not, q_true, r_bind, r_iter, q_inB, q_nz, q_app, q_eq, q_bnd, q_str, w64', Option.bind_some, Option.bind_none, List.length_cons, List.length_nil, List.length_append, Nat.zero_add, if_pos, if_neg, decide_true, decide_false, if_true, if_false, Bool.not_true, Bool.not_false, Bool.false_eq_true, Bool.true_eq_false, not_true_eq_false, not_false_eq_true, reduceIte, List.nil_append, ]

/-- What both sides know of a mirror. -/
theorem sta_flm {a : Ag} {l : List Ev} (ha : agE a = 0) : ∀ {i : Nat}, (∀ j, j < i → hsE a l j = 0) → ((flm a l i).1 = true ∧ sta a.2.2.2 l i = a.2.2.2 - (flm a l i).2.1) ∨ ((flm a l i).1 = false ∧ sta a.2.2.2 l i = -1)
  | 0, _ => .inr ⟨rfl, rfl⟩
  | i + 1, hp => by
    have ih := sta_flm ha (i := i) (fun j hj => hp j (by omega))
    obtain ⟨h1, h2, h3, h4⟩ := hsE_0 (hp i (by omega))
    obtain ⟨e1, e2⟩ := evE_0 h1
    obtain ⟨p1, p2⟩ := posE_0 h4
    simp only [flm, stp, sta]
    rcases e2 with e | e | e
    · left; rw [if_pos e, if_pos e]; simp
    · rw [if_neg (by omega), if_pos e, if_neg (by omega), if_pos e]
      rw [e, show decide ((1 : Int) = 0) = false from rfl] at p1
      rcases ih with ih | ih
      · left; exact ⟨ih.1, by rw [ih.2]; simp only; omega⟩
      · exact absurd ih.1 p1
    · right
      rw [if_neg (by omega), if_neg (by omega), if_neg (by omega), if_neg (by omega), if_pos e]
      exact ⟨rfl, rfl⟩
theorem posE_ref {a : Ag} {l : List Ev} (ha : agE a = 0) {i : Nat} (hp : ∀ j, j < i → hsE a l j = 0) {kind : Int} :
    posE a.2.2.2 (flm a l i) kind = if (decide (kind = 0) != decide (sta a.2.2.2 l i < 0)) = true then 24 else if kind = 1 ∧ sta a.2.2.2 l i = 0 then 16 else 0 := by
  obtain ⟨⟨w1, w2⟩, -, -⟩ := flm_ok ha i hp
  unfold posE
  rcases sta_flm ha hp with ⟨h1, h2⟩ | ⟨h1, h2⟩
  · have e : decide (sta a.2.2.2 l i < 0) = false := decide_eq_false (by omega)
    rw [h1, e]
    by_cases c : kind = 0
    · rw [decide_eq_true c]; rfl
    · rw [decide_eq_false c]
      show (if kind = 1 ∧ a.2.2.2 ≤ (flm a l i).2.1 then (16 : Int) else 0) = if kind = 1 ∧ sta a.2.2.2 l i = 0 then 16 else 0
      by_cases c2 : kind = 1 ∧ a.2.2.2 ≤ (flm a l i).2.1
      · rw [if_pos c2, if_pos ⟨c2.1, by omega⟩]
      · rw [if_neg c2, if_neg (fun h => c2 ⟨h.1, by omega⟩)]
  · have e : decide (sta a.2.2.2 l i < 0) = true := decide_eq_true (by omega)
    rw [h1, e]
    by_cases c : kind = 0
    · rw [decide_eq_true c]
      show (if kind = 1 ∧ a.2.2.2 ≤ (flm a l i).2.1 then (16 : Int) else 0) = if kind = 1 ∧ sta a.2.2.2 l i = 0 then 16 else 0
      rw [if_neg (by omega), if_neg (by omega)]
    · rw [decide_eq_false c]; rfl
theorem k_rCheckHistory {a : Ag} {l : List Ev} (ha : agE a = 0) (hl : l.length ≤ 1048576) (hw : EvOk l) : ref08xCheckHistory a l = some ((hisI a l, (hisE a l, ())), ()) := by
  obtain ⟨g1, g2, g3, g4⟩ := agE_0 ha
  simp only [ref08xCheckHistory, T_ref08xCheckHistory]
  unfold hisE hisI
  by_cases h40 : (40 : Int) < l.length
  · simp (maxSteps := 1000000) (disch := first | omega | assumption) only [r_ret, r_br, decide_eq_true_eq, Bool.not_eq_eq_eq_not, decide_eq_false_iff_not, ite_not, q_true, r_bind, r_iter, q_inB, q_nz, q_app, q_eq, q_bnd, q_str, w64', Option.bind_some, Option.bind_none, List.length_cons, List.length_nil, List.length_append, Nat.zero_add, if_pos, if_neg, decide_true, decide_false, if_true, if_false, Bool.not_true, Bool.not_false, Bool.false_eq_true, Bool.true_eq_false, not_true_eq_false, not_false_eq_true, reduceIte, List.nil_append, h40]
  simp (maxSteps := 1000000) (disch := first | omega | assumption) only [r_ret, r_br, decide_eq_true_eq, Bool.not_eq_eq_eq_not, decide_eq_false_iff_not, ite_not, q_true, r_bind, r_iter, q_inB, q_nz, q_app, q_eq, q_bnd, q_str, w64', Option.bind_some, Option.bind_none, List.length_cons, List.length_nil, List.length_append, Nat.zero_add, if_pos, if_neg, decide_true, decide_false, if_true, if_false, Bool.not_true, Bool.not_false, Bool.false_eq_true, Bool.true_eq_false, not_true_eq_false, not_false_eq_true, reduceIte, List.nil_append, h40]
  refine iter_errI (fun i => ((i : Int), ())) (hsE a l) l.length (by omega) (fun i e => ((i, (e, ())), ())) ?_ ?_ ?_
  all_goals simp only [T_ref08xCheckHistory_l0]
  · intro i hi hp hb
    have hc := k_rCheckEvent (hw i hi)
    have hs := k_rstate (a := a) (l := part l 0 (i : Int)) (by rw [part_len (by omega)]; omega) g4
    rw [part_len (by omega), sta_congr (m := l) (fun j hj => gi_part hj)] at hs
    unfold hsE at hb ⊢
    by_cases c1 : evE (gi l (i : Int)) = 0
    · rw [if_pos c1] at hb ⊢
      by_cases c2 : (gi l (i : Int)).1 = (gi l (0 : Int)).1
      · rw [if_pos c2] at hb ⊢
        have c2 : decide ((gi l (i : Int)).1 = (gi l (0 : Int)).1) = true := decide_eq_true c2
        by_cases c3 : (0 : Int) < i
        · by_cases c4 : (gi l (i : Int)).2.1 < (gi l ((i : Int) - 1)).2.1
          · rw [if_pos ⟨by omega, c4⟩]
            simp (maxSteps := 1000000) (disch := first | omega | assumption) only [r_ret, r_br, decide_eq_true_eq, Bool.not_eq_eq_eq_not, decide_eq_false_iff_not, ite_not, q_true, r_bind, r_iter, q_inB, q_nz, q_app, q_eq, q_bnd, q_str, w64', Option.bind_some, Option.bind_none, List.length_cons, List.length_nil, List.length_append, Nat.zero_add, if_pos, if_neg, decide_true, decide_false, if_true, if_false, Bool.not_true, Bool.not_false, Bool.false_eq_true, Bool.true_eq_false, not_true_eq_false, not_false_eq_true, reduceIte, List.nil_append, hc, c1, c2, c3, c4]
            all_goals rfl
          · have c5 : ¬ (0 < i ∧ (gi l (i : Int)).2.1 < (gi l ((i : Int) - 1)).2.1) := fun h => c4 h.2
            rw [if_neg c5, posE_ref ha hp] at hb ⊢
            by_cases c6 : (decide ((gi l (i : Int)).2.2 = 0) != decide (sta a.2.2.2 l i < 0)) = true
            · simp (maxSteps := 1000000) (disch := first | omega | assumption) only [r_ret, r_br, decide_eq_true_eq, Bool.not_eq_eq_eq_not, decide_eq_false_iff_not, ite_not, q_true, r_bind, r_iter, q_inB, q_nz, q_app, q_eq, q_bnd, q_str, w64', Option.bind_some, Option.bind_none, List.length_cons, List.length_nil, List.length_append, Nat.zero_add, if_pos, if_neg, decide_true, decide_false, if_true, if_false, Bool.not_true, Bool.not_false, Bool.false_eq_true, Bool.true_eq_false, not_true_eq_false, not_false_eq_true, reduceIte, List.nil_append, hc, c1, c2, c3, c4, hs, c6]
              all_goals rfl
            · rw [if_neg c6] at hb ⊢
              by_cases c7 : (gi l (i : Int)).2.2 = 1 ∧ sta a.2.2.2 l i = 0
              · rw [if_pos c7]
                have c8 : decide ((gi l (i : Int)).2.2 = 1) = true := decide_eq_true c7.1
                have c9 : decide (sta a.2.2.2 l i = 0) = true := decide_eq_true c7.2
                simp (maxSteps := 1000000) (disch := first | omega | assumption) only [r_ret, r_br, decide_eq_true_eq, Bool.not_eq_eq_eq_not, decide_eq_false_iff_not, ite_not, q_true, r_bind, r_iter, q_inB, q_nz, q_app, q_eq, q_bnd, q_str, w64', Option.bind_some, Option.bind_none, List.length_cons, List.length_nil, List.length_append, Nat.zero_add, if_pos, if_neg, decide_true, decide_false, if_true, if_false, Bool.not_true, Bool.not_false, Bool.false_eq_true, Bool.true_eq_false, not_true_eq_false, not_false_eq_true, reduceIte, List.nil_append, hc, c1, c2, c3, c4, hs, c6, c8, c9]
                all_goals (first | rfl | (rw [if_pos c7.2]))
              · exact absurd (if_neg c7) hb
        · have c5 : ¬ (0 < i ∧ (gi l (i : Int)).2.1 < (gi l ((i : Int) - 1)).2.1) := by omega
          rw [if_neg c5, posE_ref ha hp] at hb ⊢
          by_cases c6 : (decide ((gi l (i : Int)).2.2 = 0) != decide (sta a.2.2.2 l i < 0)) = true
          · simp (maxSteps := 1000000) (disch := first | omega | assumption) only [r_ret, r_br, decide_eq_true_eq, Bool.not_eq_eq_eq_not, decide_eq_false_iff_not, ite_not, q_true, r_bind, r_iter, q_inB, q_nz, q_app, q_eq, q_bnd, q_str, w64', Option.bind_some, Option.bind_none, List.length_cons, List.length_nil, List.length_append, Nat.zero_add, if_pos, if_neg, decide_true, decide_false, if_true, if_false, Bool.not_true, Bool.not_false, Bool.false_eq_true, Bool.true_eq_false, not_true_eq_false, not_false_eq_true, reduceIte, List.nil_append, hc, c1, c2, c3, hs, c6]
            all_goals rfl
          · rw [if_neg c6] at hb ⊢
            by_cases c7 : (gi l (i : Int)).2.2 = 1 ∧ sta a.2.2.2 l i = 0
            · rw [if_pos c7]
              have c8 : decide ((gi l (i : Int)).2.2 = 1) = true := decide_eq_true c7.1
              have c9 : decide (sta a.2.2.2 l i = 0) = true := decide_eq_true c7.2
              simp (maxSteps := 1000000) (disch := first | omega | assumption) only [r_ret, r_br, decide_eq_true_eq, Bool.not_eq_eq_eq_not, decide_eq_false_iff_not, ite_not, q_true, r_bind, r_iter, q_inB, q_nz, q_app, q_eq, q_bnd, q_str, w64', Option.bind_some, Option.bind_none, List.length_cons, List.length_nil, List.length_append, Nat.zero_add, if_pos, if_neg, decide_true, decide_false, if_true, if_false, Bool.not_true, Bool.not_false, Bool.false_eq_true, Bool.true_eq_false, not_true_eq_false, not_false_eq_true, reduceIte, List.nil_append, hc, c1, c2, c3, hs, c6, c8, c9]
              all_goals (first | rfl | (rw [if_pos c7.2]))
            · exact absurd (if_neg c7) hb
      · rw [if_neg c2] at hb ⊢
        simp (maxSteps := 1000000) (disch := first | omega | assumption) only [r_ret, r_br, decide_eq_true_eq, Bool.not_eq_eq_eq_not, decide_eq_false_iff_not, ite_not, q_true, r_bind, r_iter, q_inB, q_nz, q_app, q_eq, q_bnd, q_str, w64', Option.bind_some, Option.bind_none, List.length_cons, List.length_nil, List.length_append, Nat.zero_add, if_pos, if_neg, decide_true, decide_false, if_true, if_false, Bool.not_true, Bool.not_false, Bool.false_eq_true, Bool.true_eq_false, not_true_eq_false, not_false_eq_true, reduceIte, List.nil_append, hc, c1, c2]
        all_goals rfl
    · rw [if_neg c1] at hb ⊢
      simp (maxSteps := 1000000) (disch := first | omega | assumption) only [r_ret, r_br, decide_eq_true_eq, Bool.not_eq_eq_eq_not, decide_eq_false_iff_not, ite_not, q_true, r_bind, r_iter, q_inB, q_nz, q_app, q_eq, q_bnd, q_str, w64', Option.bind_some, Option.bind_none, List.length_cons, List.length_nil, List.length_append, Nat.zero_add, if_pos, if_neg, decide_true, decide_false, if_true, if_false, Bool.not_true, Bool.not_false, Bool.false_eq_true, Bool.true_eq_false, not_true_eq_false, not_false_eq_true, reduceIte, List.nil_append, hc, c1]
      all_goals rfl
  · intro i hi hp hb
    have hc := k_rCheckEvent (hw i hi)
    have hs := k_rstate (a := a) (l := part l 0 (i : Int)) (by rw [part_len (by omega)]; omega) g4
    rw [part_len (by omega), sta_congr (m := l) (fun j hj => gi_part hj)] at hs
    obtain ⟨c1, c2, c3, c4⟩ := hsE_0 hb
    have c2 : decide ((gi l (i : Int)).1 = (gi l (0 : Int)).1) = true := decide_eq_true c2
    rw [posE_ref ha hp] at c4
    have c6 : ¬ (decide ((gi l (i : Int)).2.2 = 0) != decide (sta a.2.2.2 l i < 0)) = true := fun h => by rw [if_pos h] at c4; cases c4
    rw [if_neg c6] at c4
    have c7 : ¬ ((gi l (i : Int)).2.2 = 1 ∧ sta a.2.2.2 l i = 0) := fun h => by rw [if_pos h] at c4; cases c4
    by_cases c : (0 : Int) < i
    · have c5 : ¬ (gi l (i : Int)).2.1 < (gi l ((i : Int) - 1)).2.1 := Int.not_lt.2 (c3 (by omega))
      by_cases k1 : (gi l (i : Int)).2.2 = 1
      · have k2 : ¬ sta a.2.2.2 l i = 0 := fun h => c7 ⟨k1, h⟩
        have k1 : decide ((gi l (i : Int)).2.2 = 1) = true := decide_eq_true k1
        simp (maxSteps := 1000000) (disch := first | omega | assumption) only [r_ret, r_br, decide_eq_true_eq, Bool.not_eq_eq_eq_not, decide_eq_false_iff_not, ite_not, q_true, r_bind, r_iter, q_inB, q_nz, q_app, q_eq, q_bnd, q_str, w64', Option.bind_some, Option.bind_none, List.length_cons, List.length_nil, List.length_append, Nat.zero_add, if_pos, if_neg, decide_true, decide_false, if_true, if_false, Bool.not_true, Bool.not_false, Bool.false_eq_true, Bool.true_eq_false, not_true_eq_false, not_false_eq_true, reduceIte, List.nil_append, hc, c1, c2, c, c5, hs, c6, k1, k2]
        all_goals rfl
      · simp (maxSteps := 1000000) (disch := first | omega | assumption) only [r_ret, r_br, decide_eq_true_eq, Bool.not_eq_eq_eq_not, decide_eq_false_iff_not, ite_not, q_true, r_bind, r_iter, q_inB, q_nz, q_app, q_eq, q_bnd, q_str, w64', Option.bind_some, Option.bind_none, List.length_cons, List.length_nil, List.length_append, Nat.zero_add, if_pos, if_neg, decide_true, decide_false, if_true, if_false, Bool.not_true, Bool.not_false, Bool.false_eq_true, Bool.true_eq_false, not_true_eq_false, not_false_eq_true, reduceIte, List.nil_append, hc, c1, c2, c, c5, hs, c6, k1]
        all_goals rfl
    · by_cases k1 : (gi l (i : Int)).2.2 = 1
      · have k2 : ¬ sta a.2.2.2 l i = 0 := fun h => c7 ⟨k1, h⟩
        have k1 : decide ((gi l (i : Int)).2.2 = 1) = true := decide_eq_true k1
        simp (maxSteps := 1000000) (disch := first | omega | assumption) only [r_ret, r_br, decide_eq_true_eq, Bool.not_eq_eq_eq_not, decide_eq_false_iff_not, ite_not, q_true, r_bind, r_iter, q_inB, q_nz, q_app, q_eq, q_bnd, q_str, w64', Option.bind_some, Option.bind_none, List.length_cons, List.length_nil, List.length_append, Nat.zero_add, if_pos, if_neg, decide_true, decide_false, if_true, if_false, Bool.not_true, Bool.not_false, Bool.false_eq_true, Bool.true_eq_false, not_true_eq_false, not_false_eq_true, reduceIte, List.nil_append, hc, c1, c2, c, hs, c6, k1, k2]
        all_goals rfl
      · simp (maxSteps := 1000000) (disch := first | omega | assumption) only [r_ret, r_br, decide_eq_true_eq, Bool.not_eq_eq_eq_not, decide_eq_false_iff_not, ite_not, q_true, r_bind, r_iter, q_inB, q_nz, q_app, q_eq, q_bnd, q_str, w64', Option.bind_some, Option.bind_none, List.length_cons, List.length_nil, List.length_append, Nat.zero_add, if_pos, if_neg, decide_true, decide_false, if_true, if_false, Bool.not_true, Bool.not_false, Bool.false_eq_true, Bool.true_eq_false, not_true_eq_false, not_false_eq_true, reduceIte, List.nil_append, hc, c1, c2, c, hs, c6, k1]
        all_goals rfl
  · intro hp
    simp (maxSteps := 1000000) (disch := first | omega | assumption) only [r_ret, r_br, decide_eq_true_eq, Bool.not_eq_eq_eq_not, decide_eq_false_iff_not, ite_not, q_true, r_bind, r_iter, q_inB, q_nz, q_app, q_eq, q_bnd, q_str, w64', Option.bind_some, Option.bind_none, List.length_cons, List.length_nil, List.length_append, Nat.zero_add, if_pos, if_neg, decide_true, decide_false, if_true, if_false, Bool.not_true, Bool.not_false, Bool.false_eq_true, Bool.true_eq_false, not_true_eq_false, not_false_eq_true, reduceIte, List.nil_append, ]

/-! ### The law -/

theorem k_events {l : List Ev} (h : l.length ≤ 1048576) : law08xevents l = some ((l, ()), ()) := by
  simp only [law08xevents, T_law08xevents]
  simp (maxSteps := 1000000) (disch := first | omega | assumption) only [r_ret, r_br, decide_eq_true_eq, Bool.not_eq_eq_eq_not, decide_eq_false_iff_not, ite_not, q_true, r_bind, r_iter, q_inB, q_nz, q_app, q_eq, q_bnd, q_str, w64', Option.bind_some, Option.bind_none, List.length_cons, List.length_nil, List.length_append, Nat.zero_add, if_pos, if_neg, decide_true, decide_false, if_true, if_false, Bool.not_true, Bool.not_false, Bool.false_eq_true, Bool.true_eq_false, not_true_eq_false, not_false_eq_true, reduceIte, List.nil_append, ]
theorem k_Past_l0 {l : List Ev} (h : l.length ≤ 1048576) : ∃ b : Bool, iterF (fun y : Int × Unit => (T_law08xPast_l0 l y.1).run) FUEL (0, ()) = some ((b, ()), ()) := by
  obtain ⟨r, h1, b, h2⟩ := iter_post (b := fun y : Int × Unit => (T_law08xPast_l0 l y.1).run) (fun i x => x = ((i : Int), ())) (fun r => ∃ b : Bool, r = ((b, ()), ())) l.length (by omega) (by
    rintro i x hi rfl
    simp only [T_law08xPast_l0]
    by_cases hlt : i < l.length
    · by_cases c : (20 : Int) < (gi l (i : Int)).1.length
      · right; exact ⟨_, by simp (maxSteps := 1000000) (disch := first | omega | assumption) only [r_ret, r_br, decide_eq_true_eq, Bool.not_eq_eq_eq_not, decide_eq_false_iff_not, ite_not, q_true, r_bind, r_iter, q_inB, q_nz, q_app, q_eq, q_bnd, q_str, w64', Option.bind_some, Option.bind_none, List.length_cons, List.length_nil, List.length_append, Nat.zero_add, if_pos, if_neg, decide_true, decide_false, if_true, if_false, Bool.not_true, Bool.not_false, Bool.false_eq_true, Bool.true_eq_false, not_true_eq_false, not_false_eq_true, reduceIte, List.nil_append, c] <;> rfl, _, rfl⟩
      · left; exact ⟨_, by simp (maxSteps := 1000000) (disch := first | omega | assumption) only [r_ret, r_br, decide_eq_true_eq, Bool.not_eq_eq_eq_not, decide_eq_false_iff_not, ite_not, q_true, r_bind, r_iter, q_inB, q_nz, q_app, q_eq, q_bnd, q_str, w64', Option.bind_some, Option.bind_none, List.length_cons, List.length_nil, List.length_append, Nat.zero_add, if_pos, if_neg, decide_true, decide_false, if_true, if_false, Bool.not_true, Bool.not_false, Bool.false_eq_true, Bool.true_eq_false, not_true_eq_false, not_false_eq_true, reduceIte, List.nil_append, c] <;> rfl, hlt, rfl⟩
    · right; exact ⟨_, by simp (maxSteps := 1000000) (disch := first | omega | assumption) only [r_ret, r_br, decide_eq_true_eq, Bool.not_eq_eq_eq_not, decide_eq_false_iff_not, ite_not, q_true, r_bind, r_iter, q_inB, q_nz, q_app, q_eq, q_bnd, q_str, w64', Option.bind_some, Option.bind_none, List.length_cons, List.length_nil, List.length_append, Nat.zero_add, if_pos, if_neg, decide_true, decide_false, if_true, if_false, Bool.not_true, Bool.not_false, Bool.false_eq_true, Bool.true_eq_false, not_true_eq_false, not_false_eq_true, reduceIte, List.nil_append, ] <;> rfl, _, rfl⟩) rfl
  exact ⟨b, by rw [← h2]; exact h1⟩
theorem k_Past {l : List Ev} (h : l.length ≤ 1048576) : ∃ b : Bool, law08xPast l = some ((b, ()), ()) := by
  obtain ⟨b, hb⟩ := k_Past_l0 h
  simp only [law08xPast, T_law08xPast]
  by_cases c1 : (10 : Int) < l.length
  · by_cases c2 : (l.length : Int) ≤ 40
    · exact ⟨false, by simp (maxSteps := 1000000) (disch := first | omega | assumption) only [r_ret, r_br, decide_eq_true_eq, Bool.not_eq_eq_eq_not, decide_eq_false_iff_not, ite_not, q_true, r_bind, r_iter, q_inB, q_nz, q_app, q_eq, q_bnd, q_str, w64', Option.bind_some, Option.bind_none, List.length_cons, List.length_nil, List.length_append, Nat.zero_add, if_pos, if_neg, decide_true, decide_false, if_true, if_false, Bool.not_true, Bool.not_false, Bool.false_eq_true, Bool.true_eq_false, not_true_eq_false, not_false_eq_true, reduceIte, List.nil_append, c1, c2]⟩
    · by_cases c3 : (43 : Int) < l.length
      · exact ⟨false, by simp (maxSteps := 1000000) (disch := first | omega | assumption) only [r_ret, r_br, decide_eq_true_eq, Bool.not_eq_eq_eq_not, decide_eq_false_iff_not, ite_not, q_true, r_bind, r_iter, q_inB, q_nz, q_app, q_eq, q_bnd, q_str, w64', Option.bind_some, Option.bind_none, List.length_cons, List.length_nil, List.length_append, Nat.zero_add, if_pos, if_neg, decide_true, decide_false, if_true, if_false, Bool.not_true, Bool.not_false, Bool.false_eq_true, Bool.true_eq_false, not_true_eq_false, not_false_eq_true, reduceIte, List.nil_append, c1, c2, c3]⟩
      · exact ⟨b, by simp (maxSteps := 1000000) (disch := first | omega | assumption) only [r_ret, r_br, decide_eq_true_eq, Bool.not_eq_eq_eq_not, decide_eq_false_iff_not, ite_not, q_true, r_bind, r_iter, q_inB, q_nz, q_app, q_eq, q_bnd, q_str, w64', Option.bind_some, Option.bind_none, List.length_cons, List.length_nil, List.length_append, Nat.zero_add, if_pos, if_neg, decide_true, decide_false, if_true, if_false, Bool.not_true, Bool.not_false, Bool.false_eq_true, Bool.true_eq_false, not_true_eq_false, not_false_eq_true, reduceIte, List.nil_append, c1, c2, c3, hb]⟩
  · exact ⟨b, by simp (maxSteps := 1000000) (disch := first | omega | assumption) only [r_ret, r_br, decide_eq_true_eq, Bool.not_eq_eq_eq_not, decide_eq_false_iff_not, ite_not, q_true, r_bind, r_iter, q_inB, q_nz, q_app, q_eq, q_bnd, q_str, w64', Option.bind_some, Option.bind_none, List.length_cons, List.length_nil, List.length_append, Nat.zero_add, if_pos, if_neg, decide_true, decide_false, if_true, if_false, Bool.not_true, Bool.not_false, Bool.false_eq_true, Bool.true_eq_false, not_true_eq_false, not_false_eq_true, reduceIte, List.nil_append, c1, hb]⟩
theorem flm_congr {a : Ag} {l m : List Ev} : ∀ {n : Nat}, (∀ j : Nat, j < n → gi l (j : Int) = gi m (j : Int)) → flm a l n = flm a m n
  | 0, _ => rfl
  | n + 1, h => by rw [flm, flm, flm_congr (fun j hj => h j (by omega)), h n (by omega)]
theorem hsE_congr {a : Ag} {l m : List Ev} {n : Nat} (h : ∀ j : Nat, j < n → gi l (j : Int) = gi m (j : Int)) {i : Nat} (hi : i < n) : hsE a l i = hsE a m i := by
  unfold hsE
  have h0 := h 0 (by omega)
  rw [show (((0 : Nat) : Nat) : Int) = 0 by omega] at h0
  rw [h i hi, h0, flm_congr (m := m) (fun j hj => h j (by omega))]
  by_cases c : 0 < i
  · have := h (i - 1) (by omega)
    rw [show ((i - 1 : Nat) : Int) = (i : Int) - 1 by omega] at this
    rw [this]
  · have e : i = 0 := by omega
    subst e
    simp
theorem hisE_inv {a : Ag} {l : List Ev} (h : hisE a l = 0) : l.length ≤ 40 ∧ ∀ j : Nat, j < l.length → hsE a l j = 0 := by
  unfold hisE at h
  split at h
  · cases h
  · exact ⟨by omega, firstErr_eq0 h⟩
theorem folE_part {a : Ag} {l : List Ev} (h : folE a l = 0) {n : Nat} (hn : n ≤ l.length) : folE a (part l 0 (n : Int)) = 0 := by
  unfold folE at *
  split at h
  · rename_i ha
    rw [if_pos ha]
    obtain ⟨h1, h2⟩ := hisE_inv h
    unfold hisE
    rw [part_len hn, if_neg (by omega)]
    exact firstErr_0 (fun j hj => by rw [hsE_congr (m := l) (n := n) (fun k hk => gi_part hk) hj]; exact h2 j (by omega))
  · contradiction
theorem evok_part {l : List Ev} (hw : EvOk l) {n : Nat} (hn : n ≤ l.length) : EvOk (part l 0 (n : Int)) := by
  intro i hi
  rw [part_len hn] at hi
  rw [gi_part hi]; exact hw i (by omega)

attribute [local irreducible] agE hisE hisI folE folI
set_option maxHeartbeats 4000000 in
theorem k_CoatHistories0 {a : Ag} {l : List Ev} (hl : l.length ≤ 1048576) (hw : EvOk l) : law08xCoatHistories a l = some ((true, ()), ()) := by
  obtain ⟨b1, hb1⟩ := k_Past hl
  have hk := k_CheckHistory (a := a) hl hw
  simp only [law08xCoatHistories, T_law08xCoatHistories]
  cases b1 with
  | false => simp (maxSteps := 1000000) (disch := first | omega | assumption) only [r_ret, r_br, decide_eq_true_eq, Bool.not_eq_eq_eq_not, decide_eq_false_iff_not, ite_not, q_true, r_bind, r_iter, q_inB, q_nz, q_app, q_eq, q_bnd, q_str, w64', Option.bind_some, Option.bind_none, List.length_cons, List.length_nil, List.length_append, Nat.zero_add, if_pos, if_neg, decide_true, decide_false, if_true, if_false, Bool.not_true, Bool.not_false, Bool.false_eq_true, Bool.true_eq_false, not_true_eq_false, not_false_eq_true, reduceIte, List.nil_append, awake_ok, hb1]
  | true =>
    by_cases ha : agE a = 0
    · have e1 : folE a l = hisE a l := by unfold folE; exact if_pos ha
      have e2 : folI a l = hisI a l := by unfold folI; exact if_pos ha
      have hr := k_rCheckHistory ha hl hw
      rw [e1, e2] at hk
      by_cases h0 : hisE a l = 0
      · by_cases hz : (l.length : Int) = 0
        · simp (maxSteps := 1000000) (disch := first | omega | assumption) only [r_ret, r_br, decide_eq_true_eq, Bool.not_eq_eq_eq_not, decide_eq_false_iff_not, ite_not, q_true, r_bind, r_iter, q_inB, q_nz, q_app, q_eq, q_bnd, q_str, w64', Option.bind_some, Option.bind_none, List.length_cons, List.length_nil, List.length_append, Nat.zero_add, if_pos, if_neg, decide_true, decide_false, if_true, if_false, Bool.not_true, Bool.not_false, Bool.false_eq_true, Bool.true_eq_false, not_true_eq_false, not_false_eq_true, reduceIte, List.nil_append, awake_ok, hb1, k_events, hk, k_rCheckAging, k_CheckAging, ha, hr, h0, hz]
        · have hn : l.length - 1 ≤ l.length := by omega
          have hp := folE_part (e1.trans h0) hn
          have hk2 := k_CheckHistory (a := a) (l := part l 0 ((l.length - 1 : Nat) : Int)) (by rw [part_len hn]; omega) (evok_part hw hn)
          have hk3 := k_events (l := part l 0 ((l.length - 1 : Nat) : Int)) (by rw [part_len hn]; omega)
          rw [hp] at hk2
          rw [show ((l.length - 1 : Nat) : Int) = (l.length : Int) - 1 by omega] at hk2 hk3
          clear e1 e2 hp
          simp (maxSteps := 1000000) (disch := first | omega | assumption) only [r_ret, r_br, decide_eq_true_eq, Bool.not_eq_eq_eq_not, decide_eq_false_iff_not, ite_not, q_true, r_bind, r_iter, q_inB, q_nz, q_app, q_eq, q_bnd, q_str, w64', Option.bind_some, Option.bind_none, List.length_cons, List.length_nil, List.length_append, Nat.zero_add, if_pos, if_neg, decide_true, decide_false, if_true, if_false, Bool.not_true, Bool.not_false, Bool.false_eq_true, Bool.true_eq_false, not_true_eq_false, not_false_eq_true, reduceIte, List.nil_append, awake_ok, hb1, k_events, hk, k_rCheckAging, k_CheckAging, ha, hr, h0, hz, hk2, hk3]
      · clear e1 e2
        simp (maxSteps := 1000000) (disch := first | omega | assumption) only [r_ret, r_br, decide_eq_true_eq, Bool.not_eq_eq_eq_not, decide_eq_false_iff_not, ite_not, q_true, r_bind, r_iter, q_inB, q_nz, q_app, q_eq, q_bnd, q_str, w64', Option.bind_some, Option.bind_none, List.length_cons, List.length_nil, List.length_append, Nat.zero_add, if_pos, if_neg, decide_true, decide_false, if_true, if_false, Bool.not_true, Bool.not_false, Bool.false_eq_true, Bool.true_eq_false, not_true_eq_false, not_false_eq_true, reduceIte, List.nil_append, awake_ok, hb1, k_events, hk, k_rCheckAging, k_CheckAging, ha, hr, h0]
    · have e1 : folE a l = agE a := by unfold folE; exact if_neg ha
      have e2 : folI a l = 0 := by unfold folI; exact if_neg ha
      rw [e1, e2] at hk
      clear e1 e2
      simp (maxSteps := 1000000) (disch := first | omega | assumption) only [r_ret, r_br, decide_eq_true_eq, Bool.not_eq_eq_eq_not, decide_eq_false_iff_not, ite_not, q_true, r_bind, r_iter, q_inB, q_nz, q_app, q_eq, q_bnd, q_str, w64', Option.bind_some, Option.bind_none, List.length_cons, List.length_nil, List.length_append, Nat.zero_add, if_pos, if_neg, decide_true, decide_false, if_true, if_false, Bool.not_true, Bool.not_false, Bool.false_eq_true, Bool.true_eq_false, not_true_eq_false, not_false_eq_true, reduceIte, List.nil_append, awake_ok, hb1, k_events, hk, k_rCheckAging, k_CheckAging, ha]
theorem evs_in {l : List Ev} (b : bulkT (.list (.pair .str (.pair (.int .i64) (.int .i64)))) l ≤ 1048576) : l.length ≤ 1048576 ∧ EvOk l := mats_in b
theorem k_CoatHistories {a : Ag} {l : List Ev} (b0 : bulkT (.pair (.pair (.int .i64) (.int .i64)) (.pair (.pair (.int .i64) (.int .i64)) (.pair (.pair (.int .i64) (.int .i64)) (.int .i64)))) a ≤ 1048576) (w0 : wfT (.pair (.pair (.int .i64) (.int .i64)) (.pair (.pair (.int .i64) (.int .i64)) (.pair (.pair (.int .i64) (.int .i64)) (.int .i64)))) a)
    (b1 : bulkT (.list (.pair .str (.pair (.int .i64) (.int .i64)))) l ≤ 1048576) (w1 : wfT (.list (.pair .str (.pair (.int .i64) (.int .i64)))) l) : law08xCoatHistories a l = some ((true, ()), ()) :=
  k_CoatHistories0 (evs_in b1).1 (evs_in b1).2
end Go.Ab
