/- The brightness on a day; CoatBright answers true. -/
import Derived.Test.YtjmmjfcapgaomaaK12
namespace Go.Ab
open Go
set_option maxRecDepth 1000000
set_option maxHeartbeats 1000000
set_option linter.unusedVariables false
set_option linter.unusedSimpArgs false
attribute [local congr] bindC iterC

/-- How many events lie behind the last one up to a day. -/
def cnt (l : List Ev) (day : Int) : Nat → Nat
  | 0 => 0
  | i + 1 => if (gi l (i : Int)).2.1 ≤ day then i + 1 else cnt l day i
theorem cnt_le (l : List Ev) (day : Int) : ∀ n, cnt l day n ≤ n
  | 0 => Nat.le_refl _
  | n + 1 => by
    have := cnt_le l day n
    rw [cnt]; split <;> omega
theorem thn_cnt (a : Ag) (l : List Ev) (day : Int) : ∀ n, thn a l day n = flm a l (cnt l day n)
  | 0 => rfl
  | n + 1 => by rw [thn, cnt, thn_cnt a l day n]; split <;> rfl
theorem days_mono {a : Ag} {l : List Ev} {n : Nat} (h : ∀ j, j < n → hsE a l j = 0) : ∀ {j i : Nat}, i ≤ j → j < n → (gi l (i : Int)).2.1 ≤ (gi l (j : Int)).2.1
  | 0, i, h1, h2 => by
    have : i = 0 := by omega
    subst this; exact Int.le_refl _
  | j + 1, i, h1, h2 => by
    by_cases e : i = j + 1
    · subst e; exact Int.le_refl _
    · have q := (hsE_0 (h (j + 1) h2)).2.2.1 (by omega)
      rw [show ((j + 1 : Nat) : Int) - 1 = (j : Int) by omega] at q
      exact Int.le_trans (days_mono h (j := j) (i := i) (by omega) (by omega)) q
theorem cnt_all {l : List Ev} {day : Int} : ∀ {n : Nat}, (∀ j : Nat, j < n → (gi l (j : Int)).2.1 ≤ day) → cnt l day n = n
  | 0, _ => rfl
  | n + 1, h => by rw [cnt, if_pos (h n (by omega))]
theorem cnt_stop {l : List Ev} {day : Int} {i : Nat} (h : ∀ j : Nat, j < i → (gi l (j : Int)).2.1 ≤ day) : ∀ {n : Nat}, i ≤ n → (∀ j : Nat, i ≤ j → j < n → day < (gi l (j : Int)).2.1) → cnt l day n = i
  | 0, hi, _ => by simp only [cnt]; omega
  | n + 1, hi, h2 => by
    by_cases e : i = n + 1
    · subst e; exact cnt_all h
    · have := h2 n (by omega) (by omega)
      rw [cnt, if_neg (by omega)]
      exact cnt_stop h (by omega) (fun j h3 h4 => h2 j h3 (by omega))

theorem thn_ok {a : Ag} {l : List Ev} (ha : agE a = 0) {n : Nat} (hp : ∀ j, j < n → hsE a l j = 0) (day : Int) : SfOk a (thn a l day n) := by
  rw [thn_cnt]
  have := cnt_le l day n
  exact flm_ok ha _ (fun j hj => hp j (by omega))
theorem folE_inv {a : Ag} {l : List Ev} (h : folE a l = 0) : agE a = 0 ∧ hisE a l = 0 ∧ l.length ≤ 40 ∧ ∀ j : Nat, j < l.length → hsE a l j = 0 := by
  unfold folE at h
  split at h
  · exact ⟨‹_›, h, hisE_inv h⟩
  · contradiction

def rdE (a : Ag) (l : List Ev) (day : Int) : Int := if folE a l = 0 then (if 0 ≤ day ∧ day ≤ 100000 then 0 else 2) else folE a l
def rdV (a : Ag) (l : List Ev) (day : Int) : Ag × Sf := if rdE a l day = 0 then (a, thn a l day l.length) else fmD
theorem k_read {a : Ag} {l : List Ev} (hl : l.length ≤ 1048576) (hw : EvOk l) (day : Int) : coat_read a l day = some (((decide (rdE a l day = 0), rdV a l day), (rdE a l day, ())), ()) := by
  have h := k_follow (a := a) hl hw day
  simp only [coat_read, T_coat_read]
  by_cases c : folE a l = 0
  · have e1 : folV a l day = (a, thn a l day l.length) := if_pos c
    rw [c, e1] at h
    by_cases d : 0 ≤ day ∧ day ≤ 100000
    · have e2 : rdE a l day = 0 := by unfold rdE; rw [if_pos c, if_pos d]
      have e3 : rdV a l day = (a, thn a l day l.length) := if_pos e2
      rw [e2, e3]
      simp (maxSteps := 1000000) (disch := first | omega | assumption) only [r_ret, r_br, decide_eq_true_eq, Bool.not_eq_eq_eq_not, decide_eq_false_iff_not, ite_not, q_true, r_bind, r_iter, q_inB, q_nz, q_app, q_eq, q_bnd, q_str, w64', Option.bind_some, Option.bind_none, List.length_cons, List.length_nil, List.length_append, Nat.zero_add, if_pos, if_neg, decide_true, decide_false, if_true, if_false, Bool.not_true, Bool.not_false, Bool.false_eq_true, Bool.true_eq_false, not_true_eq_false, not_false_eq_true, reduceIte, List.nil_append, h, k_isDay, d, and_self]
      all_goals rfl
    · have e2 : rdE a l day = 2 := by unfold rdE; rw [if_pos c, if_neg d]
      have e3 : rdV a l day = fmD := if_neg (by rw [e2]; decide)
      rw [e2, e3]
      simp (maxSteps := 1000000) (disch := first | omega | assumption) only [r_ret, r_br, decide_eq_true_eq, Bool.not_eq_eq_eq_not, decide_eq_false_iff_not, ite_not, q_true, r_bind, r_iter, q_inB, q_nz, q_app, q_eq, q_bnd, q_str, w64', Option.bind_some, Option.bind_none, List.length_cons, List.length_nil, List.length_append, Nat.zero_add, if_pos, if_neg, decide_true, decide_false, if_true, if_false, Bool.not_true, Bool.not_false, Bool.false_eq_true, Bool.true_eq_false, not_true_eq_false, not_false_eq_true, reduceIte, List.nil_append, h, k_isDay, d]
      all_goals rfl
  · have e1 : folV a l day = fmD := if_neg c
    have e2 : rdE a l day = folE a l := if_neg c
    have e3 : rdV a l day = fmD := if_neg (by rw [e2]; exact c)
    rw [e1] at h
    rw [e2, e3]
    simp (maxSteps := 1000000) (disch := first | omega | assumption) only [r_ret, r_br, decide_eq_true_eq, Bool.not_eq_eq_eq_not, decide_eq_false_iff_not, ite_not, q_true, r_bind, r_iter, q_inB, q_nz, q_app, q_eq, q_bnd, q_str, w64', Option.bind_some, Option.bind_none, List.length_cons, List.length_nil, List.length_append, Nat.zero_add, if_pos, if_neg, decide_true, decide_false, if_true, if_false, Bool.not_true, Bool.not_false, Bool.false_eq_true, Bool.true_eq_false, not_true_eq_false, not_false_eq_true, reduceIte, List.nil_append, h, c]
    all_goals rfl

def brE (a : Ag) (l : List Ev) (day : Int) : Int := if rdE a l day = 0 then (if (thn a l day l.length).1 = true then 0 else 24) else rdE a l day
def brV (a : Ag) (l : List Ev) (day : Int) : Int × Int := if brE a l day = 0 then agd a (thn a l day l.length).2.2.2 (day - (thn a l day l.length).2.2.1) else (0, 0)
theorem rdE_inv {a : Ag} {l : List Ev} {day : Int} (h : rdE a l day = 0) : folE a l = 0 ∧ 0 ≤ day ∧ day ≤ 100000 := by
  unfold rdE at h
  split at h
  · split at h
    · exact ⟨‹_›, ‹_›⟩
    · cases h
  · contradiction
theorem k_Bright {a : Ag} {l : List Ev} (hl : l.length ≤ 1048576) (hw : EvOk l) (day : Int) : coat_Bright a l day = some ((brV a l day, (brE a l day, ())), ()) := by
  have h := k_read (a := a) hl hw day
  simp only [coat_Bright, T_coat_Bright]
  by_cases c : rdE a l day = 0
  · have e1 : rdV a l day = (a, thn a l day l.length) := if_pos c
    rw [c, e1] at h
    obtain ⟨f0, d⟩ := rdE_inv c
    obtain ⟨ha, h0, h40, hp⟩ := folE_inv f0
    have hon := k_film_on ha (thn_ok ha hp day) d
    by_cases c2 : (thn a l day l.length).1 = true
    · have e2 : brE a l day = 0 := by unfold brE; rw [if_pos c, if_pos c2]
      have e3 : brV a l day = agd a (thn a l day l.length).2.2.2 (day - (thn a l day l.length).2.2.1) := if_pos e2
      rw [e2, e3]
      clear e1 e2 e3
      generalize thn a l day l.length = s at *
      obtain ⟨s1, s2⟩ := s
      simp only at c2
      subst c2
      simp (maxSteps := 1000000) (disch := first | omega | assumption) only [r_ret, r_br, decide_eq_true_eq, Bool.not_eq_eq_eq_not, decide_eq_false_iff_not, ite_not, q_true, r_bind, r_iter, q_inB, q_nz, q_app, q_eq, q_bnd, q_str, w64', Option.bind_some, Option.bind_none, List.length_cons, List.length_nil, List.length_append, Nat.zero_add, if_pos, if_neg, decide_true, decide_false, if_true, if_false, Bool.not_true, Bool.not_false, Bool.false_eq_true, Bool.true_eq_false, not_true_eq_false, not_false_eq_true, reduceIte, List.nil_append, h, hon]
      all_goals rfl
    · have e2 : brE a l day = 24 := by unfold brE; rw [if_pos c, if_neg c2]
      have e3 : brV a l day = (0, 0) := if_neg (by rw [e2]; decide)
      rw [e2, e3]
      have c3 : (thn a l day l.length).1 = false := by simpa using c2
      simp (maxSteps := 1000000) (disch := first | omega | assumption) only [r_ret, r_br, decide_eq_true_eq, Bool.not_eq_eq_eq_not, decide_eq_false_iff_not, ite_not, q_true, r_bind, r_iter, q_inB, q_nz, q_app, q_eq, q_bnd, q_str, w64', Option.bind_some, Option.bind_none, List.length_cons, List.length_nil, List.length_append, Nat.zero_add, if_pos, if_neg, decide_true, decide_false, if_true, if_false, Bool.not_true, Bool.not_false, Bool.false_eq_true, Bool.true_eq_false, not_true_eq_false, not_false_eq_true, reduceIte, List.nil_append, h, c3]
      all_goals rfl
  · have e1 : rdV a l day = fmD := if_neg c
    have e2 : brE a l day = rdE a l day := if_neg c
    have e3 : brV a l day = (0, 0) := if_neg (by rw [e2]; exact c)
    rw [e1] at h
    rw [e2, e3]
    simp (maxSteps := 1000000) (disch := first | omega | assumption) only [r_ret, r_br, decide_eq_true_eq, Bool.not_eq_eq_eq_not, decide_eq_false_iff_not, ite_not, q_true, r_bind, r_iter, q_inB, q_nz, q_app, q_eq, q_bnd, q_str, w64', Option.bind_some, Option.bind_none, List.length_cons, List.length_nil, List.length_append, Nat.zero_add, if_pos, if_neg, decide_true, decide_false, if_true, if_false, Bool.not_true, Bool.not_false, Bool.false_eq_true, Bool.true_eq_false, not_true_eq_false, not_false_eq_true, reduceIte, List.nil_append, h, c]
    all_goals rfl

/-! ### The reference -/

theorem k_past {a : Ag} {l : List Ev} (hl : l.length ≤ 1048576) (hw : EvOk l) : law08xpast a l = some ((folE a l, ()), ()) := by
  simp only [law08xpast, T_law08xpast]
  by_cases ha : agE a = 0
  · have e1 : folE a l = hisE a l := if_pos ha
    rw [e1]
    simp (maxSteps := 1000000) (disch := first | omega | assumption) only [r_ret, r_br, decide_eq_true_eq, Bool.not_eq_eq_eq_not, decide_eq_false_iff_not, ite_not, q_true, r_bind, r_iter, q_inB, q_nz, q_app, q_eq, q_bnd, q_str, w64', Option.bind_some, Option.bind_none, List.length_cons, List.length_nil, List.length_append, Nat.zero_add, if_pos, if_neg, decide_true, decide_false, if_true, if_false, Bool.not_true, Bool.not_false, Bool.false_eq_true, Bool.true_eq_false, not_true_eq_false, not_false_eq_true, reduceIte, List.nil_append, k_rCheckAging, ha, k_rCheckHistory ha hl hw]
  · have e1 : folE a l = agE a := if_neg ha
    rw [e1]
    simp (maxSteps := 1000000) (disch := first | omega | assumption) only [r_ret, r_br, decide_eq_true_eq, Bool.not_eq_eq_eq_not, decide_eq_false_iff_not, ite_not, q_true, r_bind, r_iter, q_inB, q_nz, q_app, q_eq, q_bnd, q_str, w64', Option.bind_some, Option.bind_none, List.length_cons, List.length_nil, List.length_append, Nat.zero_add, if_pos, if_neg, decide_true, decide_false, if_true, if_false, Bool.not_true, Bool.not_false, Bool.false_eq_true, Bool.true_eq_false, not_true_eq_false, not_false_eq_true, reduceIte, List.nil_append, k_rCheckAging, ha]

def upTo (l : List Ev) (day : Int) : Nat → List Ev
  | 0 => []
  | i + 1 => if (gi l (i : Int)).2.1 ≤ day then upTo l day i ++ [gi l (i : Int)] else upTo l day i
theorem upTo_len (l : List Ev) (day : Int) : ∀ n, (upTo l day n).length ≤ n
  | 0 => Nat.le_refl _
  | n + 1 => by
    have := upTo_len l day n
    rw [upTo]; split
    · rw [List.length_append, List.length_singleton]; omega
    · omega
theorem gi_app_l {α : Type} [Inhabited α] {u : List α} {x : α} {j : Nat} (h : j < u.length) : gi (u ++ [x]) (j : Int) = gi u (j : Int) := by
  simp [gi, List.getD, List.getElem?_append_left h]
theorem gi_app_r {α : Type} [Inhabited α] {u : List α} {x : α} : gi (u ++ [x]) ((u.length : Nat) : Int) = x := by
  simp [gi, List.getD]
theorem upTo_spec {l : List Ev} {day : Int} : ∀ {n : Nat}, (∀ i j : Nat, i ≤ j → j < n → (gi l (i : Int)).2.1 ≤ (gi l (j : Int)).2.1) → (upTo l day n).length = cnt l day n ∧ ∀ j : Nat, j < cnt l day n → gi (upTo l day n) (j : Int) = gi l (j : Int)
  | 0, _ => ⟨rfl, fun j hj => by simp only [cnt] at hj; omega⟩
  | n + 1, h => by
    obtain ⟨h1, h2⟩ := upTo_spec (n := n) (fun i j h3 h4 => h i j h3 (by omega))
    by_cases c : (gi l (n : Int)).2.1 ≤ day
    · have e : cnt l day n = n := cnt_all (fun j hj => Int.le_trans (h j n (by omega) (by omega)) c)
      rw [upTo, cnt, if_pos c, if_pos c]
      rw [e] at h1 h2
      refine ⟨by rw [List.length_append, List.length_singleton, h1], fun j hj => ?_⟩
      by_cases q : j = n
      · subst q
        have := gi_app_r (u := upTo l day j) (x := gi l (j : Int))
        rw [h1] at this; exact this
      · rw [gi_app_l (by omega)]; exact h2 j (by omega)
    · rw [upTo, cnt, if_neg c, if_neg c]; exact ⟨h1, h2⟩
theorem k_Until {l : List Ev} (hl : l.length ≤ 1048576) (day : Int) : ref08xUntil l day = some ((upTo l day l.length, ()), ()) := by
  simp only [ref08xUntil, T_ref08xUntil, decide_true, q_true]
  rw [r_iter]
  refine iter_eq (fun i x => x = (upTo l day i, (i : Int), ())) _ l.length (by omega) ?_ rfl
  rintro i x hi rfl
  have hb := upTo_len l day i
  simp only [T_ref08xUntil_l0]
  by_cases hlt : i < l.length
  · left
    refine ⟨(upTo l day (i + 1), (i : Int) + 1, ()), ?_, hlt, rfl⟩
    rw [upTo]
    by_cases c0 : (gi l (i : Int)).2.1 ≤ day
    · simp (maxSteps := 1000000) (disch := first | omega | assumption) only [r_ret, r_br, decide_eq_true_eq, Bool.not_eq_eq_eq_not, decide_eq_false_iff_not, ite_not, q_true, r_bind, r_iter, q_inB, q_nz, q_app, q_eq, q_bnd, q_str, w64', Option.bind_some, Option.bind_none, List.length_cons, List.length_nil, List.length_append, Nat.zero_add, if_pos, if_neg, decide_true, decide_false, if_true, if_false, Bool.not_true, Bool.not_false, Bool.false_eq_true, Bool.true_eq_false, not_true_eq_false, not_false_eq_true, reduceIte, List.nil_append, c0]
      all_goals rfl
    · simp (maxSteps := 1000000) (disch := first | omega | assumption) only [r_ret, r_br, decide_eq_true_eq, Bool.not_eq_eq_eq_not, decide_eq_false_iff_not, ite_not, q_true, r_bind, r_iter, q_inB, q_nz, q_app, q_eq, q_bnd, q_str, w64', Option.bind_some, Option.bind_none, List.length_cons, List.length_nil, List.length_append, Nat.zero_add, if_pos, if_neg, decide_true, decide_false, if_true, if_false, Bool.not_true, Bool.not_false, Bool.false_eq_true, Bool.true_eq_false, not_true_eq_false, not_false_eq_true, reduceIte, List.nil_append, c0]
      all_goals rfl
  · right
    have : i = l.length := by omega
    subst this
    simp (maxSteps := 1000000) (disch := first | omega | assumption) only [r_ret, r_br, decide_eq_true_eq, Bool.not_eq_eq_eq_not, decide_eq_false_iff_not, ite_not, q_true, r_bind, r_iter, q_inB, q_nz, q_app, q_eq, q_bnd, q_str, w64', Option.bind_some, Option.bind_none, List.length_cons, List.length_nil, List.length_append, Nat.zero_add, if_pos, if_neg, decide_true, decide_false, if_true, if_false, Bool.not_true, Bool.not_false, Bool.false_eq_true, Bool.true_eq_false, not_true_eq_false, not_false_eq_true, reduceIte, List.nil_append, ]
theorem k_StateOn {a : Ag} {l : List Ev} (ha : agE a = 0) (hp : ∀ j, j < l.length → hsE a l j = 0) (hl : l.length ≤ 1048576) (day : Int) : ref08xStateOn a l day = some ((sta a.2.2.2 l (cnt l day l.length), ()), ()) := by
  obtain ⟨g1, g2, g3, g4⟩ := agE_0 ha
  obtain ⟨h1, h2⟩ := upTo_spec (l := l) (day := day) (n := l.length) (fun i j h3 h4 => days_mono hp h3 h4)
  have hu := upTo_len l day l.length
  have hs := k_rstate (a := a) (l := upTo l day l.length) (by omega) g4
  rw [h1, sta_congr h2] at hs
  simp only [ref08xStateOn, T_ref08xStateOn]
  simp (maxSteps := 1000000) (disch := first | omega | assumption) only [r_ret, r_br, decide_eq_true_eq, Bool.not_eq_eq_eq_not, decide_eq_false_iff_not, ite_not, q_true, r_bind, r_iter, q_inB, q_nz, q_app, q_eq, q_bnd, q_str, w64', Option.bind_some, Option.bind_none, List.length_cons, List.length_nil, List.length_append, Nat.zero_add, if_pos, if_neg, decide_true, decide_false, if_true, if_false, Bool.not_true, Bool.not_false, Bool.false_eq_true, Bool.true_eq_false, not_true_eq_false, not_false_eq_true, reduceIte, List.nil_append, k_Until, hs]
theorem k_aged {a : Ag} {r : Int × Int} {d : Int} (ha : agE a = 0) (hr : 0 ≤ r.1 ∧ r.1 ≤ r.2 ∧ r.2 ≤ 1000) (hd : -100000 ≤ d ∧ d ≤ 100000) : ref08xaged a r d = some ((agd a r d, ()), ()) := by
  obtain ⟨m1, m2, m3, m4⟩ := agd_bd ha hr hd
  simp only [ref08xaged, T_ref08xaged, agd]
  simp (maxSteps := 1000000) (disch := first | omega | assumption) only [r_ret, r_br, decide_eq_true_eq, Bool.not_eq_eq_eq_not, decide_eq_false_iff_not, ite_not, q_true, r_bind, r_iter, q_inB, q_nz, q_app, q_eq, q_bnd, q_str, w64', Option.bind_some, Option.bind_none, List.length_cons, List.length_nil, List.length_append, Nat.zero_add, if_pos, if_neg, decide_true, decide_false, if_true, if_false, Bool.not_true, Bool.not_false, Bool.false_eq_true, Bool.true_eq_false, not_true_eq_false, not_false_eq_true, reduceIte, List.nil_append, k_Ceil, k_Floor]
theorem k_rBright {a : Ag} {l : List Ev} (ha : agE a = 0) (h0 : hisE a l = 0) {day : Int} (hd : 0 ≤ day ∧ day ≤ 100000) :
    ref08xBright a l day = some ((agd a (flm a l (cnt l day l.length)).2.2.2 (day - (flm a l (cnt l day l.length)).2.2.1), ()), ()) := by
  obtain ⟨h40, hp⟩ := hisE_inv h0
  obtain ⟨g1, g2, g3, g4⟩ := agE_0 ha
  simp only [ref08xBright, T_ref08xBright]
  rw [r_iter]
  refine iter_eq (fun i x => x = ((flm a l i).2.2.1, (i : Int), (flm a l i).2.2.2, ()) ∧ ∀ j : Nat, j < i → (gi l (j : Int)).2.1 ≤ day) _ l.length (by omega) ?_ ⟨rfl, fun j hj => by omega⟩
  rintro i x hi ⟨rfl, hj⟩
  obtain ⟨s1, s2, s3⟩ := flm_ok ha i (fun j hj => hp j (by omega))
  have hag := k_aged ha s3 (d := day - (flm a l i).2.2.1) (by omega)
  simp only [T_ref08xBright_l0]
  by_cases hlt : i < l.length
  · by_cases hday : (gi l (i : Int)).2.1 ≤ day
    · left
      obtain ⟨q1, q2, q3, q4⟩ := hsE_0 (hp i hlt)
      obtain ⟨e1, e2⟩ := evE_0 q1
      refine ⟨((flm a l (i + 1)).2.2.1, (i : Int) + 1, (flm a l (i + 1)).2.2.2, ()), ?_, hlt, rfl, fun j hj2 => ?_⟩
      · have hag2 := k_aged ha s3 (d := (gi l (i : Int)).2.1 - (flm a l i).2.2.1) (by omega)
        obtain ⟨m1, m2, m3, m4⟩ := agd_bd ha s3 (d := (gi l (i : Int)).2.1 - (flm a l i).2.2.1) (by omega)
        have b1 : 0 ≤ (agd a (flm a l i).2.2.2 ((gi l (i : Int)).2.1 - (flm a l i).2.2.1)).1 ∧ (agd a (flm a l i).2.2.2 ((gi l (i : Int)).2.1 - (flm a l i).2.2.1)).1 ≤ 1000000000 := by simp only [agd]; omega
        have b2 : 0 ≤ (agd a (flm a l i).2.2.2 ((gi l (i : Int)).2.1 - (flm a l i).2.2.1)).2 ∧ (agd a (flm a l i).2.2.2 ((gi l (i : Int)).2.1 - (flm a l i).2.2.1)).2 ≤ 1000000000 := by simp only [agd]; omega
        clear m1 m2 m3 m4 hag
        simp only [flm, stp]
        rcases e2 with e | e | e
        · have n1 : ¬ (gi l (i : Int)).2.2 = 1 := by omega
          simp (maxSteps := 1000000) (disch := first | omega | assumption) only [r_ret, r_br, decide_eq_true_eq, Bool.not_eq_eq_eq_not, decide_eq_false_iff_not, ite_not, q_true, r_bind, r_iter, q_inB, q_nz, q_app, q_eq, q_bnd, q_str, w64', Option.bind_some, Option.bind_none, List.length_cons, List.length_nil, List.length_append, Nat.zero_add, if_pos, if_neg, decide_true, decide_false, if_true, if_false, Bool.not_true, Bool.not_false, Bool.false_eq_true, Bool.true_eq_false, not_true_eq_false, not_false_eq_true, reduceIte, List.nil_append, hday, e, n1]
          all_goals rfl
        · have n1 : ¬ (gi l (i : Int)).2.2 = 0 := by omega
          generalize agd a (flm a l i).2.2.2 ((gi l (i : Int)).2.1 - (flm a l i).2.2.1) = r at *
          simp (maxSteps := 1000000) (disch := first | omega | assumption) only [r_ret, r_br, decide_eq_true_eq, Bool.not_eq_eq_eq_not, decide_eq_false_iff_not, ite_not, q_true, r_bind, r_iter, q_inB, q_nz, q_app, q_eq, q_bnd, q_str, w64', Option.bind_some, Option.bind_none, List.length_cons, List.length_nil, List.length_append, Nat.zero_add, if_pos, if_neg, decide_true, decide_false, if_true, if_false, Bool.not_true, Bool.not_false, Bool.false_eq_true, Bool.true_eq_false, not_true_eq_false, not_false_eq_true, reduceIte, List.nil_append, hday, e, n1, hag2]
          rw [Int.min_comm a.1.1, Int.min_comm a.1.2]
          all_goals rfl
        · have n1 : ¬ (gi l (i : Int)).2.2 = 0 := by omega
          have n2 : ¬ (gi l (i : Int)).2.2 = 1 := by omega
          simp (maxSteps := 1000000) (disch := first | omega | assumption) only [r_ret, r_br, decide_eq_true_eq, Bool.not_eq_eq_eq_not, decide_eq_false_iff_not, ite_not, q_true, r_bind, r_iter, q_inB, q_nz, q_app, q_eq, q_bnd, q_str, w64', Option.bind_some, Option.bind_none, List.length_cons, List.length_nil, List.length_append, Nat.zero_add, if_pos, if_neg, decide_true, decide_false, if_true, if_false, Bool.not_true, Bool.not_false, Bool.false_eq_true, Bool.true_eq_false, not_true_eq_false, not_false_eq_true, reduceIte, List.nil_append, hday, n1, n2]
          all_goals rfl
      · by_cases q : j = i
        · subst q; exact hday
        · exact hj j (by omega)
    · right
      have e : cnt l day l.length = i := cnt_stop hj hi (fun j h1 h2 => Int.lt_of_lt_of_le (Int.not_le.1 hday) (days_mono hp h1 h2))
      rw [e]
      simp (maxSteps := 1000000) (disch := first | omega | assumption) only [r_ret, r_br, decide_eq_true_eq, Bool.not_eq_eq_eq_not, decide_eq_false_iff_not, ite_not, q_true, r_bind, r_iter, q_inB, q_nz, q_app, q_eq, q_bnd, q_str, w64', Option.bind_some, Option.bind_none, List.length_cons, List.length_nil, List.length_append, Nat.zero_add, if_pos, if_neg, decide_true, decide_false, if_true, if_false, Bool.not_true, Bool.not_false, Bool.false_eq_true, Bool.true_eq_false, not_true_eq_false, not_false_eq_true, reduceIte, List.nil_append, hday, hag]
  · right
    have : i = l.length := by omega
    subst this
    rw [cnt_all hj]
    simp (maxSteps := 1000000) (disch := first | omega | assumption) only [r_ret, r_br, decide_eq_true_eq, Bool.not_eq_eq_eq_not, decide_eq_false_iff_not, ite_not, q_true, r_bind, r_iter, q_inB, q_nz, q_app, q_eq, q_bnd, q_str, w64', Option.bind_some, Option.bind_none, List.length_cons, List.length_nil, List.length_append, Nat.zero_add, if_pos, if_neg, decide_true, decide_false, if_true, if_false, Bool.not_true, Bool.not_false, Bool.false_eq_true, Bool.true_eq_false, not_true_eq_false, not_false_eq_true, reduceIte, List.nil_append, hag]

/-! ### The law -/

theorem sta_neg {a : Ag} {l : List Ev} (ha : agE a = 0) {i : Nat} (hp : ∀ j, j < i → hsE a l j = 0) : sta a.2.2.2 l i < 0 ↔ ¬ (flm a l i).1 = true := by
  obtain ⟨⟨w1, w2⟩, -, -⟩ := flm_ok ha i hp
  rcases sta_flm ha hp with ⟨h1, h2⟩ | ⟨h1, h2⟩
  · rw [h1, h2]; constructor
    · intro h; omega
    · intro h; exact absurd rfl h
  · rw [h1, h2]; constructor
    · intro h; decide
    · intro h; omega

attribute [local irreducible] agE hisE hisI folE folI rdE rdV brE brV agd flm thn sta cnt
set_option maxHeartbeats 4000000 in
theorem k_CoatBright0 {a : Ag} {l : List Ev} (hl : l.length ≤ 1048576) (hw : EvOk l) (day : Int) : law08xCoatBright a l day = some ((true, ()), ()) := by
  obtain ⟨b1, hb1⟩ := k_Past hl
  have hk := k_Bright (a := a) hl hw day
  have hq := k_past (a := a) hl hw
  simp only [law08xCoatBright, T_law08xCoatBright]
  cases b1 with
  | false => simp (maxSteps := 1000000) (disch := first | omega | assumption) only [r_ret, r_br, decide_eq_true_eq, Bool.not_eq_eq_eq_not, decide_eq_false_iff_not, ite_not, q_true, r_bind, r_iter, q_inB, q_nz, q_app, q_eq, q_bnd, q_str, w64', Option.bind_some, Option.bind_none, List.length_cons, List.length_nil, List.length_append, Nat.zero_add, if_pos, if_neg, decide_true, decide_false, if_true, if_false, Bool.not_true, Bool.not_false, Bool.false_eq_true, Bool.true_eq_false, not_true_eq_false, not_false_eq_true, reduceIte, List.nil_append, awake_ok, hb1]
  | true =>
    by_cases c : folE a l = 0
    · rw [c] at hq
      obtain ⟨ha, h0, h40, hp⟩ := folE_inv c
      by_cases d : 0 ≤ day ∧ day ≤ 100000
      · have e1 : rdE a l day = 0 := by unfold rdE; rw [if_pos c, if_pos d]
        have hst := k_StateOn ha hp hl day
        have hcl := cnt_le l day l.length
        have hn := sta_neg ha (i := cnt l day l.length) (fun j hj => hp j (by omega))
        rw [← thn_cnt] at hn
        by_cases c2 : (thn a l day l.length).1 = true
        · have e2 : brE a l day = 0 := by unfold brE; rw [if_pos e1, if_pos c2]
          have e3 : brV a l day = agd a (thn a l day l.length).2.2.2 (day - (thn a l day l.length).2.2.1) := by unfold brV; exact if_pos e2
          have hr := k_rBright ha h0 d
          rw [← thn_cnt, ← e3] at hr
          rw [e2] at hk
          have n1 : ¬ sta a.2.2.2 l (cnt l day l.length) < 0 := fun h => hn.1 h c2
          clear e1 e2 e3 hn hcl
          simp (maxSteps := 1000000) (disch := first | omega | assumption) only [r_ret, r_br, decide_eq_true_eq, Bool.not_eq_eq_eq_not, decide_eq_false_iff_not, ite_not, q_true, r_bind, r_iter, q_inB, q_nz, q_app, q_eq, q_bnd, q_str, w64', Option.bind_some, Option.bind_none, List.length_cons, List.length_nil, List.length_append, Nat.zero_add, if_pos, if_neg, decide_true, decide_false, if_true, if_false, Bool.not_true, Bool.not_false, Bool.false_eq_true, Bool.true_eq_false, not_true_eq_false, not_false_eq_true, reduceIte, List.nil_append, awake_ok, hb1, k_events, hk, hq, k_Within, d, and_self, hst, n1, hr, Bool.and_self]
        · have e2 : brE a l day = 24 := by unfold brE; rw [if_pos e1, if_neg c2]
          have e3 : brV a l day = (0, 0) := by unfold brV; exact if_neg (by rw [e2]; decide)
          rw [e2, e3] at hk
          have n1 : sta a.2.2.2 l (cnt l day l.length) < 0 := hn.2 c2
          clear e1 e2 e3 hn hcl
          simp (maxSteps := 1000000) (disch := first | omega | assumption) only [r_ret, r_br, decide_eq_true_eq, Bool.not_eq_eq_eq_not, decide_eq_false_iff_not, ite_not, q_true, r_bind, r_iter, q_inB, q_nz, q_app, q_eq, q_bnd, q_str, w64', Option.bind_some, Option.bind_none, List.length_cons, List.length_nil, List.length_append, Nat.zero_add, if_pos, if_neg, decide_true, decide_false, if_true, if_false, Bool.not_true, Bool.not_false, Bool.false_eq_true, Bool.true_eq_false, not_true_eq_false, not_false_eq_true, reduceIte, List.nil_append, awake_ok, hb1, k_events, hk, hq, k_Within, d, and_self, hst, n1, Bool.and_self]
      · have e1 : rdE a l day = 2 := by unfold rdE; rw [if_pos c, if_neg d]
        have e2 : brE a l day = 2 := by unfold brE; rw [if_neg (by rw [e1]; decide), e1]
        have e3 : brV a l day = (0, 0) := by unfold brV; exact if_neg (by rw [e2]; decide)
        rw [e2, e3] at hk
        clear e1 e2 e3
        simp (maxSteps := 1000000) (disch := first | omega | assumption) only [r_ret, r_br, decide_eq_true_eq, Bool.not_eq_eq_eq_not, decide_eq_false_iff_not, ite_not, q_true, r_bind, r_iter, q_inB, q_nz, q_app, q_eq, q_bnd, q_str, w64', Option.bind_some, Option.bind_none, List.length_cons, List.length_nil, List.length_append, Nat.zero_add, if_pos, if_neg, decide_true, decide_false, if_true, if_false, Bool.not_true, Bool.not_false, Bool.false_eq_true, Bool.true_eq_false, not_true_eq_false, not_false_eq_true, reduceIte, List.nil_append, awake_ok, hb1, k_events, hk, hq, k_Within, d, Bool.and_self]
    · have e1 : rdE a l day = folE a l := by unfold rdE; exact if_neg c
      have e2 : brE a l day = folE a l := by unfold brE; rw [if_neg (by rw [e1]; exact c), e1]
      have e3 : brV a l day = (0, 0) := by unfold brV; exact if_neg (by rw [e2]; exact c)
      rw [e2, e3] at hk
      clear e1 e2 e3
      simp (maxSteps := 1000000) (disch := first | omega | assumption) only [r_ret, r_br, decide_eq_true_eq, Bool.not_eq_eq_eq_not, decide_eq_false_iff_not, ite_not, q_true, r_bind, r_iter, q_inB, q_nz, q_app, q_eq, q_bnd, q_str, w64', Option.bind_some, Option.bind_none, List.length_cons, List.length_nil, List.length_append, Nat.zero_add, if_pos, if_neg, decide_true, decide_false, if_true, if_false, Bool.not_true, Bool.not_false, Bool.false_eq_true, Bool.true_eq_false, not_true_eq_false, not_false_eq_true, reduceIte, List.nil_append, awake_ok, hb1, k_events, hk, hq, c, Bool.and_self]
theorem k_CoatBright {a : Ag} {l : List Ev} {day : Int} (b0 : bulkT (.pair (.pair (.int .i64) (.int .i64)) (.pair (.pair (.int .i64) (.int .i64)) (.pair (.pair (.int .i64) (.int .i64)) (.int .i64)))) a ≤ 1048576) (w0 : wfT (.pair (.pair (.int .i64) (.int .i64)) (.pair (.pair (.int .i64) (.int .i64)) (.pair (.pair (.int .i64) (.int .i64)) (.int .i64)))) a)
    (b1 : bulkT (.list (.pair .str (.pair (.int .i64) (.int .i64)))) l ≤ 1048576) (w1 : wfT (.list (.pair .str (.pair (.int .i64) (.int .i64)))) l) (b2 : bulkT (.int .i64) day ≤ 1048576) (w2 : wfT (.int .i64) day) : law08xCoatBright a l day = some ((true, ()), ()) :=
  k_CoatBright0 (evs_in b1).1 (evs_in b1).2 day
end Go.Ab
