/- Tables of sags, departures; OpticsTables answers true. -/
import Derived.Test.YtpgagefaneaioaaH10
namespace Go.Ab
open Go
set_option maxRecDepth 1000000
set_option maxHeartbeats 1000000
set_option linter.unusedVariables false
set_option linter.unusedSimpArgs false
attribute [local congr] bindC iterC

def sgL (c : Con) (l : List Int) : Nat → List (Int × Int)
  | 0 => []
  | i + 1 => sgL c l i ++ [sagV c (gi l i)]
theorem sgL_len (c : Con) (l : List Int) : ∀ i, (sgL c l i).length = i
  | 0 => rfl
  | i + 1 => by rw [sgL, List.length_append, sgL_len c l i]; rfl
def tbE (c : Con) (l : List Int) : Int := firstErr (fun i => pl c.1 c.2 (gi l i)) l.length
def tbV (c : Con) (l : List Int) : List (Int × Int) := if tbE c l = 0 then sgL c l l.length else []
theorem k_tab {c : Con} {l : List Int} (hl : l.length ≤ 40) (h : ConOk c) : iterF (fun y => (T_optics_SagTable_l1 c l y.1 y.2.1).run) FUEL ([], 0, ()) = some ((tbV c l, tbE c l, ()), ()) := by
  refine iter_err (st := fun i => (sgL c l i, (i : Int), ())) (f := fun i => pl c.1 c.2 (gi l i)) l.length (by omega) (fun e => ((if e = 0 then sgL c l l.length else [], e, ()), ())) ?_ ?_ ?_
  · intro i hi _ hc
    have ks := k_Sag (r := gi l (i : Int)) h
    simp only [T_optics_SagTable_l1]
    simp (maxSteps := 1000000) (disch := first | omega | assumption) only [↓r_ret, ↓r_fail, ↓r_br, ↓r_bind, ↓r_iter, ↓r_req, decide_eq_true_eq, Bool.not_eq_eq_eq_not, decide_eq_false_iff_not, ite_not, inB_t', app_t', bnd_t', str_t', nz_t, Int.reduceEq, Int.reduceLT, Int.reduceLE, w64', Option.bind_some, Option.bind_none, List.length_cons, List.length_nil, List.length_append, Nat.zero_add, if_pos, if_neg, decide_true, decide_false, if_true, if_false, Bool.not_true, Bool.not_false, Bool.false_eq_true, Bool.true_eq_false, not_true_eq_false, not_false_eq_true, ↓reduceIte, List.nil_append, ks, hc, eta2]
  · intro i hi _ hc
    have ks := k_Sag (r := gi l (i : Int)) h
    have hn := sgL_len c l i
    simp only [T_optics_SagTable_l1]
    simp (maxSteps := 1000000) (disch := first | omega | assumption) only [↓r_ret, ↓r_fail, ↓r_br, ↓r_bind, ↓r_iter, ↓r_req, decide_eq_true_eq, Bool.not_eq_eq_eq_not, decide_eq_false_iff_not, ite_not, inB_t', app_t', bnd_t', str_t', nz_t, Int.reduceEq, Int.reduceLT, Int.reduceLE, w64', Option.bind_some, Option.bind_none, List.length_cons, List.length_nil, List.length_append, Nat.zero_add, if_pos, if_neg, decide_true, decide_false, if_true, if_false, Bool.not_true, Bool.not_false, Bool.false_eq_true, Bool.true_eq_false, not_true_eq_false, not_false_eq_true, ↓reduceIte, List.nil_append, ks, hc, eta2, hn]
    rfl
  · intro _
    simp only [T_optics_SagTable_l1]
    simp (maxSteps := 1000000) (disch := first | omega | assumption) only [↓r_ret, ↓r_fail, ↓r_br, ↓r_bind, ↓r_iter, ↓r_req, decide_eq_true_eq, Bool.not_eq_eq_eq_not, decide_eq_false_iff_not, ite_not, inB_t', app_t', bnd_t', str_t', nz_t, Int.reduceEq, Int.reduceLT, Int.reduceLE, w64', Option.bind_some, Option.bind_none, List.length_cons, List.length_nil, List.length_append, Nat.zero_add, if_pos, if_neg, decide_true, decide_false, if_true, if_false, Bool.not_true, Bool.not_false, Bool.false_eq_true, Bool.true_eq_false, not_true_eq_false, not_false_eq_true, ↓reduceIte, List.nil_append, ]
theorem k_rtab {c : Con} {l : List Int} (hl : l.length ≤ 40) (h : ConOk c) : iterF (fun y => (T_ref02xSagTable_l0 c l y.1 y.2.1).run) FUEL ([], 0, ()) = some ((tbV c l, tbE c l, ()), ()) := by
  refine iter_err (st := fun i => (sgL c l i, (i : Int), ())) (f := fun i => pl c.1 c.2 (gi l i)) l.length (by omega) (fun e => ((if e = 0 then sgL c l l.length else [], e, ()), ())) ?_ ?_ ?_
  · intro i hi _ hc
    have ks := k_rSag (r := gi l (i : Int)) h
    simp only [T_ref02xSagTable_l0]
    simp (maxSteps := 1000000) (disch := first | omega | assumption) only [↓r_ret, ↓r_fail, ↓r_br, ↓r_bind, ↓r_iter, ↓r_req, decide_eq_true_eq, Bool.not_eq_eq_eq_not, decide_eq_false_iff_not, ite_not, inB_t', app_t', bnd_t', str_t', nz_t, Int.reduceEq, Int.reduceLT, Int.reduceLE, w64', Option.bind_some, Option.bind_none, List.length_cons, List.length_nil, List.length_append, Nat.zero_add, if_pos, if_neg, decide_true, decide_false, if_true, if_false, Bool.not_true, Bool.not_false, Bool.false_eq_true, Bool.true_eq_false, not_true_eq_false, not_false_eq_true, ↓reduceIte, List.nil_append, ks, hc, eta2]
  · intro i hi _ hc
    have ks := k_rSag (r := gi l (i : Int)) h
    have hn := sgL_len c l i
    simp only [T_ref02xSagTable_l0]
    simp (maxSteps := 1000000) (disch := first | omega | assumption) only [↓r_ret, ↓r_fail, ↓r_br, ↓r_bind, ↓r_iter, ↓r_req, decide_eq_true_eq, Bool.not_eq_eq_eq_not, decide_eq_false_iff_not, ite_not, inB_t', app_t', bnd_t', str_t', nz_t, Int.reduceEq, Int.reduceLT, Int.reduceLE, w64', Option.bind_some, Option.bind_none, List.length_cons, List.length_nil, List.length_append, Nat.zero_add, if_pos, if_neg, decide_true, decide_false, if_true, if_false, Bool.not_true, Bool.not_false, Bool.false_eq_true, Bool.true_eq_false, not_true_eq_false, not_false_eq_true, ↓reduceIte, List.nil_append, ks, hc, eta2, hn]
    rfl
  · intro _
    simp only [T_ref02xSagTable_l0]
    simp (maxSteps := 1000000) (disch := first | omega | assumption) only [↓r_ret, ↓r_fail, ↓r_br, ↓r_bind, ↓r_iter, ↓r_req, decide_eq_true_eq, Bool.not_eq_eq_eq_not, decide_eq_false_iff_not, ite_not, inB_t', app_t', bnd_t', str_t', nz_t, Int.reduceEq, Int.reduceLT, Int.reduceLE, w64', Option.bind_some, Option.bind_none, List.length_cons, List.length_nil, List.length_append, Nat.zero_add, if_pos, if_neg, decide_true, decide_false, if_true, if_false, Bool.not_true, Bool.not_false, Bool.false_eq_true, Bool.true_eq_false, not_true_eq_false, not_false_eq_true, ↓reduceIte, List.nil_append, ]

def tableV (c : Con) (l : List Int) : List (Int × Int) := if 40 < l.length then [] else tbV c l
def tableE (c : Con) (l : List Int) : Int := if 40 < l.length then 8 else tbE c l
theorem k_SagTable {c : Con} {l : List Int} (hl : l.length ≤ 1099511627776) (h : ConOk c) : optics_SagTable c l = some ((tableV c l, tableE c l, ()), ()) := by
  have n1 := h.n1; have n2 := h.n2; have q0 := h.q0; have q1 := h.q1
  have kc := k_CheckConic (c := c) ⟨by omega, by omega⟩ ⟨by omega, by omega⟩
  rw [coE_of h] at kc
  simp only [optics_SagTable, T_optics_SagTable, tableV, tableE]
  by_cases d : 40 < l.length
  · have d' : (40 : Int) < l.length := by omega
    simp (maxSteps := 1000000) (disch := first | omega | assumption) only [↓r_ret, ↓r_fail, ↓r_br, ↓r_bind, ↓r_iter, ↓r_req, decide_eq_true_eq, Bool.not_eq_eq_eq_not, decide_eq_false_iff_not, ite_not, inB_t', app_t', bnd_t', str_t', nz_t, Int.reduceEq, Int.reduceLT, Int.reduceLE, w64', Option.bind_some, Option.bind_none, List.length_cons, List.length_nil, List.length_append, Nat.zero_add, if_pos, if_neg, decide_true, decide_false, if_true, if_false, Bool.not_true, Bool.not_false, Bool.false_eq_true, Bool.true_eq_false, not_true_eq_false, not_false_eq_true, ↓reduceIte, List.nil_append, kc, d, d', eta2]
  · have d' : ¬ (40 : Int) < l.length := by omega
    have kt := k_tab (c := c) (l := l) (by omega) h
    simp (maxSteps := 1000000) (disch := first | omega | assumption) only [↓r_ret, ↓r_fail, ↓r_br, ↓r_bind, ↓r_iter, ↓r_req, decide_eq_true_eq, Bool.not_eq_eq_eq_not, decide_eq_false_iff_not, ite_not, inB_t', app_t', bnd_t', str_t', nz_t, Int.reduceEq, Int.reduceLT, Int.reduceLE, w64', Option.bind_some, Option.bind_none, List.length_cons, List.length_nil, List.length_append, Nat.zero_add, if_pos, if_neg, decide_true, decide_false, if_true, if_false, Bool.not_true, Bool.not_false, Bool.false_eq_true, Bool.true_eq_false, not_true_eq_false, not_false_eq_true, ↓reduceIte, List.nil_append, kc, d, d', eta2, q_true, kt]
theorem k_SagTableE {c : Con} {l : List Int} (i1 : I64 c.2.1) (i2 : I64 c.2.2) (h : ¬ coE c = 0) : optics_SagTable c l = some (([], coE c, ()), ()) := by
  have kc := k_CheckConic i1 i2
  simp only [optics_SagTable, T_optics_SagTable]
  simp (maxSteps := 1000000) (disch := first | omega | assumption) only [↓r_ret, ↓r_fail, ↓r_br, ↓r_bind, ↓r_iter, ↓r_req, decide_eq_true_eq, Bool.not_eq_eq_eq_not, decide_eq_false_iff_not, ite_not, inB_t', app_t', bnd_t', str_t', nz_t, Int.reduceEq, Int.reduceLT, Int.reduceLE, w64', Option.bind_some, Option.bind_none, List.length_cons, List.length_nil, List.length_append, Nat.zero_add, if_pos, if_neg, decide_true, decide_false, if_true, if_false, Bool.not_true, Bool.not_false, Bool.false_eq_true, Bool.true_eq_false, not_true_eq_false, not_false_eq_true, ↓reduceIte, List.nil_append, kc, h, eta2]
theorem k_rSagTable {c : Con} {l : List Int} (hl : l.length ≤ 1099511627776) (h : ConOk c) : ref02xSagTable c l = some ((tableV c l, tableE c l, ()), ()) := by
  simp only [ref02xSagTable, T_ref02xSagTable, tableV, tableE]
  by_cases d : 40 < l.length
  · have d' : (40 : Int) < l.length := by omega
    simp (maxSteps := 1000000) (disch := first | omega | assumption) only [↓r_ret, ↓r_fail, ↓r_br, ↓r_bind, ↓r_iter, ↓r_req, decide_eq_true_eq, Bool.not_eq_eq_eq_not, decide_eq_false_iff_not, ite_not, inB_t', app_t', bnd_t', str_t', nz_t, Int.reduceEq, Int.reduceLT, Int.reduceLE, w64', Option.bind_some, Option.bind_none, List.length_cons, List.length_nil, List.length_append, Nat.zero_add, if_pos, if_neg, decide_true, decide_false, if_true, if_false, Bool.not_true, Bool.not_false, Bool.false_eq_true, Bool.true_eq_false, not_true_eq_false, not_false_eq_true, ↓reduceIte, List.nil_append, d, d', eta2]
  · have d' : ¬ (40 : Int) < l.length := by omega
    have kt := k_rtab (c := c) (l := l) (by omega) h
    simp (maxSteps := 1000000) (disch := first | omega | assumption) only [↓r_ret, ↓r_fail, ↓r_br, ↓r_bind, ↓r_iter, ↓r_req, decide_eq_true_eq, Bool.not_eq_eq_eq_not, decide_eq_false_iff_not, ite_not, inB_t', app_t', bnd_t', str_t', nz_t, Int.reduceEq, Int.reduceLT, Int.reduceLE, w64', Option.bind_some, Option.bind_none, List.length_cons, List.length_nil, List.length_append, Nat.zero_add, if_pos, if_neg, decide_true, decide_false, if_true, if_false, Bool.not_true, Bool.not_false, Bool.false_eq_true, Bool.true_eq_false, not_true_eq_false, not_false_eq_true, ↓reduceIte, List.nil_append, d, d', eta2, q_true, kt]
theorem tableV_len (c : Con) (l : List Int) : (tableV c l).length ≤ 40 := by
  unfold tableV
  split
  · exact Nat.zero_le _
  · unfold tbV
    split
    · rw [sgL_len]; omega
    · exact Nat.zero_le _
theorem k_Ranges {l : List (Int × Int)} (hl : l.length ≤ 1099511627776) : base_Ranges l l = some ((true, ()), ()) := by
  simp only [base_Ranges, T_base_Ranges]
  simp (maxSteps := 1000000) (disch := first | omega | assumption) only [↓r_ret, ↓r_fail, ↓r_br, ↓r_bind, ↓r_iter, ↓r_req, decide_eq_true_eq, Bool.not_eq_eq_eq_not, decide_eq_false_iff_not, ite_not, inB_t', app_t', bnd_t', str_t', nz_t, Int.reduceEq, Int.reduceLT, Int.reduceLE, w64', Option.bind_some, Option.bind_none, List.length_cons, List.length_nil, List.length_append, Nat.zero_add, if_pos, if_neg, decide_true, decide_false, if_true, if_false, Bool.not_true, Bool.not_false, Bool.false_eq_true, Bool.true_eq_false, not_true_eq_false, not_false_eq_true, ↓reduceIte, List.nil_append, ]
  refine iter_eq (fun i x => x = ((i : Int), ())) _ l.length (by omega) ?_ rfl
  rintro i x hi rfl
  simp only [T_base_Ranges_l0]
  by_cases hlt : i < l.length
  · left
    refine ⟨_, by simp (maxSteps := 1000000) (disch := first | omega | assumption) only [↓r_ret, ↓r_fail, ↓r_br, ↓r_bind, ↓r_iter, ↓r_req, decide_eq_true_eq, Bool.not_eq_eq_eq_not, decide_eq_false_iff_not, ite_not, inB_t', app_t', bnd_t', str_t', nz_t, Int.reduceEq, Int.reduceLT, Int.reduceLE, w64', Option.bind_some, Option.bind_none, List.length_cons, List.length_nil, List.length_append, Nat.zero_add, if_pos, if_neg, decide_true, decide_false, if_true, if_false, Bool.not_true, Bool.not_false, Bool.false_eq_true, Bool.true_eq_false, not_true_eq_false, not_false_eq_true, ↓reduceIte, List.nil_append, Bool.and_self] <;> rfl, hlt, rfl⟩
  · right
    have : i = l.length := by omega
    subst this
    simp (maxSteps := 1000000) (disch := first | omega | assumption) only [↓r_ret, ↓r_fail, ↓r_br, ↓r_bind, ↓r_iter, ↓r_req, decide_eq_true_eq, Bool.not_eq_eq_eq_not, decide_eq_false_iff_not, ite_not, inB_t', app_t', bnd_t', str_t', nz_t, Int.reduceEq, Int.reduceLT, Int.reduceLE, w64', Option.bind_some, Option.bind_none, List.length_cons, List.length_nil, List.length_append, Nat.zero_add, if_pos, if_neg, decide_true, decide_false, if_true, if_false, Bool.not_true, Bool.not_false, Bool.false_eq_true, Bool.true_eq_false, not_true_eq_false, not_false_eq_true, ↓reduceIte, List.nil_append, ]
theorem k_CopyInts {l : List Int} (h : l.length ≤ 1048576) : base_CopyInts l = some ((l, ()), ()) := by
  simp only [base_CopyInts, T_base_CopyInts]
  simp (maxSteps := 1000000) (disch := first | omega | assumption) only [↓r_ret, ↓r_fail, ↓r_br, ↓r_bind, ↓r_iter, ↓r_req, decide_eq_true_eq, Bool.not_eq_eq_eq_not, decide_eq_false_iff_not, ite_not, inB_t', app_t', bnd_t', str_t', nz_t, Int.reduceEq, Int.reduceLT, Int.reduceLE, w64', Option.bind_some, Option.bind_none, List.length_cons, List.length_nil, List.length_append, Nat.zero_add, if_pos, if_neg, decide_true, decide_false, if_true, if_false, Bool.not_true, Bool.not_false, Bool.false_eq_true, Bool.true_eq_false, not_true_eq_false, not_false_eq_true, ↓reduceIte, List.nil_append, ]

theorem sagV_bd {c : Con} {r : Int} (h : ConOk c) : (-100000000000000000 ≤ (sagV c r).1 ∧ (sagV c r).1 ≤ 100000000000000000) ∧ (-100000000000000000 ≤ (sagV c r).2 ∧ (sagV c r).2 ≤ 100000000000000000) := by
  have hab := ab_bd h
  unfold sagV
  split
  · rename_i c1
    have b := bd_of (R := ab c.1) (by omega) hab.2 h.n1 h.n2 h.q0 h.q1 (by rw [pl_ab]; exact c1)
    have sb := sag_bd hab.1 hab.2 b
    unfold turnV
    split <;> (dsimp only; omega)
  · decide
/-- The difference of two sags, and its error. -/
def dpE (a b : Con) (r : Int) : Int := if pl a.1 a.2 r ≠ 0 then pl a.1 a.2 r else pl b.1 b.2 r
def dpV (a b : Con) (r : Int) : Int × Int := if dpE a b r = 0 then ((sagV a r).1 - (sagV b r).2, (sagV a r).2 - (sagV b r).1) else (0, 0)
theorem k_rDeparture {a b : Con} {r : Int} (ha : ConOk a) (hb : ConOk b) : ref02xDeparture a b r = some ((dpV a b r, dpE a b r, ()), ()) := by
  have k1 := k_rSag (r := r) ha
  have k2 := k_rSag (r := r) hb
  have b1 := sagV_bd (r := r) ha
  have b2 := sagV_bd (r := r) hb
  simp only [ref02xDeparture, T_ref02xDeparture, dpV, dpE]
  by_cases c1 : pl a.1 a.2 r = 0
  · by_cases c2 : pl b.1 b.2 r = 0
    · generalize sagV a r = x1 at *
      generalize sagV b r = x2 at *
      simp (maxSteps := 1000000) (disch := first | omega | assumption) only [↓r_ret, ↓r_fail, ↓r_br, ↓r_bind, ↓r_iter, ↓r_req, decide_eq_true_eq, Bool.not_eq_eq_eq_not, decide_eq_false_iff_not, ite_not, inB_t', app_t', bnd_t', str_t', nz_t, Int.reduceEq, Int.reduceLT, Int.reduceLE, w64', Option.bind_some, Option.bind_none, List.length_cons, List.length_nil, List.length_append, Nat.zero_add, if_pos, if_neg, decide_true, decide_false, if_true, if_false, Bool.not_true, Bool.not_false, Bool.false_eq_true, Bool.true_eq_false, not_true_eq_false, not_false_eq_true, ↓reduceIte, List.nil_append, k1, k2, c1, c2, eta2, ne_eq]
    · simp (maxSteps := 1000000) (disch := first | omega | assumption) only [↓r_ret, ↓r_fail, ↓r_br, ↓r_bind, ↓r_iter, ↓r_req, decide_eq_true_eq, Bool.not_eq_eq_eq_not, decide_eq_false_iff_not, ite_not, inB_t', app_t', bnd_t', str_t', nz_t, Int.reduceEq, Int.reduceLT, Int.reduceLE, w64', Option.bind_some, Option.bind_none, List.length_cons, List.length_nil, List.length_append, Nat.zero_add, if_pos, if_neg, decide_true, decide_false, if_true, if_false, Bool.not_true, Bool.not_false, Bool.false_eq_true, Bool.true_eq_false, not_true_eq_false, not_false_eq_true, ↓reduceIte, List.nil_append, k1, k2, c1, c2, eta2, ne_eq]
  · simp (maxSteps := 1000000) (disch := first | omega | assumption) only [↓r_ret, ↓r_fail, ↓r_br, ↓r_bind, ↓r_iter, ↓r_req, decide_eq_true_eq, Bool.not_eq_eq_eq_not, decide_eq_false_iff_not, ite_not, inB_t', app_t', bnd_t', str_t', nz_t, Int.reduceEq, Int.reduceLT, Int.reduceLE, w64', Option.bind_some, Option.bind_none, List.length_cons, List.length_nil, List.length_append, Nat.zero_add, if_pos, if_neg, decide_true, decide_false, if_true, if_false, Bool.not_true, Bool.not_false, Bool.false_eq_true, Bool.true_eq_false, not_true_eq_false, not_false_eq_true, ↓reduceIte, List.nil_append, k1, c1, eta2, ne_eq]
theorem k_Departure {a b : Con} {r : Int} (a1 : I64 a.2.1) (a2 : I64 a.2.2) (b1 : I64 b.2.1) (b2 : I64 b.2.2) :
    optics_Departure a b r = some ((if coE a = 0 ∧ coE b = 0 then dpV a b r else (0, 0), if coE a ≠ 0 then coE a else if coE b ≠ 0 then coE b else dpE a b r, ()), ()) := by
  have ka := k_CheckConic a1 a2
  have kb := k_CheckConic b1 b2
  simp only [optics_Departure, T_optics_Departure, r_iter]
  refine iter_eq (fun i x => x = ((i : Int), (0, 0), ()) ∧ (1 ≤ i → coE a = 0) ∧ (2 ≤ i → coE b = 0)) _ 2 (by omega) ?_ ⟨rfl, fun h => by omega, fun h => by omega⟩
  rintro i x hi ⟨rfl, h1, h2⟩
  simp only [T_optics_Departure_l0]
  match i, hi, h1, h2 with
  | 0, _, _, _ =>
    by_cases c : coE a = 0
    · left
      refine ⟨((1 : Int), (0, 0), ()), ?_, by decide, rfl, fun _ => c, fun h => by omega⟩
      refine (br_t rfl).trans ((br_t rfl).trans ((r_bs ka).trans ((br_f ?_).trans (r_ret _))))
      simp [c]
    · right
      refine (br_t rfl).trans ((br_t rfl).trans ((r_bs ka).trans ((br_t ?_).trans ((r_ret _).trans ?_))))
      · simp [c]
      · simp [c]
  | 1, _, h1, _ =>
    have h1 := h1 (by decide)
    by_cases c : coE b = 0
    · left
      refine ⟨((2 : Int), (0, 0), ()), ?_, by decide, rfl, fun _ => h1, fun _ => c⟩
      refine (br_t rfl).trans ((br_f rfl).trans ((br_t rfl).trans ((r_bs kb).trans ((br_f ?_).trans (r_ret _)))))
      simp [c]
    · right
      refine (br_t rfl).trans ((br_f rfl).trans ((br_t rfl).trans ((r_bs kb).trans ((br_t ?_).trans ((r_ret _).trans ?_)))))
      · simp [c]
      · simp [c, h1]
  | 2, _, h1, h2 =>
    right
    have h1 := h1 (by decide)
    have h2 := h2 (by decide)
    have ha := coE_ok h1
    have hb := coE_ok h2
    have k1 := k_Sag (r := r) ha
    have k2 := k_Sag (r := r) hb
    have d1 := sagV_bd (r := r) ha
    have d2 := sagV_bd (r := r) hb
    refine (br_f rfl).trans ?_
    rw [if_pos ⟨h1, h2⟩, if_neg (by rw [h1]; decide), if_neg (by rw [h2]; decide)]
    simp only [dpV, dpE]
    by_cases c1 : pl a.1 a.2 r = 0
    · by_cases c2 : pl b.1 b.2 r = 0
      · generalize sagV a r = x1 at *
        generalize sagV b r = x2 at *
        simp (maxSteps := 1000000) (disch := first | omega | assumption) only [↓r_ret, ↓r_fail, ↓r_br, ↓r_bind, ↓r_iter, ↓r_req, decide_eq_true_eq, Bool.not_eq_eq_eq_not, decide_eq_false_iff_not, ite_not, inB_t', app_t', bnd_t', str_t', nz_t, Int.reduceEq, Int.reduceLT, Int.reduceLE, w64', Option.bind_some, Option.bind_none, List.length_cons, List.length_nil, List.length_append, Nat.zero_add, if_pos, if_neg, decide_true, decide_false, if_true, if_false, Bool.not_true, Bool.not_false, Bool.false_eq_true, Bool.true_eq_false, not_true_eq_false, not_false_eq_true, ↓reduceIte, List.nil_append, k1, k2, c1, c2, eta2, ne_eq]
      · simp (maxSteps := 1000000) (disch := first | omega | assumption) only [↓r_ret, ↓r_fail, ↓r_br, ↓r_bind, ↓r_iter, ↓r_req, decide_eq_true_eq, Bool.not_eq_eq_eq_not, decide_eq_false_iff_not, ite_not, inB_t', app_t', bnd_t', str_t', nz_t, Int.reduceEq, Int.reduceLT, Int.reduceLE, w64', Option.bind_some, Option.bind_none, List.length_cons, List.length_nil, List.length_append, Nat.zero_add, if_pos, if_neg, decide_true, decide_false, if_true, if_false, Bool.not_true, Bool.not_false, Bool.false_eq_true, Bool.true_eq_false, not_true_eq_false, not_false_eq_true, ↓reduceIte, List.nil_append, k1, k2, c1, c2, eta2, ne_eq]
    · simp (maxSteps := 1000000) (disch := first | omega | assumption) only [↓r_ret, ↓r_fail, ↓r_br, ↓r_bind, ↓r_iter, ↓r_req, decide_eq_true_eq, Bool.not_eq_eq_eq_not, decide_eq_false_iff_not, ite_not, inB_t', app_t', bnd_t', str_t', nz_t, Int.reduceEq, Int.reduceLT, Int.reduceLE, w64', Option.bind_some, Option.bind_none, List.length_cons, List.length_nil, List.length_append, Nat.zero_add, if_pos, if_neg, decide_true, decide_false, if_true, if_false, Bool.not_true, Bool.not_false, Bool.false_eq_true, Bool.true_eq_false, not_true_eq_false, not_false_eq_true, ↓reduceIte, List.nil_append, k1, c1, eta2, ne_eq]

theorem k_OpticsTables {a : (Int × (Int × Int))} {b : (Int × (Int × Int))} {radii : List (Int)} (b0 : bulkT (.pair (.int .i64) (.pair (.int .i64) (.int .i64))) a ≤ 1048576) (w0 : wfT (.pair (.int .i64) (.pair (.int .i64) (.int .i64))) a) (b1 : bulkT (.pair (.int .i64) (.pair (.int .i64) (.int .i64))) b ≤ 1048576) (w1 : wfT (.pair (.int .i64) (.pair (.int .i64) (.int .i64))) b) (b2 : bulkT (.list (.int .i64)) radii ≤ 1048576) (w2 : wfT (.list (.int .i64)) radii) : law02xOpticsTables a b radii = some ((true, ()), ()) := by
  have i1 : I64 a.2.1 := w0.2.1
  have i2 : I64 a.2.2 := w0.2.2
  have i3 : I64 b.2.1 := w1.2.1
  have i4 : I64 b.2.2 := w1.2.2
  have ka := k_rCheckConic i1 i2
  have kb := k_rCheckConic i3 i4
  simp only [law02xOpticsTables, T_law02xOpticsTables]
  by_cases hl : 50 < radii.length
  · have hl' : (50 : Int) < radii.length := by omega
    simp (maxSteps := 1000000) (disch := first | omega | assumption) only [↓r_ret, ↓r_fail, ↓r_br, ↓r_bind, ↓r_iter, ↓r_req, decide_eq_true_eq, Bool.not_eq_eq_eq_not, decide_eq_false_iff_not, ite_not, inB_t', app_t', bnd_t', str_t', nz_t, Int.reduceEq, Int.reduceLT, Int.reduceLE, w64', Option.bind_some, Option.bind_none, List.length_cons, List.length_nil, List.length_append, Nat.zero_add, if_pos, if_neg, decide_true, decide_false, if_true, if_false, Bool.not_true, Bool.not_false, Bool.false_eq_true, Bool.true_eq_false, not_true_eq_false, not_false_eq_true, ↓reduceIte, List.nil_append, awake_ok, hl']
  · have hl' : ¬ (50 : Int) < radii.length := by omega
    have kc := k_CopyInts (l := radii) (by omega)
    have kd : ∀ r, optics_Departure a b r = _ := fun r => k_Departure (r := r) i1 i2 i3 i4
    by_cases c : coE a = 0
    · have ha := coE_ok c
      have kt := k_SagTable (l := radii) (by omega) ha
      have kq := k_rSagTable (l := radii) (by omega) ha
      have kr := k_Ranges (l := tableV a radii) (by have := tableV_len a radii; omega)
      generalize tableV a radii = x1 at *
      generalize tableE a radii = x2 at *
      by_cases d : coE b = 0
      · have hb := coE_ok d
        have ke : ∀ r, ref02xDeparture a b r = _ := fun r => k_rDeparture (r := r) ha hb
        simp only [c, d, and_self, if_true, ne_eq, not_true_eq_false, if_false] at kd
        by_cases e : (0 : Int) < radii.length
        · have kd := kd (gi radii 0)
          have ke := ke (gi radii 0)
          generalize dpV a b (gi radii 0) = x3 at *
          generalize dpE a b (gi radii 0) = x4 at *
          simp (maxSteps := 1000000) (disch := first | omega | assumption) only [↓r_ret, ↓r_fail, ↓r_br, ↓r_bind, ↓r_iter, ↓r_req, decide_eq_true_eq, Bool.not_eq_eq_eq_not, decide_eq_false_iff_not, ite_not, inB_t', app_t', bnd_t', str_t', nz_t, Int.reduceEq, Int.reduceLT, Int.reduceLE, w64', Option.bind_some, Option.bind_none, List.length_cons, List.length_nil, List.length_append, Nat.zero_add, if_pos, if_neg, decide_true, decide_false, if_true, if_false, Bool.not_true, Bool.not_false, Bool.false_eq_true, Bool.true_eq_false, not_true_eq_false, not_false_eq_true, ↓reduceIte, List.nil_append, awake_ok, hl', kc, ka, kb, c, d, e, kt, kq, kr, kd, ke, eta2, Bool.and_self]
        · have kd := kd radii.length
          have ke := ke radii.length
          generalize dpV a b (radii.length : Int) = x3 at *
          generalize dpE a b (radii.length : Int) = x4 at *
          simp (maxSteps := 1000000) (disch := first | omega | assumption) only [↓r_ret, ↓r_fail, ↓r_br, ↓r_bind, ↓r_iter, ↓r_req, decide_eq_true_eq, Bool.not_eq_eq_eq_not, decide_eq_false_iff_not, ite_not, inB_t', app_t', bnd_t', str_t', nz_t, Int.reduceEq, Int.reduceLT, Int.reduceLE, w64', Option.bind_some, Option.bind_none, List.length_cons, List.length_nil, List.length_append, Nat.zero_add, if_pos, if_neg, decide_true, decide_false, if_true, if_false, Bool.not_true, Bool.not_false, Bool.false_eq_true, Bool.true_eq_false, not_true_eq_false, not_false_eq_true, ↓reduceIte, List.nil_append, awake_ok, hl', kc, ka, kb, c, d, e, kt, kq, kr, kd, ke, eta2, Bool.and_self]
      · simp only [c, d, and_false, if_true, ne_eq, not_true_eq_false, not_false_eq_true, if_false] at kd
        by_cases e : (0 : Int) < radii.length
        · have kd := kd (gi radii 0)
          simp (maxSteps := 1000000) (disch := first | omega | assumption) only [↓r_ret, ↓r_fail, ↓r_br, ↓r_bind, ↓r_iter, ↓r_req, decide_eq_true_eq, Bool.not_eq_eq_eq_not, decide_eq_false_iff_not, ite_not, inB_t', app_t', bnd_t', str_t', nz_t, Int.reduceEq, Int.reduceLT, Int.reduceLE, w64', Option.bind_some, Option.bind_none, List.length_cons, List.length_nil, List.length_append, Nat.zero_add, if_pos, if_neg, decide_true, decide_false, if_true, if_false, Bool.not_true, Bool.not_false, Bool.false_eq_true, Bool.true_eq_false, not_true_eq_false, not_false_eq_true, ↓reduceIte, List.nil_append, awake_ok, hl', kc, ka, kb, c, d, e, kt, kq, kr, kd, eta2, Bool.and_self]
        · have kd := kd radii.length
          simp (maxSteps := 1000000) (disch := first | omega | assumption) only [↓r_ret, ↓r_fail, ↓r_br, ↓r_bind, ↓r_iter, ↓r_req, decide_eq_true_eq, Bool.not_eq_eq_eq_not, decide_eq_false_iff_not, ite_not, inB_t', app_t', bnd_t', str_t', nz_t, Int.reduceEq, Int.reduceLT, Int.reduceLE, w64', Option.bind_some, Option.bind_none, List.length_cons, List.length_nil, List.length_append, Nat.zero_add, if_pos, if_neg, decide_true, decide_false, if_true, if_false, Bool.not_true, Bool.not_false, Bool.false_eq_true, Bool.true_eq_false, not_true_eq_false, not_false_eq_true, ↓reduceIte, List.nil_append, awake_ok, hl', kc, ka, kb, c, d, e, kt, kq, kr, kd, eta2, Bool.and_self]
    · have kt := k_SagTableE (l := radii) i1 i2 c
      simp only [c, false_and, ne_eq, not_false_eq_true, if_true, if_false] at kd
      by_cases e : (0 : Int) < radii.length
      · have kd := kd (gi radii 0)
        simp (maxSteps := 1000000) (disch := first | omega | assumption) only [↓r_ret, ↓r_fail, ↓r_br, ↓r_bind, ↓r_iter, ↓r_req, decide_eq_true_eq, Bool.not_eq_eq_eq_not, decide_eq_false_iff_not, ite_not, inB_t', app_t', bnd_t', str_t', nz_t, Int.reduceEq, Int.reduceLT, Int.reduceLE, w64', Option.bind_some, Option.bind_none, List.length_cons, List.length_nil, List.length_append, Nat.zero_add, if_pos, if_neg, decide_true, decide_false, if_true, if_false, Bool.not_true, Bool.not_false, Bool.false_eq_true, Bool.true_eq_false, not_true_eq_false, not_false_eq_true, ↓reduceIte, List.nil_append, awake_ok, hl', kc, ka, c, e, kt, kd, eta2, Bool.and_self]
        try rfl
      · have kd := kd radii.length
        simp (maxSteps := 1000000) (disch := first | omega | assumption) only [↓r_ret, ↓r_fail, ↓r_br, ↓r_bind, ↓r_iter, ↓r_req, decide_eq_true_eq, Bool.not_eq_eq_eq_not, decide_eq_false_iff_not, ite_not, inB_t', app_t', bnd_t', str_t', nz_t, Int.reduceEq, Int.reduceLT, Int.reduceLE, w64', Option.bind_some, Option.bind_none, List.length_cons, List.length_nil, List.length_append, Nat.zero_add, if_pos, if_neg, decide_true, decide_false, if_true, if_false, Bool.not_true, Bool.not_false, Bool.false_eq_true, Bool.true_eq_false, not_true_eq_false, not_false_eq_true, ↓reduceIte, List.nil_append, awake_ok, hl', kc, ka, c, e, kt, kd, eta2, Bool.and_self]
        try rfl
end Go.Ab
