/- The text of a design. -/
import Derived.Test.YtpghhfnlfmlakaaGreatDoorP1
namespace Go.Ab
open Go
set_option maxRecDepth 1000000
set_option maxHeartbeats 4000000
set_option linter.unusedVariables false
set_option linter.unusedSimpArgs false

/-- A conic constant, written. -/
def kS (k : Int × Int) : List UInt8 := if k.2 = 1 then Lib.itoa k.1 else Lib.itoa k.1 ++ ([47] ++ Lib.itoa k.2)
/-- The words of a mirror's line. -/
def toksS (s : Srf) : List (List UInt8) := [[109, 105, 114, 114, 111, 114], s.1, [114, 97, 100, 105, 117, 115], Lib.itoa s.2.1.1, [99, 111, 110, 105, 99], kS s.2.1.2, [100, 105, 97, 109, 101, 116, 101, 114], Lib.itoa s.2.2.1, [97, 112, 97, 114, 116], Lib.itoa s.2.2.2]
def lineS (s : Srf) : List UInt8 := Lib.join (toksS s) [32]
def headT (n : List UInt8) : List UInt8 := [100, 101, 115, 105, 103, 110, 32] ++ n
/-- The text of a design. -/
def prS (d : Dsg) : List UInt8 := headT d.1 ++ [10] ++ (d.2.map fun s => lineS s ++ [10]).flatten
/-- A design that is right. -/
structure OkS (s : Srf) : Prop where
  name : nameB s.1 = true
  con : ConOk s.2.1
  d1 : 1 ≤ s.2.2.1
  d2 : s.2.2.1 ≤ 2000000
  a1 : 0 ≤ s.2.2.2
  a2 : s.2.2.2 ≤ 10000000
theorem nameB_len {n : List UInt8} (h : nameB n = true) : n.length ≤ 12 ∧ n.length ≠ 0 := by
  unfold nameB at h
  simp only [Bool.and_eq_true, decide_eq_true_eq] at h
  exact ⟨h.1.2, h.1.1⟩
theorem itoa_len {n : Int} (h1 : -100000000 < n) (h2 : n < 100000000) : (Lib.itoa n).length ≤ 9 := by
  unfold Lib.itoa
  split
  · rw [List.length_cons, Lib.decDigits_length]
    have := nDigits_le8 (u := n.natAbs) (by omega)
    omega
  · rw [Lib.decDigits_length]
    have := nDigits_le8 (u := n.toNat) (by omega)
    omega
theorem join_flat (x : List UInt8) (l : List (List UInt8)) (sep : List UInt8) : Lib.join (x :: l) sep = x ++ (l.map (sep ++ ·)).flatten := Lib.join_cons x l sep
theorem lineS_eq (s : Srf) : lineS s = [109, 105, 114, 114, 111, 114, 32] ++ s.1 ++ [32, 114, 97, 100, 105, 117, 115, 32] ++ Lib.itoa s.2.1.1 ++ [32, 99, 111, 110, 105, 99, 32] ++ kS s.2.1.2 ++ [32, 100, 105, 97, 109, 101, 116, 101, 114, 32] ++ Lib.itoa s.2.2.1 ++ [32, 97, 112, 97, 114, 116, 32] ++ Lib.itoa s.2.2.2 := by
  unfold lineS toksS
  rw [join_flat]
  simp
theorem kS_len {s : Srf} (h : OkS s) : (kS s.2.1.2).length ≤ 19 := by
  have c1 := h.con.n1; have c2 := h.con.n2; have c3 := h.con.q0; have c4 := h.con.q1
  have i1 := itoa_len (n := s.2.1.2.1) (by omega) (by omega)
  have i2 := itoa_len (n := s.2.1.2.2) (by omega) (by omega)
  unfold kS
  split
  · omega
  · simp only [List.length_append, List.length_cons, List.length_nil]; omega
theorem lineS_len {s : Srf} (h : OkS s) : (lineS s).length ≤ 120 := by
  have hn := nameB_len h.name
  have hk := kS_len h
  have d1 := h.d1; have d2 := h.d2; have a1 := h.a1; have a2 := h.a2; have l1 := h.con.lo; have l2 := h.con.hi
  have i1 := itoa_len (n := s.2.1.1) (by omega) (by omega)
  have i2 := itoa_len (n := s.2.2.1) (by omega) (by omega)
  have i3 := itoa_len (n := s.2.2.2) (by omega) (by omega)
  rw [lineS_eq]
  simp only [List.length_append, List.length_cons, List.length_nil]
  omega
theorem lines_flat_len : ∀ (l : List Srf), (∀ s ∈ l, OkS s) → ((l.map fun s => lineS s ++ [10]).flatten).length ≤ 121 * l.length
  | [], _ => by simp
  | s :: r, h => by
    have ih := lines_flat_len r (fun t ht => h t (by simp [ht]))
    have := lineS_len (h s (by simp))
    simp only [List.map_cons, List.flatten_cons, List.length_append, List.length_cons, List.length_nil]
    omega
theorem flat_snoc (l : List Srf) (s : Srf) : ((l ++ [s]).map fun s => lineS s ++ [10]).flatten = (l.map fun s => lineS s ++ [10]).flatten ++ (lineS s ++ [10]) := by simp
theorem k_rPrint {d : Dsg} (hn : d.1.length ≤ 12) (h12 : d.2.length ≤ 12) (ho : ∀ s ∈ d.2, OkS s) : ref02xPrint d = some ((prS d, ()), ()) := by
  show (T_ref02xPrint d).run = _
  unfold T_ref02xPrint
  refine (q_of (str_t' (by omega))).trans ?_
  refine (q_of (str_t' (by simp only [List.length_append, List.length_cons, List.length_nil]; omega))).trans ?_
  rw [r_iter]
  refine iter_eq (fun i (st : List UInt8 × Int × Unit) => st = (headT d.1 ++ [10] ++ ((d.2.take i).map fun s => lineS s ++ [10]).flatten, ((i : Int), ()))) _ d.2.length (by omega) ?_ (by simp [headT])
  rintro i st hi rfl
  generalize hA : headT d.1 ++ [10] ++ ((d.2.take i).map fun s => lineS s ++ [10]).flatten = A
  have hAl : A.length ≤ 2000 := by
    have := lines_flat_len (d.2.take i) (fun s hs => ho s (List.mem_of_mem_take hs))
    have hl : (d.2.take i).length ≤ 12 := by rw [List.length_take]; omega
    rw [← hA]
    unfold headT
    simp only [List.length_append, List.length_cons, List.length_nil]
    omega
  show (∃ x', (T_ref02xPrint_l0 d A (i : Int)).run = _ ∧ _) ∨ (T_ref02xPrint_l0 d A (i : Int)).run = _
  unfold T_ref02xPrint_l0
  by_cases h : i < d.2.length
  · left
    have eg : gi d.2 (i : Int) = d.2[i] := gi_nat h
    have hs := ho d.2[i] (List.getElem_mem h)
    have hnl := nameB_len hs.name
    have hkl := kS_len hs
    have hr : headT d.1 ++ [10] ++ ((d.2.take (i + 1)).map fun s => lineS s ++ [10]).flatten = A ++ (lineS d.2[i] ++ [10]) := by
      rw [List.take_add_one, List.getElem?_eq_getElem h]
      show headT d.1 ++ [10] ++ ((d.2.take i ++ [d.2[i]]).map fun s => lineS s ++ [10]).flatten = _
      rw [flat_snoc, ← hA]
      simp only [List.append_assoc]
    generalize hS : d.2[i] = s at *
    have c1 := hs.con.n1; have c2 := hs.con.n2; have c3 := hs.con.q0; have c4 := hs.con.q1
    have d1 := hs.d1; have d2 := hs.d2; have a1 := hs.a1; have a2 := hs.a2; have l1 := hs.con.lo; have l2 := hs.con.hi
    have i1 := itoa_len (n := s.2.1.1) (by omega) (by omega)
    have i2 := itoa_len (n := s.2.2.1) (by omega) (by omega)
    have i3 := itoa_len (n := s.2.2.2) (by omega) (by omega)
    have i4 := itoa_len (n := s.2.1.2.1) (by omega) (by omega)
    have i5 := itoa_len (n := s.2.1.2.2) (by omega) (by omega)
    have kR := k_Decimal (n := s.2.1.1) (by omega) (by omega)
    have kD := k_Decimal (n := s.2.2.1) (by omega) (by omega)
    have kA := k_Decimal (n := s.2.2.2) (by omega) (by omega)
    have kN := k_Decimal (n := s.2.1.2.1) (by omega) (by omega)
    have kQ := k_Decimal (n := s.2.1.2.2) (by omega) (by omega)
    have o : ∀ {n : Nat}, n ≤ 1000000 → okStr n = true := fun h => str_t' (by omega)
    refine ⟨(A ++ (lineS s ++ [10]), (((i + 1 : Nat) : Int), ())), ?_, h, by rw [hr]⟩
    rw [eg, w1 i (by omega)]
    refine (br_t (decide_eq_true (by omega))).trans ?_
    refine (q_of (inB_t' (by omega) (by omega))).trans ?_
    refine (r_bs kN).trans ?_
    by_cases hq : s.2.1.2.2 = 1
    · have ek : kS s.2.1.2 = Lib.itoa s.2.1.2.1 := by unfold kS; rw [if_pos hq]
      refine (br_f (nd hq)).trans ?_
      refine (q_of (o (by first | omega | (simp only [List.length_append, List.length_cons, List.length_nil]; omega)))).trans ?_
      refine (q_of (o (by first | omega | (simp only [List.length_append, List.length_cons, List.length_nil]; omega)))).trans ?_
      refine (q_of (o (by first | omega | (simp only [List.length_append, List.length_cons, List.length_nil]; omega)))).trans ?_
      refine (r_bs kR).trans ?_
      refine (q_of (o (by first | omega | (simp only [List.length_append, List.length_cons, List.length_nil]; omega)))).trans ?_
      refine (q_of (o (by first | omega | (simp only [List.length_append, List.length_cons, List.length_nil]; omega)))).trans ?_
      refine (q_of (o (by first | omega | (simp only [List.length_append, List.length_cons, List.length_nil]; omega)))).trans ?_
      refine (q_of (o (by first | omega | (simp only [List.length_append, List.length_cons, List.length_nil]; omega)))).trans ?_
      refine (r_bs kD).trans ?_
      refine (q_of (o (by first | omega | (simp only [List.length_append, List.length_cons, List.length_nil]; omega)))).trans ?_
      refine (q_of (o (by first | omega | (simp only [List.length_append, List.length_cons, List.length_nil]; omega)))).trans ?_
      refine (r_bs kA).trans ?_
      refine (q_of (o (by first | omega | (simp only [List.length_append, List.length_cons, List.length_nil]; omega)))).trans ?_
      refine (q_of (o (by first | omega | (simp only [List.length_append, List.length_cons, List.length_nil]; omega)))).trans ?_
      refine (r_ret _).trans ?_
      rw [lineS_eq, ek]
      simp only [List.append_assoc]
    · have ek : kS s.2.1.2 = Lib.itoa s.2.1.2.1 ++ [47] ++ Lib.itoa s.2.1.2.2 := by unfold kS; rw [if_neg hq]; simp
      refine (br_t (nd' hq)).trans ?_
      refine (q_of (o (by first | omega | (simp only [List.length_append, List.length_cons, List.length_nil]; omega)))).trans ?_
      refine (r_bs kQ).trans ?_
      refine (q_of (o (by first | omega | (simp only [List.length_append, List.length_cons, List.length_nil]; omega)))).trans ?_
      refine (q_of (o (by first | omega | (simp only [List.length_append, List.length_cons, List.length_nil]; omega)))).trans ?_
      refine (q_of (o (by first | omega | (simp only [List.length_append, List.length_cons, List.length_nil]; omega)))).trans ?_
      refine (q_of (o (by first | omega | (simp only [List.length_append, List.length_cons, List.length_nil]; omega)))).trans ?_
      refine (r_bs kR).trans ?_
      refine (q_of (o (by first | omega | (simp only [List.length_append, List.length_cons, List.length_nil]; omega)))).trans ?_
      refine (q_of (o (by first | omega | (simp only [List.length_append, List.length_cons, List.length_nil]; omega)))).trans ?_
      refine (q_of (o (by first | omega | (simp only [List.length_append, List.length_cons, List.length_nil]; omega)))).trans ?_
      refine (q_of (o (by first | omega | (simp only [List.length_append, List.length_cons, List.length_nil]; omega)))).trans ?_
      refine (r_bs kD).trans ?_
      refine (q_of (o (by first | omega | (simp only [List.length_append, List.length_cons, List.length_nil]; omega)))).trans ?_
      refine (q_of (o (by first | omega | (simp only [List.length_append, List.length_cons, List.length_nil]; omega)))).trans ?_
      refine (r_bs kA).trans ?_
      refine (q_of (o (by first | omega | (simp only [List.length_append, List.length_cons, List.length_nil]; omega)))).trans ?_
      refine (q_of (o (by first | omega | (simp only [List.length_append, List.length_cons, List.length_nil]; omega)))).trans ?_
      refine (r_ret _).trans ?_
      rw [lineS_eq, ek]
      simp only [List.append_assoc]
  · right
    have : i = d.2.length := by omega
    subst this
    rw [List.take_length] at hA
    have hp : A = prS d := hA.symm
    rw [hp]
    refine (br_f (decide_eq_false (by omega))).trans ?_
    exact r_ret _
theorem k_Join {xs : List (List UInt8)} {sep : List UInt8} (h1 : xs.length ≤ 1048576) (h2 : (Lib.join xs sep).length ≤ 1048576) : strings_Join xs sep = some ((Lib.join xs sep, ()), ()) := by
  unfold strings_Join
  rw [if_pos ⟨by omega, by omega⟩]
theorem tail_flat (l : List Srf) : ((l.map lineS).map ([10] ++ ·)).flatten ++ [10] = [10] ++ (l.map fun s => lineS s ++ [10]).flatten := by
  induction l with
  | nil => rfl
  | cons s r ih =>
    simp only [List.map_cons, List.flatten_cons, List.append_assoc]
    rw [ih]
theorem k_Print {d : Dsg} (hl : LB d.2) (hc : (chkD d).2 = 0) (ho : ∀ s ∈ d.2, OkS s) : optics_Print d = some ((prS d, ((0 : Int), ())), ()) := by
  obtain ⟨hnm, h12, _⟩ := chkD_len hc
  have hn := nameB_len hnm
  show (T_optics_Print d).run = _
  unfold T_optics_Print
  refine (r_bs (k_CheckDesign (by omega) hl)).trans ?_
  refine (br_f (nd hc)).trans ?_
  refine (q_of (str_t' (by omega))).trans ?_
  refine (q_of rfl).trans ?_
  rw [r_iter]
  refine iter_eq (fun i (st : List (List UInt8) × Int × Unit) => st = (headT d.1 :: (d.2.take i).map lineS, ((i : Int), ()))) _ d.2.length (by omega) ?_ rfl
  rintro i st hi rfl
  generalize hA : headT d.1 :: (d.2.take i).map lineS = A
  have hAl : A.length = i + 1 := by rw [← hA]; simp; omega
  show (∃ x', (T_optics_Print_l1 d A (i : Int)).run = _ ∧ _) ∨ (T_optics_Print_l1 d A (i : Int)).run = _
  unfold T_optics_Print_l1
  by_cases h : i < d.2.length
  · left
    have eg : gi d.2 (i : Int) = d.2[i] := gi_nat h
    have hs := ho d.2[i] (List.getElem_mem h)
    have hr : headT d.1 :: (d.2.take (i + 1)).map lineS = A ++ [lineS d.2[i]] := by
      rw [List.take_add_one, List.getElem?_eq_getElem h, ← hA, List.map_append]
      rfl
    have hnl := nameB_len hs.name
    have hll := lineS_len hs
    generalize hS : d.2[i] = s at *
    have c1 := hs.con.n1; have c2 := hs.con.n2; have c3 := hs.con.q0; have c4 := hs.con.q1
    have d1 := hs.d1; have d2 := hs.d2; have a1 := hs.a1; have a2 := hs.a2; have l1 := hs.con.lo; have l2 := hs.con.hi
    have i4 := itoa_len (n := s.2.1.2.1) (by omega) (by omega)
    have i5 := itoa_len (n := s.2.1.2.2) (by omega) (by omega)
    have kR := k_Itoa (n := s.2.1.1) (by omega)
    have kD := k_Itoa (n := s.2.2.1) (by omega)
    have kA := k_Itoa (n := s.2.2.2) (by omega)
    have kN := k_Itoa (n := s.2.1.2.1) (by omega)
    have kQ := k_Itoa (n := s.2.1.2.2) (by omega)
    have kJ := k_Join (xs := toksS s) (sep := [32]) (by unfold toksS; simp) (by show (lineS s).length ≤ _; omega)
    refine ⟨(A ++ [lineS s], (((i + 1 : Nat) : Int), ())), ?_, h, by rw [hr]⟩
    rw [eg, w1 i (by omega)]
    refine (br_t (decide_eq_true (by omega))).trans ?_
    refine (q_of (inB_t' (by omega) (by omega))).trans ?_
    refine (r_bs kN).trans ?_
    unfold toksS kS at kJ
    by_cases hq : s.2.1.2.2 = 1
    · rw [if_pos hq] at kJ
      refine (br_f (nd hq)).trans ?_
      refine (r_bs kR).trans ?_
      refine (r_bs kD).trans ?_
      refine (r_bs kA).trans ?_
      refine (r_bs kJ).trans ?_
      refine (q_of (decide_eq_true rfl)).trans ?_
      refine (q_of (app_t' (by simp; omega) (by simp; omega))).trans ?_
      refine (q_of (decide_eq_true (by simp))).trans ?_
      refine (r_ret _).trans ?_
      unfold lineS toksS kS
      rw [if_pos hq]
    · rw [if_neg hq] at kJ
      refine (br_t (nd' hq)).trans ?_
      refine (r_bs kQ).trans ?_
      refine (q_of (str_t' (by simp only [List.length_append, List.length_cons, List.length_nil]; omega))).trans ?_
      refine (q_of (str_t' (by simp only [List.length_append, List.length_cons, List.length_nil]; omega))).trans ?_
      refine (r_bs kR).trans ?_
      refine (r_bs kD).trans ?_
      refine (r_bs kA).trans ?_
      refine (r_bs kJ).trans ?_
      refine (q_of (decide_eq_true rfl)).trans ?_
      refine (q_of (app_t' (by simp; omega) (by simp; omega))).trans ?_
      refine (q_of (decide_eq_true (by simp))).trans ?_
      refine (r_ret _).trans ?_
      unfold lineS toksS kS
      rw [if_neg hq]
  · right
    have : i = d.2.length := by omega
    subst this
    rw [List.take_length] at hA
    have hj : Lib.join A [10] ++ [10] = prS d := by
      rw [← hA, join_flat, List.append_assoc, tail_flat]
      unfold prS
      simp only [List.append_assoc]
    have hjl : (Lib.join A [10]).length + 1 ≤ 2000 := by
      have := congrArg List.length hj
      rw [List.length_append] at this
      have hf := lines_flat_len d.2 ho
      unfold prS headT at this
      simp only [List.length_append, List.length_cons, List.length_nil] at this
      omega
    have kJ := k_Join (xs := A) (sep := [10]) (by omega) (by omega)
    rw [← hj]
    refine (br_f (decide_eq_false (by omega))).trans ?_
    refine (r_bs kJ).trans ?_
    refine (q_of (str_t' (by show (Lib.join A [10]).length + 1 ≤ _; omega))).trans ?_
    exact r_ret _
end Go.Ab
