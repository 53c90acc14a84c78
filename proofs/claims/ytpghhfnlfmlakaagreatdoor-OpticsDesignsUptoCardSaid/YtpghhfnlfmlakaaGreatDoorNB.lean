/- A design that is read, in the program and in the reference. -/
import Derived.Test.YtpghhfnlfmlakaaGreatDoorNA
namespace Go.Ab
open Go
set_option maxRecDepth 1000000
set_option maxHeartbeats 4000000
set_option linter.unusedVariables false
set_option linter.unusedSimpArgs false

abbrev Ans := Dsg × ((Int × Int) × Int)
/-- The lines behind the first one. -/
def linesS (nm : List UInt8) : Nat → List Srf → List (List UInt8) → Ans
  | _, l, [] => ((nm, l), ((0, 0), 0))
  | i, l, p :: r => if wordsA 0 [] p = [] then linesS nm (i + 1) l r else match mrL l (wordsA 0 [] p) with
    | .inl (c, e) => (([], []), ((((i + 1 : Nat) : Int), c), e))
    | .inr s => linesS nm (i + 1) (l ++ [s]) r
/-- The lines of a design. -/
def headsS : Nat → List (List UInt8) → Ans
  | _, [] => (([], []), ((1, 1), 6))
  | i, p :: r => if wordsA 0 [] p = [] then headsS (i + 1) r else match hdL (wordsA 0 [] p) with
    | .inl (c, e) => (([], []), ((((i + 1 : Nat) : Int), c), e))
    | .inr n => linesS n (i + 1) [] r
/-- The design of a text, or the mark and the error. -/
def parS (t : List UInt8) : Ans := if 60000 < t.length then (([], []), ((0, 0), 8)) else headsS 0 (cutL 10 t)
theorem mrL_len {l : List Srf} {ws : List Wd} {s : Srf} (h : mrL l ws = .inr s) : l.length ≠ 12 := by
  intro h12
  match ws with
  | [] => simp only [mrL] at h; cases h
  | [w0] =>
    simp only [mrL] at h
    split at h
    · first | (cases h; done) | (rw [if_pos h12] at h; cases h)
    · cases h
  | w0 :: w1 :: r =>
    simp only [mrL] at h
    split at h
    · first | (cases h; done) | (rw [if_pos h12] at h; cases h)
    · cases h
theorem row_WB {p : List UInt8} (h : p.length ≤ 1048576) : WB (wordsA 0 [] p) := by
  refine ⟨Nat.le_trans (wordsA_len p 0 []) (by omega), fun w hw => ?_⟩
  have := wordsA_bd p 0 [] (Nat.le_refl _) w hw
  simp only [List.length_nil] at this
  omega
abbrev Dst := List UInt8 × (List Srf × Unit)
abbrev PSt := Bool × (Int × (Dst × (Dst × ((Int × Int) × Unit))))
abbrev PRt := (Dsg × ((Int × Int) × (Int × Unit))) × Unit
abbrev pst (a : Bool) (i : Nat) (c : Dst) : PSt := (a, ((i : Int), (c, (([], ([], ())), ((0, 0), ())))))
def toR (a : Ans) : PRt := ((a.1, (a.2.1, (a.2.2, ()))), ())
theorem parse_gen {b : PSt → Option (PSt ⊕ PRt)} {rows : List (List UInt8)} (hr : rows.length ≤ 1048577)
    (h1 : ∀ i a c (h : i < rows.length), wordsA 0 [] rows[i] = [] → b (pst a i c) = some (.inl (pst a (i + 1) c)))
    (h2 : ∀ i (h : i < rows.length) c e, wordsA 0 [] rows[i] ≠ [] → hdL (wordsA 0 [] rows[i]) = .inl (c, e) → b (pst true i ([], ([], ()))) = some (.inr (toR (([], []), ((((i + 1 : Nat) : Int), c), e)))))
    (h3 : ∀ i (h : i < rows.length) n, wordsA 0 [] rows[i] ≠ [] → hdL (wordsA 0 [] rows[i]) = .inr n → b (pst true i ([], ([], ()))) = some (.inl (pst false (i + 1) (n, ([], ())))))
    (h4 : ∀ i (h : i < rows.length) nm l c e, wordsA 0 [] rows[i] ≠ [] → l.length ≤ 12 → mrL l (wordsA 0 [] rows[i]) = .inl (c, e) → b (pst false i (nm, (l, ()))) = some (.inr (toR (([], []), ((((i + 1 : Nat) : Int), c), e)))))
    (h5 : ∀ i (h : i < rows.length) nm l s, wordsA 0 [] rows[i] ≠ [] → l.length ≤ 12 → mrL l (wordsA 0 [] rows[i]) = .inr s → b (pst false i (nm, (l, ()))) = some (.inl (pst false (i + 1) (nm, (l ++ [s], ())))))
    (h6 : b (pst true rows.length ([], ([], ()))) = some (.inr (toR (([], []), ((1, 1), 6)))))
    (h7 : ∀ nm l, b (pst false rows.length (nm, (l, ()))) = some (.inr (toR ((nm, l), ((0, 0), 0))))) :
    iterF b FUEL (pst true 0 ([], ([], ()))) = some (toR (headsS 0 rows)) := by
  refine iter_eq (fun i st => (st = pst true i ([], ([], ())) ∧ headsS i (rows.drop i) = headsS 0 rows) ∨ ∃ nm l, st = pst false i (nm, (l, ())) ∧ l.length ≤ 12 ∧ linesS nm i l (rows.drop i) = headsS 0 rows) _ rows.length (by omega) ?_ (.inl ⟨rfl, rfl⟩)
  rintro i st hi hst
  by_cases h : i < rows.length
  · have hd : rows.drop i = rows[i] :: rows.drop (i + 1) := List.drop_eq_getElem_cons h
    rw [hd] at hst
    by_cases hw : wordsA 0 [] rows[i] = []
    · left
      rcases hst with ⟨rfl, hp⟩ | ⟨nm, l, rfl, hl, hp⟩
      · rw [headsS, if_pos hw] at hp
        exact ⟨_, h1 i _ _ h hw, h, .inl ⟨rfl, hp⟩⟩
      · rw [linesS, if_pos hw] at hp
        exact ⟨_, h1 i _ _ h hw, h, .inr ⟨nm, l, rfl, hl, hp⟩⟩
    · rcases hst with ⟨rfl, hp⟩ | ⟨nm, l, rfl, hl, hp⟩
      · rw [headsS, if_neg hw] at hp
        cases hq : hdL (wordsA 0 [] rows[i]) with
        | inl x =>
          right
          obtain ⟨c, e⟩ := x
          rw [hq] at hp
          rw [h2 i h c e hw hq, ← hp]
        | inr n =>
          left
          rw [hq] at hp
          exact ⟨_, h3 i h n hw hq, h, .inr ⟨n, [], rfl, Nat.zero_le _, hp⟩⟩
      · rw [linesS, if_neg hw] at hp
        cases hq : mrL l (wordsA 0 [] rows[i]) with
        | inl x =>
          right
          obtain ⟨c, e⟩ := x
          rw [hq] at hp
          rw [h4 i h nm l c e hw hl hq, ← hp]
        | inr s =>
          left
          rw [hq] at hp
          have := mrL_len hq
          exact ⟨_, h5 i h nm l s hw hl hq, h, .inr ⟨nm, l ++ [s], rfl, by simp; omega, hp⟩⟩
  · right
    have : i = rows.length := by omega
    subst this
    rw [List.drop_length] at hst
    rcases hst with ⟨rfl, hp⟩ | ⟨nm, l, rfl, hl, hp⟩
    · rw [h6, ← hp]; rfl
    · rw [h7, ← hp]; rfl
theorem rows_bd {t : List UInt8} (h : t.length ≤ 1048575) : (cutL 10 t).length ≤ 1048577 ∧ ∀ i (hi : i < (cutL 10 t).length), (cutL 10 t)[i].length ≤ 1048576 := by
  refine ⟨Nat.le_trans (cutL_len 10 t) (by omega), fun i hi => ?_⟩
  exact Nat.le_trans (cutL_mem 10 t _ (List.getElem_mem hi)) (by omega)
theorem k_Parse {t : List UInt8} (h : t.length ≤ 1048575) : optics_Parse t = some (toR (parS t)) := by
  show (T_optics_Parse t).run = _
  unfold T_optics_Parse parS
  by_cases hbig : 60000 < t.length
  · rw [if_pos hbig]
    refine (br_t (decide_eq_true (by omega))).trans ?_
    exact r_ret _
  rw [if_neg hbig]
  obtain ⟨hr, hp⟩ := rows_bd h
  refine (br_f (decide_eq_false (by omega))).trans ?_
  refine (r_bs (k_split (c := 10) (by omega))).trans ?_
  refine (q_of rfl).trans ?_
  refine (q_of rfl).trans ?_
  rw [r_iter]
  generalize cutL 10 t = rows at *
  refine parse_gen (rows := rows) hr (fun i a c hi hw => ?_) (fun i hi c e hw hq => ?_) (fun i hi n hw hq => ?_) (fun i hi nm l c e hw hl hq => ?_) (fun i hi nm l s hw hl hq => ?_) ?_ (fun nm l => ?_)
  · show (T_optics_Parse_l1 ((rows, ()), ()) a (i : Int) c ([], ([], ())) (0, 0)).run = _
    unfold T_optics_Parse_l1
    have ks := k_splitW (hp i hi)
    rw [hw] at ks
    have eg : gi rows (i : Int) = rows[i] := gi_nat hi
    show (Tr.br (decide ((i : Int) < (rows.length : Int))) _ _).run = _
    refine (br_t (decide_eq_true (by omega))).trans ?_
    refine (q_of (inB_t' (by omega) (by show (i : Int) < (rows.length : Int); omega))).trans ?_
    show (Tr.bind (.pair (.pair (.list (.pair .str (.int .i64))) .unit) .unit) (optics_split (gi rows (i : Int))) _).run = _
    rw [eg]
    refine (r_bs ks).trans ?_
    refine (br_t rfl).trans ?_
    refine (q_of (decide_eq_true rfl)).trans ?_
    refine (q_of (decide_eq_true rfl)).trans ?_
    refine (r_ret _).trans ?_
    rw [w1 i (by omega)]
  · obtain ⟨f, d, k1, k2⟩ := k_read1 (ln := ((i + 1 : Nat) : Int)) (row_WB (hp i hi)) hw
    rw [hq] at k2
    have ef : f = (true, ((((i + 1 : Nat) : Int), c), e)) := k2
    subst ef
    show (T_optics_Parse_l1 ((rows, ()), ()) true (i : Int) ([], ([], ())) ([], ([], ())) (0, 0)).run = _
    unfold T_optics_Parse_l1
    have eg : gi rows (i : Int) = rows[i] := gi_nat hi
    rw [w1 i (by omega)]
    refine (br_t (decide_eq_true (by show (i : Int) < (rows.length : Int); omega))).trans ?_
    refine (q_of (inB_t' (by omega) (by show (i : Int) < (rows.length : Int); omega))).trans ?_
    show (Tr.bind (.pair (.pair (.list (.pair .str (.int .i64))) .unit) .unit) (optics_split (gi rows (i : Int))) _).run = _
    rw [eg]
    have hne : decide (((wordsA 0 [] rows[i]).length : Int) = 0) = false := decide_eq_false (by have := List.length_pos_iff.2 hw; omega)
    refine (r_bs (k_splitW (hp i hi))).trans ?_
    refine (br_f hne).trans ?_
    refine (r_bs k1).trans ?_
    refine (br_t rfl).trans ?_
    exact r_ret _
  · obtain ⟨f, d, k1, k2⟩ := k_read1 (ln := ((i + 1 : Nat) : Int)) (row_WB (hp i hi)) hw
    rw [hq] at k2
    obtain ⟨k2, rfl⟩ := k2
    show (T_optics_Parse_l1 ((rows, ()), ()) true (i : Int) ([], ([], ())) ([], ([], ())) (0, 0)).run = _
    unfold T_optics_Parse_l1
    have eg : gi rows (i : Int) = rows[i] := gi_nat hi
    rw [w1 i (by omega)]
    refine (br_t (decide_eq_true (by show (i : Int) < (rows.length : Int); omega))).trans ?_
    refine (q_of (inB_t' (by omega) (by show (i : Int) < (rows.length : Int); omega))).trans ?_
    show (Tr.bind (.pair (.pair (.list (.pair .str (.int .i64))) .unit) .unit) (optics_split (gi rows (i : Int))) _).run = _
    rw [eg]
    have hne : decide (((wordsA 0 [] rows[i]).length : Int) = 0) = false := decide_eq_false (by have := List.length_pos_iff.2 hw; omega)
    refine (r_bs (k_splitW (hp i hi))).trans ?_
    refine (br_f hne).trans ?_
    refine (r_bs k1).trans ?_
    refine (br_f k2).trans ?_
    refine (q_of rfl).trans ?_
    refine (q_of (decide_eq_true rfl)).trans ?_
    exact r_ret _
  · obtain ⟨f, d, n, k1, k2⟩ := k_read2 (ln := ((i + 1 : Nat) : Int)) (nm := nm) (row_WB (hp i hi)) hw hl
    rw [hq] at k2
    have ef : f = (true, ((((i + 1 : Nat) : Int), c), e)) := k2
    subst ef
    show (T_optics_Parse_l1 ((rows, ()), ()) false (i : Int) (nm, (l, ())) ([], ([], ())) (0, 0)).run = _
    unfold T_optics_Parse_l1
    have eg : gi rows (i : Int) = rows[i] := gi_nat hi
    rw [w1 i (by omega)]
    refine (br_t (decide_eq_true (by show (i : Int) < (rows.length : Int); omega))).trans ?_
    refine (q_of (inB_t' (by omega) (by show (i : Int) < (rows.length : Int); omega))).trans ?_
    show (Tr.bind (.pair (.pair (.list (.pair .str (.int .i64))) .unit) .unit) (optics_split (gi rows (i : Int))) _).run = _
    rw [eg]
    have hne : decide (((wordsA 0 [] rows[i]).length : Int) = 0) = false := decide_eq_false (by have := List.length_pos_iff.2 hw; omega)
    refine (r_bs (k_splitW (hp i hi))).trans ?_
    refine (br_f hne).trans ?_
    refine (r_bs k1).trans ?_
    refine (br_t rfl).trans ?_
    exact r_ret _
  · obtain ⟨f, d, n, k1, k2⟩ := k_read2 (ln := ((i + 1 : Nat) : Int)) (nm := nm) (row_WB (hp i hi)) hw hl
    rw [hq] at k2
    obtain ⟨k2, rfl, rfl⟩ := k2
    show (T_optics_Parse_l1 ((rows, ()), ()) false (i : Int) (nm, (l, ())) ([], ([], ())) (0, 0)).run = _
    unfold T_optics_Parse_l1
    have eg : gi rows (i : Int) = rows[i] := gi_nat hi
    rw [w1 i (by omega)]
    refine (br_t (decide_eq_true (by show (i : Int) < (rows.length : Int); omega))).trans ?_
    refine (q_of (inB_t' (by omega) (by show (i : Int) < (rows.length : Int); omega))).trans ?_
    show (Tr.bind (.pair (.pair (.list (.pair .str (.int .i64))) .unit) .unit) (optics_split (gi rows (i : Int))) _).run = _
    rw [eg]
    have hne : decide (((wordsA 0 [] rows[i]).length : Int) = 0) = false := decide_eq_false (by have := List.length_pos_iff.2 hw; omega)
    refine (r_bs (k_splitW (hp i hi))).trans ?_
    refine (br_f hne).trans ?_
    refine (r_bs k1).trans ?_
    refine (br_f k2).trans ?_
    refine (q_of (decide_eq_true (Int.toNat_natCast _))).trans ?_
    refine (q_of (decide_eq_true rfl)).trans ?_
    exact r_ret _
  · show (T_optics_Parse_l1 ((rows, ()), ()) true (rows.length : Int) ([], ([], ())) ([], ([], ())) (0, 0)).run = _
    unfold T_optics_Parse_l1
    refine (br_f (decide_eq_false (by show ¬ ((rows.length : Int) < (rows.length : Int)); omega))).trans ?_
    refine (br_t rfl).trans ?_
    exact r_ret _
  · show (T_optics_Parse_l1 ((rows, ()), ()) false (rows.length : Int) (nm, (l, ())) ([], ([], ())) (0, 0)).run = _
    unfold T_optics_Parse_l1
    refine (br_f (decide_eq_false (by show ¬ ((rows.length : Int) < (rows.length : Int)); omega))).trans ?_
    refine (br_f rfl).trans ?_
    exact r_ret _
end Go.Ab
