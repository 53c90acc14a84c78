/- What is written of a design is read back; the law OpticsDesigns. -/
import Derived.Test.YtpghhfnlfmlakaaGreatDoorP2
import Derived.Test.YtpghhfnlfmlakaaGreatDoorQLOpticsDesigns
namespace Go.Ab
open Go
set_option maxRecDepth 1000000
set_option maxHeartbeats 4000000
set_option linter.unusedVariables false
set_option linter.unusedSimpArgs false

/-- A word that is written. -/
def CleanT (t : List UInt8) : Prop := t ≠ [] ∧ ∀ c ∈ t, c ≠ 35 ∧ c ≠ 32 ∧ c ≠ 9 ∧ c ≠ 10
theorem words_tok : ∀ (t : List UInt8) (k : Nat) (cur rest : List UInt8), (∀ c ∈ t, c ≠ 35 ∧ c ≠ 32 ∧ c ≠ 9 ∧ c ≠ 10) → wordsA k cur (t ++ rest) = wordsA (k + t.length) (cur ++ t) rest
  | [], k, cur, rest, _ => by simp
  | c :: r, k, cur, rest, h => by
    have hc := h c (by simp)
    rw [List.cons_append, wordsA_let hc.1 (by rintro (e | e); exact hc.2.1 e; exact hc.2.2.1 e), words_tok r _ _ _ (fun d hd => h d (by simp [hd]))]
    simp only [List.length_cons, List.append_assoc, List.cons_append, List.nil_append]
    rw [show k + 1 + r.length = k + (r.length + 1) by omega]
theorem words_join : ∀ (l : List (List UInt8)) (x : List UInt8) (k : Nat), CleanT x → (∀ t ∈ l, CleanT t) → (wordsA k [] (Lib.join (x :: l) [32])).map (·.1) = x :: l
  | [], x, k, hx, _ => by
    rw [join_flat, List.map_nil, List.flatten_nil, words_tok x k [] [] hx.2, wordsA_nil]
    unfold flushW
    rw [if_neg (by simpa using hx.1)]
    rfl
  | y :: r, x, k, hx, h => by
    have ih := words_join r y (k + x.length + 1) (h y (by simp)) (fun t ht => h t (by simp [ht]))
    rw [join_flat] at ih ⊢
    rw [words_tok x k [] _ hx.2]
    show (wordsA (k + x.length) x (32 :: (y ++ (r.map ([32] ++ ·)).flatten))).map (·.1) = _
    rw [wordsA_gap (.inl rfl), List.map_append, ih]
    unfold flushW
    rw [if_neg hx.1]
    rfl
theorem join_no10 {l : List (List UInt8)} {x : List UInt8} (hx : CleanT x) (h : ∀ t ∈ l, CleanT t) : ∀ k : Nat, (Lib.join (x :: l) [32])[k]? ≠ some 10 := by
  intro k hk
  have hm := List.mem_of_getElem? hk
  rw [join_flat] at hm
  rcases List.mem_append.1 hm with hm | hm
  · exact (hx.2 10 hm).2.2.2 rfl
  · obtain ⟨t, ht, hc⟩ := List.mem_flatten.1 hm
    obtain ⟨u, hu, rfl⟩ := List.mem_map.1 ht
    rcases List.mem_append.1 hc with hc | hc
    · simp at hc
    · exact ((h u hu).2 10 hc).2.2.2 rfl
theorem name_clean {n : List UInt8} (h : nameB n = true) : CleanT n := by
  have hl := nameB_len h
  unfold nameB at h
  simp only [Bool.and_eq_true, decide_eq_true_eq] at h
  refine ⟨fun e => hl.2 (by rw [e]; rfl), fun c hc => ?_⟩
  obtain ⟨i, hi, rfl⟩ := List.mem_iff_getElem.1 hc
  have := allB'_at h.2 i hi
  unfold byt at this
  rw [gi_nat hi] at this
  unfold okB letB at this
  refine ⟨?_, ?_, ?_, ?_⟩ <;> (intro e; rw [e] at this; revert this; simp)
theorem itoa_bytes (n : Int) : ∀ c ∈ Lib.itoa n, isDg c ∨ c = 45 := by
  intro c hc
  unfold Lib.itoa at hc
  split at hc
  · rcases List.mem_cons.1 hc with h | h
    · exact .inr h
    · exact .inl (dec_dg _ c h)
  · exact .inl (dec_dg _ c hc)
theorem itoa_ne (n : Int) : Lib.itoa n ≠ [] := by
  unfold Lib.itoa
  split
  · simp
  · exact dec_ne _
theorem dg_clean {c : UInt8} (h : isDg c ∨ c = 45 ∨ c = 47) : c ≠ 35 ∧ c ≠ 32 ∧ c ≠ 9 ∧ c ≠ 10 := by
  rcases h with h | rfl | rfl
  · unfold isDg at h
    refine ⟨?_, ?_, ?_, ?_⟩ <;> (intro e; rw [e] at h; exact absurd h (by decide))
  · decide
  · decide
theorem itoa_clean (n : Int) : CleanT (Lib.itoa n) := ⟨itoa_ne n, fun c hc => dg_clean (by rcases itoa_bytes n c hc with h | h; exact .inl h; exact .inr (.inl h))⟩
theorem kS_clean (k : Int × Int) : CleanT (kS k) := by
  unfold kS
  split
  · exact itoa_clean _
  · refine ⟨fun e => itoa_ne k.1 (List.append_eq_nil_iff.1 e).1, fun c hc => ?_⟩
    rcases List.mem_append.1 hc with h | h
    · exact (itoa_clean _).2 c h
    · rcases List.mem_append.1 h with h | h
      · exact dg_clean (.inr (.inr (by simpa using h)))
      · exact (itoa_clean _).2 c h
theorem toks_clean {s : Srf} (h : nameB s.1 = true) : ∃ x l, toksS s = x :: l ∧ CleanT x ∧ ∀ t ∈ l, CleanT t := by
  have lit : ∀ t : List UInt8, (t.all fun c => c != 35 && c != 32 && c != 9 && c != 10) = true → t ≠ [] → CleanT t := fun t ht hn => by
    refine ⟨hn, fun c hc => ?_⟩
    have := List.all_eq_true.1 ht c hc
    simpa [Bool.and_eq_true, and_assoc] using this
  refine ⟨_, _, rfl, lit _ (by decide) (by decide), fun t ht => ?_⟩
  simp only [List.mem_cons, List.not_mem_nil, or_false] at ht
  rcases ht with rfl | rfl | rfl | rfl | rfl | rfl | rfl | rfl | rfl
  · exact name_clean h
  · exact lit _ (by decide) (by decide)
  · exact itoa_clean _
  · exact lit _ (by decide) (by decide)
  · exact kS_clean _
  · exact lit _ (by decide) (by decide)
  · exact itoa_clean _
  · exact lit _ (by decide) (by decide)
  · exact itoa_clean _
theorem line_words {s : Srf} (h : nameB s.1 = true) : (wordsA 0 [] (lineS s)).map (·.1) = toksS s := by
  obtain ⟨x, l, e, hx, hl⟩ := toks_clean h
  unfold lineS
  rw [e]
  exact words_join l x 0 hx hl
theorem line_no10 {s : Srf} (h : nameB s.1 = true) : ∀ k : Nat, (lineS s)[k]? ≠ some 10 := by
  obtain ⟨x, l, e, hx, hl⟩ := toks_clean h
  unfold lineS
  rw [e]
  exact join_no10 hx hl
theorem headT_eq (n : List UInt8) : headT n = Lib.join [[100, 101, 115, 105, 103, 110], n] [32] := by
  rw [join_flat]; simp [headT]
theorem design_clean : CleanT [100, 101, 115, 105, 103, 110] := ⟨by decide, fun c hc => by
  simp only [List.mem_cons, List.not_mem_nil, or_false] at hc
  rcases hc with rfl | rfl | rfl | rfl | rfl | rfl <;> decide⟩
theorem head_words {n : List UInt8} (h : nameB n = true) : (wordsA 0 [] (headT n)).map (·.1) = [[100, 101, 115, 105, 103, 110], n] := by
  rw [headT_eq]
  exact words_join [n] _ 0 design_clean (fun t ht => by rw [List.mem_singleton] at ht; subst ht; exact name_clean h)
theorem head_no10 {n : List UInt8} (h : nameB n = true) : ∀ k : Nat, (headT n)[k]? ≠ some 10 := by
  rw [headT_eq]
  exact join_no10 design_clean (fun t ht => by rw [List.mem_singleton] at ht; subst ht; exact name_clean h)
theorem suf_itoa {n : Int} {p : List UInt8} (hp : (109 : UInt8) ∈ p) : Lib.hasSuffix (Lib.itoa n) p = false := by
  cases q : Lib.hasSuffix (Lib.itoa n) p with
  | false => rfl
  | true =>
    exfalso
    have h := (suf_iff.1 q).2
    have hm : (109 : UInt8) ∈ Lib.itoa n := List.mem_of_mem_drop (by rw [h]; exact hp)
    rcases itoa_bytes n 109 hm with h | h
    · exact absurd h (by decide)
    · exact absurd h (by decide)
theorem lenS_itoa {n : Int} (h1 : -100000000 < n) (h2 : n < 100000000) : lenS (Lib.itoa n) = some n := by
  unfold lenS unitS
  rw [if_neg (by rw [suf_itoa (by decide)]; decide), if_neg (by rw [suf_itoa (by decide)]; decide), if_neg (by rw [suf_itoa (by decide)]; decide), numS_of h1 h2]
  simp
theorem itoa_no47 (n : Int) : ∀ k : Nat, (Lib.itoa n)[k]? ≠ some 47 := fun k hk => by
  rcases itoa_bytes n 47 (List.mem_of_getElem? hk) with h | h
  · exact absurd h (by decide)
  · exact absurd h (by decide)
theorem conS_kS {c : Con} (h : ConOk c) : conS (kS c.2) = some c.2 := by
  have c1 := h.n1; have c2 := h.n2; have c3 := h.q0; have c4 := h.q1
  unfold kS
  split
  · rename_i hq
    unfold conS
    rw [cutL_none (itoa_no47 _)]
    simp only
    rw [numS_of (by omega) (by omega)]
    show some (c.2.1, (1 : Int)) = some c.2
    rw [← hq]
  · rename_i hq
    unfold conS
    have e : cutL 47 (Lib.itoa c.2.1 ++ ([47] ++ Lib.itoa c.2.2)) = [Lib.itoa c.2.1, Lib.itoa c.2.2] := by
      show cutL 47 (Lib.itoa c.2.1 ++ 47 :: Lib.itoa c.2.2) = _
      rw [cutL_app, cutL_none (itoa_no47 _), cutL_none (itoa_no47 _)]
      rfl
    rw [e]
    simp only
    rw [numS_of (by omega) (by omega), numS_of (by omega) (by omega)]
    simp only
    rw [if_pos (by omega)]
theorem pairs_step {e : Int} {h : Had} {s s' : Srf} {k v : Wd} {r : List Wd} {n : Nat} (hk : keyS k.1 = some n) (hh : hadG h n = false) (hp : putS n v.1 s = some s') : pairsS e h s (k :: v :: r) = pairsS e (hadP h n) s' r := by
  rw [pairsS, hk]
  simp only
  rw [hh, if_neg (by decide), hp]
theorem mrL_back {l : List Srf} {s : Srf} {ws : List Wd} (ho : OkS s) (hnm : namedB l s.1 = false) (h12 : l.length < 12) (hs : srfE s = 0) (hw : ws.map (·.1) = toksS s) : mrL l ws = .inr s := by
  unfold toksS at hw
  obtain ⟨w0, ws, rfl, e0, hw⟩ := List.map_eq_cons_iff.1 hw
  obtain ⟨w1, ws, rfl, e1, hw⟩ := List.map_eq_cons_iff.1 hw
  obtain ⟨w2, ws, rfl, e2, hw⟩ := List.map_eq_cons_iff.1 hw
  obtain ⟨w3, ws, rfl, e3, hw⟩ := List.map_eq_cons_iff.1 hw
  obtain ⟨w4, ws, rfl, e4, hw⟩ := List.map_eq_cons_iff.1 hw
  obtain ⟨w5, ws, rfl, e5, hw⟩ := List.map_eq_cons_iff.1 hw
  obtain ⟨w6, ws, rfl, e6, hw⟩ := List.map_eq_cons_iff.1 hw
  obtain ⟨w7, ws, rfl, e7, hw⟩ := List.map_eq_cons_iff.1 hw
  obtain ⟨w8, ws, rfl, e8, hw⟩ := List.map_eq_cons_iff.1 hw
  obtain ⟨w9, ws, rfl, e9, hw⟩ := List.map_eq_cons_iff.1 hw
  have hw := List.map_eq_nil_iff.1 hw
  subst hw
  have d1 := ho.d1; have d2 := ho.d2; have a1 := ho.a1; have a2 := ho.a2; have l1 := ho.con.lo; have l2 := ho.con.hi
  simp only [mrL]
  rw [if_pos e0, if_neg (by omega), e1, if_pos ho.name, if_neg (by rw [hnm]; decide)]
  have p0 : putS 0 w3.1 (srf0 s.1) = some (s.1, ((s.2.1.1, (0, 1)), (0, 0))) := by
    unfold putS; rw [if_pos rfl, e3, lenS_itoa (by omega) (by omega)]; rfl
  have p1 : putS 1 w5.1 (s.1, ((s.2.1.1, (0, 1)), (0, 0))) = some (s.1, ((s.2.1.1, s.2.1.2), (0, 0))) := by
    unfold putS; rw [if_neg (by decide), if_pos rfl, e5, conS_kS ho.con]; rfl
  have p2 : putS 2 w7.1 (s.1, ((s.2.1.1, s.2.1.2), (0, 0))) = some (s.1, ((s.2.1.1, s.2.1.2), (s.2.2.1, 0))) := by
    unfold putS; rw [if_neg (by decide), if_neg (by decide), if_pos rfl, e7, lenS_itoa (by omega) (by omega)]; rfl
  have p3 : putS 3 w9.1 (s.1, ((s.2.1.1, s.2.1.2), (s.2.2.1, 0))) = some s := by
    unfold putS; rw [if_neg (by decide), if_neg (by decide), if_neg (by decide), e9, lenS_itoa (by omega) (by omega)]; rfl
  rw [pairs_step (n := 0) (by rw [e2]; rfl) rfl p0, pairs_step (n := 1) (by rw [e4]; rfl) rfl p1, pairs_step (n := 2) (by rw [e6]; rfl) rfl p2, pairs_step (n := 3) (by rw [e8]; rfl) rfl p3]
  have hq : ((hadP (hadP (hadP (hadP had0 0) 1) 2) 3).1 && (hadP (hadP (hadP (hadP had0 0) 1) 2) 3).2.2.1) = true := rfl
  rw [pairsS, if_pos hq]
  simp only
  rw [if_pos hs]
theorem srf_ok {s : Srf} (hn : nameB s.1 = true) (h : srfE s = 0) : OkS s := by
  unfold srfE at h
  by_cases h1 : coE s.2.1 = 0
  · rw [if_neg (fun e => e h1)] at h
    by_cases h2 : 1 ≤ s.2.2.1 ∧ s.2.2.1 ≤ 2000000
    · rw [if_neg (fun e => e h2)] at h
      by_cases h3 : 0 ≤ s.2.2.2 ∧ s.2.2.2 ≤ 10000000
      · exact ⟨hn, coE_ok h1, h2.1, h2.2, h3.1, h3.2⟩
      · rw [if_pos h3] at h; cases h
    · rw [if_pos h2] at h; cases h
  · rw [if_pos h1] at h; exact absurd h h1
theorem chk_cons {b : List Srf} {i : Nat} {s : Srf} {r : List Srf} (h : (chkL b i (s :: r)).2 = 0) : nameB s.1 = true ∧ namedB b s.1 = false ∧ srfE s = 0 ∧ (chkL (b ++ [s]) (i + 1) r).2 = 0 := by
  rw [chkL] at h
  by_cases h1 : cnE b s.1 = 0
  · rw [if_neg (fun e => e h1)] at h
    by_cases h2 : srfE s = 0
    · rw [if_neg (fun e => e h2)] at h
      unfold cnE at h1
      cases hn : nameB s.1 with
      | false => rw [hn, if_neg (by decide)] at h1; cases h1
      | true =>
        rw [hn, if_pos rfl] at h1
        cases hm : namedB b s.1 with
        | true => rw [hm, if_pos rfl] at h1; cases h1
        | false => exact ⟨rfl, rfl, h2, h⟩
    · rw [if_pos h2] at h; exact absurd h h2
  · rw [if_pos h1] at h; exact absurd h h1
theorem chk_all : ∀ (r b : List Srf) (i : Nat), (chkL b i r).2 = 0 → ∀ s ∈ r, OkS s
  | [], _, _, _, s, hs => by cases hs
  | t :: r, b, i, h, s, hs => by
    obtain ⟨h1, h2, h3, h4⟩ := chk_cons h
    rcases List.mem_cons.1 hs with rfl | hs
    · exact srf_ok h1 h3
    · exact chk_all r _ _ h4 s hs
theorem lines_back {nm : List UInt8} : ∀ (r b : List Srf) (i j : Nat), (chkL b j r).2 = 0 → b.length + r.length ≤ 12 → linesS nm i b (r.map lineS ++ [[]]) = ((nm, b ++ r), ((0, 0), 0))
  | [], b, i, j, h, hl => by
    rw [List.map_nil, List.nil_append, linesS, if_pos (show wordsA 0 [] [] = [] from rfl), linesS, List.append_nil]
  | s :: r, b, i, j, h, hl => by
    obtain ⟨h1, h2, h3, h4⟩ := chk_cons h
    have hw := line_words h1
    have hne : wordsA 0 [] (lineS s) ≠ [] := fun e => by rw [e] at hw; cases hw
    have hl' : b.length + (r.length + 1) ≤ 12 := hl
    rw [List.map_cons, List.cons_append, linesS, if_neg hne, mrL_back (srf_ok h1 h3) h2 (by omega) h3 hw]
    simp only
    rw [lines_back r (b ++ [s]) (i + 1) (j + 1) h4 (by simp; omega)]
    simp
theorem cut_lines : ∀ (l : List Srf), (∀ s ∈ l, nameB s.1 = true) → cutL 10 ((l.map fun s => lineS s ++ [10]).flatten) = l.map lineS ++ [[]]
  | [], _ => rfl
  | s :: r, h => by
    simp only [List.map_cons, List.flatten_cons, List.append_assoc]
    show cutL 10 (lineS s ++ 10 :: (r.map fun s => lineS s ++ [10]).flatten) = _
    rw [cutL_app, cutL_none (line_no10 (h s (by simp))), cut_lines r (fun t ht => h t (by simp [ht]))]
    rfl
theorem parS_back {d : Dsg} (h : (chkD d).2 = 0) : parS (prS d) = (d, ((0, 0), 0)) := by
  obtain ⟨hn, h12, hc⟩ := chkD_len h
  have ho := chk_all _ _ _ hc
  have hnl := nameB_len hn
  have hfl := lines_flat_len d.2 ho
  unfold parS
  rw [if_neg (by unfold prS headT; simp only [List.length_append, List.length_cons, List.length_nil]; omega)]
  have e : cutL 10 (prS d) = headT d.1 :: (d.2.map lineS ++ [[]]) := by
    unfold prS
    rw [List.append_assoc]
    show cutL 10 (headT d.1 ++ 10 :: (d.2.map fun s => lineS s ++ [10]).flatten) = _
    rw [cutL_app, cutL_none (head_no10 hn), cut_lines d.2 (fun s hs => (ho s hs).name)]
    rfl
  have hw := head_words hn
  have hne : wordsA 0 [] (headT d.1) ≠ [] := fun e => by rw [e] at hw; cases hw
  rw [e, headsS, if_neg hne]
  have hh : hdL (wordsA 0 [] (headT d.1)) = .inr d.1 := by
    generalize wordsA 0 [] (headT d.1) = ws at hw
    obtain ⟨w0, ws, rfl, e0, hw⟩ := List.map_eq_cons_iff.1 hw
    obtain ⟨w1, ws, rfl, e1, hw⟩ := List.map_eq_cons_iff.1 hw
    have hw := List.map_eq_nil_iff.1 hw
    subst hw
    simp only [hdL]
    rw [if_pos e0, e1, if_pos hn]
  rw [hh]
  simp only
  rw [lines_back d.2 [] 1 0 hc (by simpa using h12)]
  rfl
theorem k_Print_err {d : Dsg} (hn : d.1.length ≤ 1048576) (hl : LB d.2) (hc : (chkD d).2 ≠ 0) : optics_Print d = some (([], ((chkD d).2, ())), ()) := by
  show (T_optics_Print d).run = _
  unfold T_optics_Print
  refine (r_bs (k_CheckDesign hn hl)).trans ?_
  refine (br_t (nd' hc)).trans ?_
  exact r_ret _
theorem k_brief {d : Dsg} (hl : d.2.length ≤ 1048576) : ∃ b, law02xbrief d = some ((b, ()), ()) := by
  have loop : ∃ r, iterF (fun y : Int × Unit => (T_law02xbrief_l0 d y.1).run) FUEL (0, ()) = some r ∧ ∃ b, r = ((b, ()), ()) := by
    refine iter_post (fun i st => st = ((i : Int), ())) _ d.2.length (by omega) ?_ rfl
    rintro i st hi rfl
    show (∃ x', (T_law02xbrief_l0 d (i : Int)).run = _ ∧ _) ∨ (∃ r, (T_law02xbrief_l0 d (i : Int)).run = _ ∧ _)
    unfold T_law02xbrief_l0
    by_cases h : i < d.2.length
    · have eg : gi d.2 (i : Int) = d.2[i] := gi_nat h
      by_cases h30 : (30 : Int) < (d.2[i].1.length : Int)
      · right
        refine ⟨((false, ()), ()), ?_, false, rfl⟩
        rw [eg]
        refine (br_t (decide_eq_true (by omega))).trans ?_
        refine (q_of (inB_t' (by omega) (by omega))).trans ?_
        refine (br_t (decide_eq_true h30)).trans ?_
        exact r_ret _
      · left
        refine ⟨_, ?_, h, rfl⟩
        rw [eg, ← w1 i (by omega)]
        refine (br_t (decide_eq_true (by omega))).trans ?_
        refine (q_of (inB_t' (by omega) (by omega))).trans ?_
        refine (br_f (decide_eq_false h30)).trans ?_
        exact r_ret _
    · right
      refine ⟨((true, ()), ()), ?_, true, rfl⟩
      refine (br_f (decide_eq_false (by omega))).trans ?_
      exact r_ret _
  obtain ⟨r, hr, b, rfl⟩ := loop
  show ∃ b, (T_law02xbrief d).run = _
  unfold T_law02xbrief
  by_cases h1 : (30 : Int) < (d.1.length : Int)
  · refine ⟨false, ?_⟩
    refine (br_t (decide_eq_true h1)).trans ?_
    exact r_ret _
  by_cases h2 : (5 : Int) < (d.2.length : Int)
  · by_cases h3 : (d.2.length : Int) ≤ 12
    · refine ⟨false, ?_⟩
      refine (br_f (decide_eq_false h1)).trans ?_
      refine (br_t (decide_eq_true h2)).trans ?_
      refine (br_t (decide_eq_true h3)).trans ?_
      exact r_ret _
    by_cases h4 : (15 : Int) < (d.2.length : Int)
    · refine ⟨false, ?_⟩
      refine (br_f (decide_eq_false h1)).trans ?_
      refine (br_t (decide_eq_true h2)).trans ?_
      refine (br_f (decide_eq_false h3)).trans ?_
      refine (br_t (decide_eq_true h4)).trans ?_
      exact r_ret _
    refine ⟨b, ?_⟩
    refine (br_f (decide_eq_false h1)).trans ?_
    refine (br_t (decide_eq_true h2)).trans ?_
    refine (br_f (decide_eq_false h3)).trans ?_
    refine (br_f (decide_eq_false h4)).trans ?_
    rw [r_iter]
    exact hr
  · refine ⟨b, ?_⟩
    refine (br_f (decide_eq_false h1)).trans ?_
    refine (br_f (decide_eq_false h2)).trans ?_
    refine (br_f (decide_eq_false (by omega))).trans ?_
    rw [r_iter]
    exact hr
theorem k_copied {d : Dsg} (hl : d.2.length ≤ 1048576) : law02xcopied d = some ((d, ()), ()) := by
  show (T_law02xcopied d).run = _
  unfold T_law02xcopied
  refine (q_of (app_t' (by omega) (by omega))).trans ?_
  exact r_ret _
theorem sum_mem {α : Type} {f : α → Nat} : ∀ {l : List α} {x : α}, x ∈ l → f x ≤ (l.map f).sum
  | y :: r, x, h => by
    simp only [List.map_cons, List.sum_cons]
    rcases List.mem_cons.1 h with rfl | h
    · omega
    · have := sum_mem (f := f) h; omega
theorem k_OpticsDesigns {x : (List UInt8 × List ((List UInt8 × ((Int × (Int × Int)) × (Int × Int)))))} (b0 : bulkT (.pair .str (.list (.pair .str (.pair (.pair (.int .i64) (.pair (.int .i64) (.int .i64))) (.pair (.int .i64) (.int .i64)))))) x ≤ 1048576) (w0 : wfT (.pair .str (.list (.pair .str (.pair (.pair (.int .i64) (.pair (.int .i64) (.int .i64))) (.pair (.int .i64) (.int .i64)))))) x) : law02xOpticsDesigns x = some ((true, ()), ()) := by
  have hb : (x.1.length + 1) + ((x.2.map (bulkT (.pair .str (.pair (.pair (.int .i64) (.pair (.int .i64) (.int .i64))) (.pair (.int .i64) (.int .i64)))))).sum + 1) ≤ 1048576 := b0
  have hn : x.1.length ≤ 1048576 := by omega
  have hll : x.2.length ≤ 1048576 := by
    have := bulk_len (a := .pair .str (.pair (.pair (.int .i64) (.pair (.int .i64) (.int .i64))) (.pair (.int .i64) (.int .i64)))) (xs := x.2) (by decide)
    have e : bulkT (.list (.pair .str (.pair (.pair (.int .i64) (.pair (.int .i64) (.int .i64))) (.pair (.int .i64) (.int .i64))))) x.2 = (x.2.map (bulkT (.pair .str (.pair (.pair (.int .i64) (.pair (.int .i64) (.int .i64))) (.pair (.int .i64) (.int .i64)))))).sum + 1 := rfl
    omega
  have hl : LB x.2 := ⟨hll, fun s hs => by
    have hsum := sum_mem (f := bulkT (.pair .str (.pair (.pair (.int .i64) (.pair (.int .i64) (.int .i64))) (.pair (.int .i64) (.int .i64))))) hs
    have e : bulkT (.pair .str (.pair (.pair (.int .i64) (.pair (.int .i64) (.int .i64))) (.pair (.int .i64) (.int .i64)))) s = (s.1.length + 1) + ((1 + (1 + 1)) + (1 + 1)) := rfl
    have hw : wfT (.pair .str (.pair (.pair (.int .i64) (.pair (.int .i64) (.int .i64))) (.pair (.int .i64) (.int .i64)))) s := w0.2 s hs
    exact ⟨by omega, hw.2.1.2.1, hw.2.1.2.2⟩⟩
  show (T_law02xOpticsDesigns x).run = _
  unfold T_law02xOpticsDesigns
  rw [r_bind, awake_ok, Option.bind_some]
  refine (br_f rfl).trans ?_
  obtain ⟨b, kb⟩ := k_brief (d := x) hll
  refine (r_bs kb).trans ?_
  cases b with
  | false => exact (br_t rfl).trans (r_ret _)
  | true =>
  refine (br_f rfl).trans ?_
  have kc := k_copied (d := x) hll
  have k1 := k_CheckDesign hn hl
  have k2 := k_ElementsOf hn hl
  have k4 := k_rCheckDesign hn hl
  by_cases hc : (chkD x).2 = 0
  · obtain ⟨hnm, h12, hcl⟩ := chkD_len hc
    have ho := chk_all _ _ _ hcl
    have hnl := nameB_len hnm
    have k3 := k_Print hl hc ho
    have k5 := k_rElementsOf (d := x) h12
    have k6 := k_rPrint (d := x) (by omega) h12 ho
    have hfl := lines_flat_len x.2 ho
    have kp := k_Parse (t := prS x) (by unfold prS headT; simp only [List.length_append, List.length_cons, List.length_nil]; omega)
    rw [parS_back hc] at kp
    rw [if_pos hc] at k2
    refine (r_bs kc).trans ?_
    refine (r_bs k1).trans ?_
    refine (r_bs kc).trans ?_
    refine (r_bs k2).trans ?_
    refine (r_bs kc).trans ?_
    refine (r_bs k3).trans ?_
    refine (r_bs k4).trans ?_
    refine (br_f (nd rfl)).trans ?_
    refine (br_f (nd rfl)).trans ?_
    refine (br_f (nd hc)).trans ?_
    refine (r_bs k5).trans ?_
    refine (br_f (nd hc)).trans ?_
    refine (br_f (nd rfl)).trans ?_
    refine (br_f (nd rfl)).trans ?_
    refine (r_bs k6).trans ?_
    refine (br_f (nd rfl)).trans ?_
    rw [r_iter]
    have hel : (elS x.2).length ≤ 24 := by
      have : ∀ (l : List Srf), (elS l).length ≤ 2 * l.length := by
        intro l
        induction l using elS.induct with
        | case1 => simp [elS]
        | case2 s => simp [elS]
        | case3 s t r ih => simp only [elS, List.length_cons] at ih ⊢; omega
      have := this x.2
      omega
    refine iter_eq (fun i st => st = ((i : Int), ())) _ (elS x.2).length (by omega) ?_ rfl
    rintro i st hi rfl
    show (∃ x', (T_law02xOpticsDesigns_l11 x ((elS x.2, ((chkD x).2, ())), ()) ((prS x, ((0 : Int), ())), ()) ((elS x.2, ()), ()) (i : Int)).run = _ ∧ _) ∨ (T_law02xOpticsDesigns_l11 x ((elS x.2, ((chkD x).2, ())), ()) ((prS x, ((0 : Int), ())), ()) ((elS x.2, ()), ()) (i : Int)).run = _
    unfold T_law02xOpticsDesigns_l11
    by_cases h : i < (elS x.2).length
    · left
      refine ⟨_, ?_, h, rfl⟩
      rw [← w1 i (by omega)]
      refine (br_t (decide_eq_true (by show (i : Int) < ((elS x.2).length : Int); omega))).trans ?_
      refine (q_of (inB_t' (by omega) (by show (i : Int) < ((elS x.2).length : Int); omega))).trans ?_
      refine (q_of (inB_t' (by omega) (by show (i : Int) < ((elS x.2).length : Int); omega))).trans ?_
      refine (br_f (by simp)).trans ?_
      exact r_ret _
    · right
      refine (br_f (decide_eq_false (by show ¬ ((i : Int) < ((elS x.2).length : Int)); omega))).trans ?_
      refine (r_bs kp).trans ?_
      refine (br_t rfl).trans ?_
      refine (br_t rfl).trans ?_
      refine (r_bs (k_same (d := x) hll)).trans ?_
      exact r_ret _
  · have k3 := k_Print_err hn hl hc
    rw [if_neg hc] at k2
    refine (r_bs kc).trans ?_
    refine (r_bs k1).trans ?_
    refine (r_bs kc).trans ?_
    refine (r_bs k2).trans ?_
    refine (r_bs kc).trans ?_
    refine (r_bs k3).trans ?_
    refine (r_bs k4).trans ?_
    refine (br_f (nd rfl)).trans ?_
    refine (br_f (nd rfl)).trans ?_
    refine (br_t (nd' hc)).trans ?_
    refine (br_t (decide_eq_true rfl)).trans ?_
    refine (br_t (decide_eq_true rfl)).trans ?_
    refine (br_t rfl).trans ?_
    exact r_ret _
end Go.Ab
