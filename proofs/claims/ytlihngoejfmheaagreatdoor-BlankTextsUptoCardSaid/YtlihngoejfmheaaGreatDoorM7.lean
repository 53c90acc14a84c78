/- The text of a blank, as both write it; two blanks compared. Printed by gen_m7.py. -/
import Derived.Test.YtlihngoejfmheaaGreatDoorM6
namespace Go.Ab
open Go
set_option maxRecDepth 1000000
set_option maxHeartbeats 4000000
set_option linter.unusedVariables false
set_option linter.unusedSimpArgs false

theorem k_Same (a : Gla) (h1 : a.2.2.1.length ≤ 1048576) (h2 : a.2.2.2.length ≤ 1048576) : ref03xSame a a = some ((true, ()), ()) := by
  show (T_ref03xSame a a).run = _
  unfold T_ref03xSame
  refine (br_f (nd rfl)).trans ?_
  refine (br_f (nd rfl)).trans ?_
  refine (br_f (nd rfl)).trans ?_
  refine (br_f (nd rfl)).trans ?_
  rw [r_iter]
  refine iter_eq (fun k y => y = ((k : Int), ())) _ a.2.2.1.length (by omega) ?_ rfl
  rintro k y hk rfl
  dsimp only
  unfold T_ref03xSame_l0
  by_cases e : k < a.2.2.1.length
  · left
    refine ⟨(((k + 1 : Nat) : Int), ()), ?_, e, rfl⟩
    refine (br_t (decide_eq_true (by omega))).trans ?_
    refine (q_of (inB_t' (by omega) (by omega))).trans ?_
    refine (q_of (inB_t' (by omega) (by omega))).trans ?_
    refine (br_f (by simp)).trans ?_
    rw [w1 k (by omega)]
    exact r_ret _
  · right
    refine (br_f (decide_eq_false (by omega))).trans ?_
    rw [r_iter]
    refine iter_eq (fun k y => y = ((k : Int), ())) _ a.2.2.2.length (by omega) ?_ rfl
    rintro k y hk rfl
    dsimp only
    unfold T_ref03xSame_l1
    by_cases e : k < a.2.2.2.length
    · left
      refine ⟨(((k + 1 : Nat) : Int), ()), ?_, e, rfl⟩
      refine (br_t (decide_eq_true (by omega))).trans ?_
      refine (q_of (inB_t' (by omega) (by omega))).trans ?_
      refine (q_of (inB_t' (by omega) (by omega))).trans ?_
      refine (br_f (by simp)).trans ?_
      rw [w1 k (by omega)]
      exact r_ret _
    · right
      refine (br_f (decide_eq_false (by omega))).trans ?_
      exact r_ret _

/-! ### The lines -/
def wordP (cut : Bool) : List UInt8 := if cut = true then wCut else wRing
def wordC (cut : Bool) : List UInt8 := if cut = true then wDish else wCap
def wordW (up : Bool) : List UInt8 := if up = true then wUp else wDown
def tokG (g : Gla) : List (List UInt8) := [wGlass, Lib.itoa g.1, Lib.itoa g.2.1]
def tokP (p : Prt) : List (List UInt8) := [wordP p.2.2.2.2.2, Lib.itoa p.1, Lib.itoa p.2.1, Lib.itoa p.2.2.1, Lib.itoa p.2.2.2.1, Lib.itoa p.2.2.2.2.1]
def tokC (c : Cap) : List (List UInt8) := [wordC c.2.2.2.2, Lib.itoa c.1, Lib.itoa c.2.1, Lib.itoa c.2.2.1, wordW c.2.2.2.1]
def lnT (l : List (List UInt8)) : List UInt8 := Lib.join l [32]
def flS (l : List (List (List UInt8))) : List UInt8 := (l.map fun x => lnT x ++ [10]).flatten
def prL (g : Gla) : List (List (List UInt8)) := tokG g :: (g.2.2.1.map tokP ++ g.2.2.2.map tokC)
def prS (g : Gla) : List UInt8 := flS (prL g)
/-- A number of a text. -/
def Sm (n : Int) : Prop := -10000000 < n ∧ n < 10000000
theorem itoa_len {n : Int} (h : Sm n) : (Lib.itoa n).length ≤ 8 := by
  unfold Sm at h
  unfold Lib.itoa
  split
  · rw [List.length_cons, Lib.decDigits_length]
    have := nDigits_le8 (u := n.natAbs) (by omega)
    omega
  · rw [Lib.decDigits_length]
    have := nDigits_le8 (u := n.toNat) (by omega)
    omega
theorem join_flat (x : List UInt8) (l : List (List UInt8)) (sep : List UInt8) : Lib.join (x :: l) sep = x ++ (l.map (sep ++ ·)).flatten := Lib.join_cons x l sep
theorem k_Join {xs : List (List UInt8)} {sep : List UInt8} (h1 : xs.length ≤ 1048576) (h2 : (Lib.join xs sep).length ≤ 1048576) : strings_Join xs sep = some ((Lib.join xs sep, ()), ()) := by
  unfold strings_Join
  rw [if_pos ⟨by omega, by omega⟩]
theorem flS_snoc (l : List (List (List UInt8))) (x : List (List UInt8)) : flS (l ++ [x]) = flS l ++ (lnT x ++ [10]) := by simp [flS]
theorem sepd_len : ∀ l : List (List UInt8), (∀ t ∈ l, t.length ≤ 12) → ((l.map ([32] ++ ·)).flatten).length ≤ 13 * l.length
  | [], _ => by simp
  | t :: r, h => by
    have := sepd_len r (fun u hu => h u (by simp [hu]))
    have := h t (by simp)
    simp only [List.map_cons, List.flatten_cons, List.length_append, List.length_cons, List.length_nil] at *
    omega
theorem lnT_len {l : List (List UInt8)} (h : ∀ t ∈ l, t.length ≤ 12) (hl : l.length ≤ 8) : (lnT l).length ≤ 120 := by
  cases l with
  | nil => simp [lnT, Lib.join]
  | cons x r =>
    unfold lnT
    rw [join_flat, List.length_append]
    have := sepd_len r (fun u hu => h u (by simp [hu]))
    have := h x (by simp)
    simp only [List.length_cons] at hl
    omega
theorem flS_len : ∀ l : List (List (List UInt8)), (∀ x ∈ l, (lnT x).length ≤ 120) → (flS l).length ≤ 121 * l.length
  | [], _ => by simp [flS]
  | x :: r, h => by
    have := flS_len r (fun u hu => h u (by simp [hu]))
    have := h x (by simp)
    unfold flS at *
    simp only [List.map_cons, List.flatten_cons, List.length_append, List.length_cons, List.length_nil] at *
    omega
structure SmP (p : Prt) : Prop where
  a : Sm p.1
  b : Sm p.2.1
  c : Sm p.2.2.1
  d : Sm p.2.2.2.1
  e : Sm p.2.2.2.2.1
structure SmC (p : Cap) : Prop where
  a : Sm p.1
  b : Sm p.2.1
  c : Sm p.2.2.1
theorem wordP_len (b : Bool) : (wordP b).length ≤ 4 := by cases b <;> decide
theorem wordC_len (b : Bool) : (wordC b).length ≤ 4 := by cases b <;> decide
theorem wordW_len (b : Bool) : (wordW b).length ≤ 4 := by cases b <;> decide
theorem tokP_len {p : Prt} (h : SmP p) : (lnT (tokP p)).length ≤ 120 := lnT_len (fun t ht => by
  have := wordP_len p.2.2.2.2.2; have := itoa_len h.a; have := itoa_len h.b; have := itoa_len h.c; have := itoa_len h.d; have := itoa_len h.e
  simp only [tokP, List.mem_cons, List.not_mem_nil, or_false] at ht
  rcases ht with rfl | rfl | rfl | rfl | rfl | rfl <;> omega) (by simp [tokP])
theorem tokC_len {p : Cap} (h : SmC p) : (lnT (tokC p)).length ≤ 120 := lnT_len (fun t ht => by
  have := wordC_len p.2.2.2.2; have := wordW_len p.2.2.2.1; have := itoa_len h.a; have := itoa_len h.b; have := itoa_len h.c
  simp only [tokC, List.mem_cons, List.not_mem_nil, or_false] at ht
  rcases ht with rfl | rfl | rfl | rfl | rfl <;> omega) (by simp [tokC])
theorem tokG_len {g : Gla} (h1 : Sm g.1) (h2 : Sm g.2.1) : (lnT (tokG g)).length ≤ 120 := lnT_len (fun t ht => by
  have := itoa_len h1; have := itoa_len h2; have : wGlass.length = 5 := rfl
  simp only [tokG, List.mem_cons, List.not_mem_nil, or_false] at ht
  rcases ht with rfl | rfl | rfl <;> omega) (by simp [tokG])
/-- A blank whose text is short. -/
structure SmG (g : Gla) : Prop where
  d : Sm g.1
  t : Sm g.2.1
  np : g.2.2.1.length ≤ 40
  nc : g.2.2.2.length ≤ 4
  pt : ∀ p ∈ g.2.2.1, SmP p
  cp : ∀ c ∈ g.2.2.2, SmC c
theorem smG {g : Gla} (h : glE g = 0) : SmG g := by
  obtain ⟨G, _⟩ := glE_0 h
  refine ⟨⟨by have := G.de; omega, by have := G.de; omega⟩, ⟨by have := G.th; omega, by have := G.th; omega⟩, G.np, G.nc, fun p hp => ?_, fun c hc => ?_⟩
  · obtain ⟨i, hi, rfl⟩ := List.getElem_of_mem hp
    have := G.pt i hi
    rw [gi_nat hi] at this
    have := ptE_0 this
    have := G.th
    constructor <;> (unfold Sm; omega)
  · obtain ⟨i, hi, rfl⟩ := List.getElem_of_mem hc
    have := G.cp i hi
    rw [gi_nat hi] at this
    have := cpE_0 this
    have := G.th
    constructor <;> (unfold Sm; omega)

theorem k_lineOf {word : List UInt8} {ns : List Int} {more : List (List UInt8)} (hw : word.length ≤ 12) (hn : ns.length ≤ 5) (hb : ∀ n ∈ ns, Sm n) (hm : more.length ≤ 1) (hmw : ∀ t ∈ more, t.length ≤ 12) :
    blank_lineOf word ns more = some ((lnT (word :: (ns.map Lib.itoa ++ more)) ++ [10], ()), ()) := by
  show (T_blank_lineOf word ns more).run = _
  unfold T_blank_lineOf
  refine (q_of (decide_eq_true rfl)).trans ?_
  rw [r_iter]
  refine iter_eq (fun k y => y = (word :: (ns.take k).map Lib.itoa, (k : Int), ())) _ ns.length (by omega) ?_ rfl
  rintro k y hk rfl
  dsimp only
  unfold T_blank_lineOf_l0
  by_cases e : k < ns.length
  · left
    have hs := hb _ (List.getElem_mem e)
    have eg : gi ns (k : Int) = ns[k] := gi_nat e
    have es : word :: (ns.take (k + 1)).map Lib.itoa = (word :: (ns.take k).map Lib.itoa) ++ [Lib.itoa ns[k]] := by
      rw [List.take_succ_eq_append_getElem e, List.map_append]; rfl
    have hlen : (word :: (ns.take k).map Lib.itoa).length ≤ 7 := by simp; omega
    refine ⟨(word :: (ns.take (k + 1)).map Lib.itoa, ((k + 1 : Nat) : Int), ()), ?_, e, rfl⟩
    refine (br_t (decide_eq_true (by omega))).trans ?_
    refine (q_of (inB_t' (by omega) (by omega))).trans ?_
    refine (r_bs (k_Itoa (n := gi ns (k : Int)) (by rw [eg]; unfold Sm at hs; omega))).trans ?_
    refine (q_of (decide_eq_true rfl)).trans ?_
    refine (q_of (app_t' (by rw [List.length_singleton]; omega) (by rw [List.length_singleton]; omega))).trans ?_
    refine (q_of (decide_eq_true (by simp))).trans ?_
    rw [w1 k (by omega), eg, es]
    exact r_ret _
  · right
    have e1 : k = ns.length := by omega
    subst e1
    rw [List.take_length]
    have hj : (Lib.join (word :: (ns.map Lib.itoa ++ more)) [32]).length ≤ 120 := lnT_len (fun t ht => by
      rcases List.mem_cons.1 ht with rfl | ht
      · omega
      rcases List.mem_append.1 ht with ht | ht
      · obtain ⟨n, h1, rfl⟩ := List.mem_map.1 ht
        have := itoa_len (hb n h1); omega
      · have := hmw t ht; omega) (by simp; omega)
    refine (br_f (decide_eq_false (by omega))).trans ?_
    refine (q_of (decide_eq_true rfl)).trans ?_
    refine (q_of (app_t' (by simp; omega) (by simp; omega))).trans ?_
    refine (r_bs (k_Join (xs := word :: (ns.map Lib.itoa ++ more)) (sep := [32]) (by simp; omega) (by omega))).trans ?_
    refine (q_of (str_t' (by dsimp only; omega))).trans ?_
    exact r_ret _
theorem k_either (b : Bool) (x y : List UInt8) : blank_either b x y = some (((if b = true then x else y), ()), ()) := by
  show (T_blank_either b x y).run = _
  unfold T_blank_either
  cases b
  · exact (br_f rfl).trans (r_ret _)
  · exact (br_t rfl).trans (r_ret _)

theorem map_take_snoc {α β : Type} (f : α → β) {l : List α} {k : Nat} (h : k < l.length) : (l.take (k + 1)).map f = (l.take k).map f ++ [f l[k]] := by
  rw [List.take_succ_eq_append_getElem h, List.map_append]; rfl
def accP (g : Gla) (k : Nat) : List UInt8 := flS (tokG g :: (g.2.2.1.take k).map tokP)
def accC (g : Gla) (k : Nat) : List UInt8 := flS (tokG g :: (g.2.2.1.map tokP ++ (g.2.2.2.take k).map tokC))
theorem accP_0 (g : Gla) : accP g 0 = lnT (tokG g) ++ [10] := by simp [accP, flS]
theorem accP_s {g : Gla} {k : Nat} (h : k < g.2.2.1.length) : accP g (k + 1) = accP g k ++ (lnT (tokP g.2.2.1[k]) ++ [10]) := by
  unfold accP
  rw [map_take_snoc tokP h, ← flS_snoc]; rfl
theorem accP_e (g : Gla) : accP g g.2.2.1.length = accC g 0 := by simp [accP, accC]
theorem accC_s {g : Gla} {k : Nat} (h : k < g.2.2.2.length) : accC g (k + 1) = accC g k ++ (lnT (tokC g.2.2.2[k]) ++ [10]) := by
  unfold accC
  rw [map_take_snoc tokC h, ← flS_snoc, ← List.append_assoc]; rfl
theorem accC_e (g : Gla) : accC g g.2.2.2.length = prS g := by simp [accC, prS, prL]
theorem prL_len {g : Gla} (h : SmG g) : ∀ x ∈ prL g, (lnT x).length ≤ 120 := by
  intro x hx
  unfold prL at hx
  rcases List.mem_cons.1 hx with rfl | hx
  · exact tokG_len h.d h.t
  rcases List.mem_append.1 hx with hx | hx
  · obtain ⟨p, hp, rfl⟩ := List.mem_map.1 hx; exact tokP_len (h.pt p hp)
  · obtain ⟨p, hp, rfl⟩ := List.mem_map.1 hx; exact tokC_len (h.cp p hp)
theorem prS_len {g : Gla} (h : SmG g) : (prS g).length ≤ 5445 := by
  have := flS_len (prL g) (prL_len h)
  have h2 : (prL g).length ≤ 45 := by have := h.np; have := h.nc; simp [prL]; omega
  unfold prS; omega
theorem accP_len {g : Gla} (h : SmG g) (k : Nat) : (accP g k).length ≤ 5445 := by
  have := flS_len (tokG g :: (g.2.2.1.take k).map tokP) (fun x hx => prL_len h x (by
    unfold prL
    rcases List.mem_cons.1 hx with rfl | hx
    · simp
    · obtain ⟨p, hp, rfl⟩ := List.mem_map.1 hx
      exact List.mem_cons_of_mem _ (List.mem_append_left _ (List.mem_map.2 ⟨p, List.mem_of_mem_take hp, rfl⟩))))
  have := h.np
  have h2 : (tokG g :: (g.2.2.1.take k).map tokP).length ≤ 45 := by simp; omega
  unfold accP; omega
theorem accC_len {g : Gla} (h : SmG g) (k : Nat) : (accC g k).length ≤ 5445 := by
  have := flS_len (tokG g :: (g.2.2.1.map tokP ++ (g.2.2.2.take k).map tokC)) (fun x hx => prL_len h x (by
    unfold prL
    rcases List.mem_cons.1 hx with rfl | hx
    · simp
    rcases List.mem_append.1 hx with hx | hx
    · exact List.mem_cons_of_mem _ (List.mem_append_left _ hx)
    · obtain ⟨p, hp, rfl⟩ := List.mem_map.1 hx
      exact List.mem_cons_of_mem _ (List.mem_append_right _ (List.mem_map.2 ⟨p, List.mem_of_mem_take hp, rfl⟩))))
  have := h.np
  have := h.nc
  have h2 : (tokG g :: (g.2.2.1.map tokP ++ (g.2.2.2.take k).map tokC)).length ≤ 45 := by simp; omega
  unfold accC; omega

theorem k_Print_err {g : Gla} (h : glE g ≠ 0) : blank_Print g = some (([], (glE g, ())), ()) := by
  show (T_blank_Print g).run = _
  unfold T_blank_Print
  refine (r_bs (k_CheckGlass g)).trans ?_
  refine (br_t (nd' h)).trans ?_
  exact r_ret _
theorem k_Print {g : Gla} (h : glE g = 0) : blank_Print g = some ((prS g, ((0 : Int), ())), ()) := by
  have S := smG h
  have hnp := S.np
  have hnc := S.nc
  show (T_blank_Print g).run = _
  unfold T_blank_Print
  refine (r_bs (k_CheckGlass g)).trans ?_
  refine (br_f (nd h)).trans ?_
  refine (r_bs (k_lineOf (word := wGlass) (ns := [g.1, g.2.1]) (more := []) (by decide) (by simp) (by intro n hn; simp at hn; rcases hn with rfl | rfl; exact S.d; exact S.t) (by simp) (by simp))).trans ?_
  rw [r_iter]
  refine iter_eq (fun k y => y = (accP g k, (k : Int), ())) _ g.2.2.1.length (by omega) ?_ ?_
  · rintro k y hk rfl
    dsimp only
    unfold T_blank_Print_l2
    by_cases e : k < g.2.2.1.length
    · left
      have eg : gi g.2.2.1 (k : Int) = g.2.2.1[k] := gi_nat e
      have hp := S.pt _ (List.getElem_mem e)
      refine ⟨(accP g (k + 1), ((k + 1 : Nat) : Int), ()), ?_, e, rfl⟩
      refine (br_t (decide_eq_true (by omega))).trans ?_
      refine (q_of (inB_t' (by omega) (by omega))).trans ?_
      rw [eg]
      refine (r_bs (k_either _ _ _)).trans ?_
      have hl := k_lineOf (word := wordP g.2.2.1[k].2.2.2.2.2) (ns := [g.2.2.1[k].1, g.2.2.1[k].2.1, g.2.2.1[k].2.2.1, g.2.2.1[k].2.2.2.1, g.2.2.1[k].2.2.2.2.1]) (more := []) (by have := wordP_len g.2.2.1[k].2.2.2.2.2; omega) (by simp) (by intro n hn; simp at hn; rcases hn with rfl | rfl | rfl | rfl | rfl; exact hp.a; exact hp.b; exact hp.c; exact hp.d; exact hp.e) (by simp) (by simp)
      refine (r_bs hl).trans ?_
      have ha := accP_len S k
      have hb := tokP_len hp
      refine (q_of (str_t' (by show (accP g k).length + (lnT (tokP g.2.2.1[k]) ++ [10]).length ≤ _; rw [List.length_append, List.length_singleton]; omega))).trans ?_
      rw [w1 k (by omega), accP_s e]
      exact r_ret _
    · right
      have e1 : k = g.2.2.1.length := by omega
      subst e1
      refine (br_f (decide_eq_false (by omega))).trans ?_
      rw [r_iter, accP_e]
      refine iter_eq (fun k y => y = (accC g k, (k : Int), ())) _ g.2.2.2.length (by omega) ?_ rfl
      rintro k y hk rfl
      dsimp only
      unfold T_blank_Print_l5
      by_cases e : k < g.2.2.2.length
      · left
        have eg : gi g.2.2.2 (k : Int) = g.2.2.2[k] := gi_nat e
        have hp := S.cp _ (List.getElem_mem e)
        refine ⟨(accC g (k + 1), ((k + 1 : Nat) : Int), ()), ?_, e, rfl⟩
        refine (br_t (decide_eq_true (by omega))).trans ?_
        refine (q_of (inB_t' (by omega) (by omega))).trans ?_
        rw [eg]
        refine (r_bs (k_either _ _ _)).trans ?_
        refine (r_bs (k_either _ _ _)).trans ?_
        have hl := k_lineOf (word := wordC g.2.2.2[k].2.2.2.2) (ns := [g.2.2.2[k].1, g.2.2.2[k].2.1, g.2.2.2[k].2.2.1]) (more := [wordW g.2.2.2[k].2.2.2.1]) (by have := wordC_len g.2.2.2[k].2.2.2.2; omega) (by simp) (by intro n hn; simp at hn; rcases hn with rfl | rfl | rfl; exact hp.a; exact hp.b; exact hp.c) (by simp) (by intro t ht; simp at ht; subst ht; have := wordW_len g.2.2.2[k].2.2.2.1; omega)
        refine (r_bs hl).trans ?_
        have ha := accC_len S k
        have hb := tokC_len hp
        refine (q_of (str_t' (by show (accC g k).length + (lnT (tokC g.2.2.2[k]) ++ [10]).length ≤ _; rw [List.length_append, List.length_singleton]; omega))).trans ?_
        rw [w1 k (by omega), accC_s e]
        exact r_ret _
      · right
        have e1 : k = g.2.2.2.length := by omega
        subst e1
        refine (br_f (decide_eq_false (by omega))).trans ?_
        rw [accC_e]
        exact r_ret _
  · rw [accP_0]; rfl

theorem lnG_eq (g : Gla) : lnT (tokG g) ++ [10] = [103, 108, 97, 115, 115, 32] ++ Lib.itoa g.1 ++ [32] ++ Lib.itoa g.2.1 ++ [10] := by
  unfold lnT tokG wGlass
  rw [join_flat]
  simp
theorem lnP_eq (a : List UInt8) {p : Prt} {w : List UInt8} (h : wordP p.2.2.2.2.2 = w) : a ++ (lnT (tokP p) ++ [10]) = a ++ w ++ [32] ++ Lib.itoa p.1 ++ [32] ++ Lib.itoa p.2.1 ++ [32] ++ Lib.itoa p.2.2.1 ++ [32] ++ Lib.itoa p.2.2.2.1 ++ [32] ++ Lib.itoa p.2.2.2.2.1 ++ [10] := by
  unfold lnT tokP
  rw [join_flat, h]
  simp
theorem lnC_eq (a : List UInt8) {p : Cap} {w y : List UInt8} (h : wordC p.2.2.2.2 = w) (h2 : wordW p.2.2.2.1 = y) : a ++ (lnT (tokC p) ++ [10]) = a ++ w ++ [32] ++ Lib.itoa p.1 ++ [32] ++ Lib.itoa p.2.1 ++ [32] ++ Lib.itoa p.2.2.1 ++ [32] ++ y ++ [10] := by
  unfold lnT tokC
  rw [join_flat, h, h2]
  simp
theorem k_rPrint {g : Gla} (S : SmG g) : ref03xPrint g = some ((prS g, ()), ()) := by
  have hnp := S.np
  have hnc := S.nc
  show (T_ref03xPrint g).run = _
  unfold T_ref03xPrint
  have b1 := itoa_len S.d
  have b2 := itoa_len S.t
  have s1 := S.d
  have s2 := S.t
  refine (r_bs (k_Decimal (n := g.1) (by unfold Sm at *; omega) (by unfold Sm at *; omega))).trans ?_
  refine (q_of (str_t' (by first | omega | (simp only [List.length_append, List.length_cons, List.length_nil]; omega)))).trans ?_
  refine (q_of (str_t' (by first | omega | (simp only [List.length_append, List.length_cons, List.length_nil]; omega)))).trans ?_
  refine (r_bs (k_Decimal (n := g.2.1) (by unfold Sm at *; omega) (by unfold Sm at *; omega))).trans ?_
  refine (q_of (str_t' (by first | omega | (simp only [List.length_append, List.length_cons, List.length_nil]; omega)))).trans ?_
  refine (q_of (str_t' (by first | omega | (simp only [List.length_append, List.length_cons, List.length_nil]; omega)))).trans ?_
  rw [r_iter]
  refine iter_eq (fun k y => y = (accP g k, (k : Int), ())) _ g.2.2.1.length (by omega) ?_ (by rw [accP_0, lnG_eq]; rfl)
  rintro k y hk rfl
  dsimp only
  unfold T_ref03xPrint_l2
  by_cases e : k < g.2.2.1.length
  · left
    have eg : gi g.2.2.1 (k : Int) = g.2.2.1[k] := gi_nat e
    have hp := S.pt _ (List.getElem_mem e)
    refine ⟨(accP g (k + 1), ((k + 1 : Nat) : Int), ()), ?_, e, rfl⟩
    refine (br_t (decide_eq_true (by omega))).trans ?_
    refine (q_of (inB_t' (by omega) (by omega))).trans ?_
    rw [eg, accP_s e]
    have ha := accP_len S k
    generalize accP g k = acc at ha ⊢
    generalize g.2.2.1[k] = p at hp ⊢
    have c1 := itoa_len hp.a
    have c2 := itoa_len hp.b
    have c3 := itoa_len hp.c
    have c4 := itoa_len hp.d
    have c5 := itoa_len hp.e
    have d1 := hp.a
    have d2 := hp.b
    have d3 := hp.c
    have d4 := hp.d
    have d5 := hp.e
    by_cases hc : p.2.2.2.2.2 = true
    · refine (br_t hc).trans ?_
      rw [lnP_eq acc (w := wCut) (by unfold wordP; rw [if_pos hc])]
      refine (q_of (str_t' (by first | omega | (simp only [List.length_append, List.length_cons, List.length_nil]; omega)))).trans ?_
      refine (q_of (str_t' (by first | omega | (simp only [List.length_append, List.length_cons, List.length_nil]; omega)))).trans ?_
      refine (r_bs (k_Decimal (n := p.1) (by unfold Sm at *; omega) (by unfold Sm at *; omega))).trans ?_
      refine (q_of (str_t' (by first | omega | (simp only [List.length_append, List.length_cons, List.length_nil]; omega)))).trans ?_
      refine (q_of (str_t' (by first | omega | (simp only [List.length_append, List.length_cons, List.length_nil]; omega)))).trans ?_
      refine (r_bs (k_Decimal (n := p.2.1) (by unfold Sm at *; omega) (by unfold Sm at *; omega))).trans ?_
      refine (q_of (str_t' (by first | omega | (simp only [List.length_append, List.length_cons, List.length_nil]; omega)))).trans ?_
      refine (q_of (str_t' (by first | omega | (simp only [List.length_append, List.length_cons, List.length_nil]; omega)))).trans ?_
      refine (r_bs (k_Decimal (n := p.2.2.1) (by unfold Sm at *; omega) (by unfold Sm at *; omega))).trans ?_
      refine (q_of (str_t' (by first | omega | (simp only [List.length_append, List.length_cons, List.length_nil]; omega)))).trans ?_
      refine (q_of (str_t' (by first | omega | (simp only [List.length_append, List.length_cons, List.length_nil]; omega)))).trans ?_
      refine (r_bs (k_Decimal (n := p.2.2.2.1) (by unfold Sm at *; omega) (by unfold Sm at *; omega))).trans ?_
      refine (q_of (str_t' (by first | omega | (simp only [List.length_append, List.length_cons, List.length_nil]; omega)))).trans ?_
      refine (q_of (str_t' (by first | omega | (simp only [List.length_append, List.length_cons, List.length_nil]; omega)))).trans ?_
      refine (r_bs (k_Decimal (n := p.2.2.2.2.1) (by unfold Sm at *; omega) (by unfold Sm at *; omega))).trans ?_
      refine (q_of (str_t' (by first | omega | (simp only [List.length_append, List.length_cons, List.length_nil]; omega)))).trans ?_
      refine (q_of (str_t' (by first | omega | (simp only [List.length_append, List.length_cons, List.length_nil]; omega)))).trans ?_
      rw [w1 k (by omega)]
      exact r_ret _
    · refine (br_f (by simpa using hc)).trans ?_
      rw [lnP_eq acc (w := wRing) (by unfold wordP; rw [if_neg hc])]
      refine (q_of (str_t' (by first | omega | (simp only [List.length_append, List.length_cons, List.length_nil]; omega)))).trans ?_
      refine (q_of (str_t' (by first | omega | (simp only [List.length_append, List.length_cons, List.length_nil]; omega)))).trans ?_
      refine (r_bs (k_Decimal (n := p.1) (by unfold Sm at *; omega) (by unfold Sm at *; omega))).trans ?_
      refine (q_of (str_t' (by first | omega | (simp only [List.length_append, List.length_cons, List.length_nil]; omega)))).trans ?_
      refine (q_of (str_t' (by first | omega | (simp only [List.length_append, List.length_cons, List.length_nil]; omega)))).trans ?_
      refine (r_bs (k_Decimal (n := p.2.1) (by unfold Sm at *; omega) (by unfold Sm at *; omega))).trans ?_
      refine (q_of (str_t' (by first | omega | (simp only [List.length_append, List.length_cons, List.length_nil]; omega)))).trans ?_
      refine (q_of (str_t' (by first | omega | (simp only [List.length_append, List.length_cons, List.length_nil]; omega)))).trans ?_
      refine (r_bs (k_Decimal (n := p.2.2.1) (by unfold Sm at *; omega) (by unfold Sm at *; omega))).trans ?_
      refine (q_of (str_t' (by first | omega | (simp only [List.length_append, List.length_cons, List.length_nil]; omega)))).trans ?_
      refine (q_of (str_t' (by first | omega | (simp only [List.length_append, List.length_cons, List.length_nil]; omega)))).trans ?_
      refine (r_bs (k_Decimal (n := p.2.2.2.1) (by unfold Sm at *; omega) (by unfold Sm at *; omega))).trans ?_
      refine (q_of (str_t' (by first | omega | (simp only [List.length_append, List.length_cons, List.length_nil]; omega)))).trans ?_
      refine (q_of (str_t' (by first | omega | (simp only [List.length_append, List.length_cons, List.length_nil]; omega)))).trans ?_
      refine (r_bs (k_Decimal (n := p.2.2.2.2.1) (by unfold Sm at *; omega) (by unfold Sm at *; omega))).trans ?_
      refine (q_of (str_t' (by first | omega | (simp only [List.length_append, List.length_cons, List.length_nil]; omega)))).trans ?_
      refine (q_of (str_t' (by first | omega | (simp only [List.length_append, List.length_cons, List.length_nil]; omega)))).trans ?_
      rw [w1 k (by omega)]
      exact r_ret _
  · right
    have e1 : k = g.2.2.1.length := by omega
    subst e1
    refine (br_f (decide_eq_false (by omega))).trans ?_
    rw [r_iter, accP_e]
    refine iter_eq (fun k y => y = (accC g k, (k : Int), ())) _ g.2.2.2.length (by omega) ?_ rfl
    rintro k y hk rfl
    dsimp only
    unfold T_ref03xPrint_l13
    by_cases e : k < g.2.2.2.length
    · left
      have eg : gi g.2.2.2 (k : Int) = g.2.2.2[k] := gi_nat e
      have hp := S.cp _ (List.getElem_mem e)
      refine ⟨(accC g (k + 1), ((k + 1 : Nat) : Int), ()), ?_, e, rfl⟩
      refine (br_t (decide_eq_true (by omega))).trans ?_
      refine (q_of (inB_t' (by omega) (by omega))).trans ?_
      rw [eg, accC_s e]
      have ha := accC_len S k
      generalize accC g k = acc at ha ⊢
      generalize g.2.2.2[k] = p at hp ⊢
      have c1 := itoa_len hp.a
      have c2 := itoa_len hp.b
      have c3 := itoa_len hp.c
      have d1 := hp.a
      have d2 := hp.b
      have d3 := hp.c
      by_cases hc : p.2.2.2.2 = true
      · refine (br_t hc).trans ?_
        by_cases hu : p.2.2.2.1 = true
        · refine (br_t hu).trans ?_
          rw [lnC_eq acc (w := wDish) (y := wUp) (by unfold wordC; rw [if_pos hc]) (by unfold wordW; rw [if_pos hu])]
          refine (q_of (str_t' (by first | omega | (simp only [List.length_append, List.length_cons, List.length_nil]; omega)))).trans ?_
          refine (q_of (str_t' (by first | omega | (simp only [List.length_append, List.length_cons, List.length_nil]; omega)))).trans ?_
          refine (r_bs (k_Decimal (n := p.1) (by unfold Sm at *; omega) (by unfold Sm at *; omega))).trans ?_
          refine (q_of (str_t' (by first | omega | (simp only [List.length_append, List.length_cons, List.length_nil]; omega)))).trans ?_
          refine (q_of (str_t' (by first | omega | (simp only [List.length_append, List.length_cons, List.length_nil]; omega)))).trans ?_
          refine (r_bs (k_Decimal (n := p.2.1) (by unfold Sm at *; omega) (by unfold Sm at *; omega))).trans ?_
          refine (q_of (str_t' (by first | omega | (simp only [List.length_append, List.length_cons, List.length_nil]; omega)))).trans ?_
          refine (q_of (str_t' (by first | omega | (simp only [List.length_append, List.length_cons, List.length_nil]; omega)))).trans ?_
          refine (r_bs (k_Decimal (n := p.2.2.1) (by unfold Sm at *; omega) (by unfold Sm at *; omega))).trans ?_
          refine (q_of (str_t' (by first | omega | (simp only [List.length_append, List.length_cons, List.length_nil]; omega)))).trans ?_
          refine (q_of (str_t' (by first | omega | (simp only [List.length_append, List.length_cons, List.length_nil]; omega)))).trans ?_
          refine (q_of (str_t' (by first | omega | (simp only [List.length_append, List.length_cons, List.length_nil]; omega)))).trans ?_
          refine (q_of (str_t' (by first | omega | (simp only [List.length_append, List.length_cons, List.length_nil]; omega)))).trans ?_
          rw [w1 k (by omega)]
          exact r_ret _
        · refine (br_f (by simpa using hu)).trans ?_
          rw [lnC_eq acc (w := wDish) (y := wDown) (by unfold wordC; rw [if_pos hc]) (by unfold wordW; rw [if_neg hu])]
          refine (q_of (str_t' (by first | omega | (simp only [List.length_append, List.length_cons, List.length_nil]; omega)))).trans ?_
          refine (q_of (str_t' (by first | omega | (simp only [List.length_append, List.length_cons, List.length_nil]; omega)))).trans ?_
          refine (r_bs (k_Decimal (n := p.1) (by unfold Sm at *; omega) (by unfold Sm at *; omega))).trans ?_
          refine (q_of (str_t' (by first | omega | (simp only [List.length_append, List.length_cons, List.length_nil]; omega)))).trans ?_
          refine (q_of (str_t' (by first | omega | (simp only [List.length_append, List.length_cons, List.length_nil]; omega)))).trans ?_
          refine (r_bs (k_Decimal (n := p.2.1) (by unfold Sm at *; omega) (by unfold Sm at *; omega))).trans ?_
          refine (q_of (str_t' (by first | omega | (simp only [List.length_append, List.length_cons, List.length_nil]; omega)))).trans ?_
          refine (q_of (str_t' (by first | omega | (simp only [List.length_append, List.length_cons, List.length_nil]; omega)))).trans ?_
          refine (r_bs (k_Decimal (n := p.2.2.1) (by unfold Sm at *; omega) (by unfold Sm at *; omega))).trans ?_
          refine (q_of (str_t' (by first | omega | (simp only [List.length_append, List.length_cons, List.length_nil]; omega)))).trans ?_
          refine (q_of (str_t' (by first | omega | (simp only [List.length_append, List.length_cons, List.length_nil]; omega)))).trans ?_
          refine (q_of (str_t' (by first | omega | (simp only [List.length_append, List.length_cons, List.length_nil]; omega)))).trans ?_
          refine (q_of (str_t' (by first | omega | (simp only [List.length_append, List.length_cons, List.length_nil]; omega)))).trans ?_
          rw [w1 k (by omega)]
          exact r_ret _
      · refine (br_f (by simpa using hc)).trans ?_
        by_cases hu : p.2.2.2.1 = true
        · refine (br_t hu).trans ?_
          rw [lnC_eq acc (w := wCap) (y := wUp) (by unfold wordC; rw [if_neg hc]) (by unfold wordW; rw [if_pos hu])]
          refine (q_of (str_t' (by first | omega | (simp only [List.length_append, List.length_cons, List.length_nil]; omega)))).trans ?_
          refine (q_of (str_t' (by first | omega | (simp only [List.length_append, List.length_cons, List.length_nil]; omega)))).trans ?_
          refine (r_bs (k_Decimal (n := p.1) (by unfold Sm at *; omega) (by unfold Sm at *; omega))).trans ?_
          refine (q_of (str_t' (by first | omega | (simp only [List.length_append, List.length_cons, List.length_nil]; omega)))).trans ?_
          refine (q_of (str_t' (by first | omega | (simp only [List.length_append, List.length_cons, List.length_nil]; omega)))).trans ?_
          refine (r_bs (k_Decimal (n := p.2.1) (by unfold Sm at *; omega) (by unfold Sm at *; omega))).trans ?_
          refine (q_of (str_t' (by first | omega | (simp only [List.length_append, List.length_cons, List.length_nil]; omega)))).trans ?_
          refine (q_of (str_t' (by first | omega | (simp only [List.length_append, List.length_cons, List.length_nil]; omega)))).trans ?_
          refine (r_bs (k_Decimal (n := p.2.2.1) (by unfold Sm at *; omega) (by unfold Sm at *; omega))).trans ?_
          refine (q_of (str_t' (by first | omega | (simp only [List.length_append, List.length_cons, List.length_nil]; omega)))).trans ?_
          refine (q_of (str_t' (by first | omega | (simp only [List.length_append, List.length_cons, List.length_nil]; omega)))).trans ?_
          refine (q_of (str_t' (by first | omega | (simp only [List.length_append, List.length_cons, List.length_nil]; omega)))).trans ?_
          refine (q_of (str_t' (by first | omega | (simp only [List.length_append, List.length_cons, List.length_nil]; omega)))).trans ?_
          rw [w1 k (by omega)]
          exact r_ret _
        · refine (br_f (by simpa using hu)).trans ?_
          rw [lnC_eq acc (w := wCap) (y := wDown) (by unfold wordC; rw [if_neg hc]) (by unfold wordW; rw [if_neg hu])]
          refine (q_of (str_t' (by first | omega | (simp only [List.length_append, List.length_cons, List.length_nil]; omega)))).trans ?_
          refine (q_of (str_t' (by first | omega | (simp only [List.length_append, List.length_cons, List.length_nil]; omega)))).trans ?_
          refine (r_bs (k_Decimal (n := p.1) (by unfold Sm at *; omega) (by unfold Sm at *; omega))).trans ?_
          refine (q_of (str_t' (by first | omega | (simp only [List.length_append, List.length_cons, List.length_nil]; omega)))).trans ?_
          refine (q_of (str_t' (by first | omega | (simp only [List.length_append, List.length_cons, List.length_nil]; omega)))).trans ?_
          refine (r_bs (k_Decimal (n := p.2.1) (by unfold Sm at *; omega) (by unfold Sm at *; omega))).trans ?_
          refine (q_of (str_t' (by first | omega | (simp only [List.length_append, List.length_cons, List.length_nil]; omega)))).trans ?_
          refine (q_of (str_t' (by first | omega | (simp only [List.length_append, List.length_cons, List.length_nil]; omega)))).trans ?_
          refine (r_bs (k_Decimal (n := p.2.2.1) (by unfold Sm at *; omega) (by unfold Sm at *; omega))).trans ?_
          refine (q_of (str_t' (by first | omega | (simp only [List.length_append, List.length_cons, List.length_nil]; omega)))).trans ?_
          refine (q_of (str_t' (by first | omega | (simp only [List.length_append, List.length_cons, List.length_nil]; omega)))).trans ?_
          refine (q_of (str_t' (by first | omega | (simp only [List.length_append, List.length_cons, List.length_nil]; omega)))).trans ?_
          refine (q_of (str_t' (by first | omega | (simp only [List.length_append, List.length_cons, List.length_nil]; omega)))).trans ?_
          rw [w1 k (by omega)]
          exact r_ret _
    · right
      have e1 : k = g.2.2.2.length := by omega
      subst e1
      refine (br_f (decide_eq_false (by omega))).trans ?_
      rw [accC_e]
      exact r_ret _
end Go.Ab
