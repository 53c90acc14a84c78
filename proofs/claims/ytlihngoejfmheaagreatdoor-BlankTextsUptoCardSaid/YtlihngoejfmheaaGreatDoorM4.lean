/- One line of a blank's text, as the program and the reference read it. -/
import Derived.Test.YtlihngoejfmheaaGreatDoorM3
namespace Go.Ab
open Go
set_option maxRecDepth 1000000
set_option maxHeartbeats 4000000
set_option linter.unusedVariables false
set_option linter.unusedSimpArgs false

def wGlass : List UInt8 := [103, 108, 97, 115, 115]
def wRing : List UInt8 := [114, 105, 110, 103]
def wCut : List UInt8 := [99, 117, 116]
def wCap : List UInt8 := [99, 97, 112]
def wDish : List UInt8 := [100, 105, 115, 104]
def wUp : List UInt8 := [117, 112]
def wDown : List UInt8 := [100, 111, 119, 110]
def lnGlass (g : Gla) (rest : List (List UInt8)) : Option Gla := match numsS rest with
  | some [a, b] => some (a, b, g.2.2.1, g.2.2.2)
  | _ => none
def lnPart (g : Gla) (cut : Bool) (rest : List (List UInt8)) : Option Gla := match numsS rest with
  | some [a, b, c, d, e] => if g.2.2.2.length = 0 then some (g.1, g.2.1, g.2.2.1 ++ [(a, b, c, d, e, cut)], g.2.2.2) else none
  | _ => none
def lnCap (g : Gla) (cut : Bool) (rest : List (List UInt8)) : Option Gla := match rest with
  | [x, y, z, way] => if way = wUp ∨ way = wDown then (match numsS [x, y, z] with
    | some [a, b, c] => some (g.1, g.2.1, g.2.2.1, g.2.2.2 ++ [(a, b, c, decide (way = wUp), cut)])
    | _ => none) else none
  | _ => none
def lineW (first : Bool) (g : Gla) (w0 : List UInt8) (rest : List (List UInt8)) : Option Gla :=
  if w0 = wGlass then (if first = true then lnGlass g rest else none)
  else if first = true then none
  else if w0 = wRing ∨ w0 = wCut then lnPart g (decide (w0 = wCut)) rest
  else if w0 = wCap ∨ w0 = wDish then lnCap g (decide (w0 = wDish)) rest
  else none

abbrev BlkG := ((Int × Int) × List Prt × List Cap × Unit) × Int × Int × Unit
def outB (g : Gla) : BlkG := (((g.1, g.2.1), (g.2.2.1, (g.2.2.2, ()))), ((g.2.2.1.length : Int), ((g.2.2.2.length : Int), ())))
/-- What reading a line comes to. -/
def ROut (r : Option ((Bool × Unit) × BlkG)) (o : Option Gla) : Prop := match o with
  | some g' => r = some ((true, ()), outB g')
  | none => ∃ y, r = some ((false, ()), y)
theorem ROut.no {r : Option ((Bool × Unit) × BlkG)} {y : BlkG} (h : r = some ((false, ()), y)) : ROut r none := ⟨y, h⟩
theorem ROut.trans {r r' : Option ((Bool × Unit) × BlkG)} {o : Option Gla} (h : r = r') (k : ROut r' o) : ROut r o := h ▸ k

theorem part_tail {w0 : List UInt8} {rest : List (List UInt8)} : part (w0 :: rest) 1 ((w0 :: rest).length : Int) = rest := by simp [part]
theorem len5 {ns : List Int} (h : ns.length = 5) : ∃ a b c d e, ns = [a, b, c, d, e] := match ns, h with | [a, b, c, d, e], _ => ⟨a, b, c, d, e, rfl⟩
theorem len3 {ns : List Int} (h : ns.length = 3) : ∃ a b c, ns = [a, b, c] := match ns, h with | [a, b, c], _ => ⟨a, b, c, rfl⟩
theorem len2 {ns : List Int} (h : ns.length = 2) : ∃ a b, ns = [a, b] := match ns, h with | [a, b], _ => ⟨a, b, rfl⟩
theorem lnGlass_no {g : Gla} {rest : List (List UInt8)} {ns : List Int} (h : numsS rest = some ns) (hn : ns.length ≠ 2) : lnGlass g rest = none := by
  unfold lnGlass; rw [h]
  split
  · rename_i a b e; injection e with e; subst e; exact absurd rfl hn
  · rfl
theorem lnPart_no {g : Gla} {cut : Bool} {rest : List (List UInt8)} {ns : List Int} (h : numsS rest = some ns) (hn : ns.length ≠ 5) : lnPart g cut rest = none := by
  unfold lnPart; rw [h]
  split
  · rename_i e; injection e with e; subst e; exact absurd rfl hn
  · rfl

section
variable {x : List UInt8} {w0 : List UInt8} {rest : List (List UInt8)} {g : Gla} {num : Int}

theorem rd_first (hs : strings_Split x [32] = some ((w0 :: rest, ()), ())) (hr : rest.length ≤ 1048576) (hw : ∀ w ∈ rest, w.length ≤ 1048576) (hp : g.2.2.1.length ≤ 1048576) (hc : g.2.2.2.length ≤ 1048576) (h1 : num = 1) : ROut (blank_read x num ((g.1, g.2.1), g.2.2.1, g.2.2.2, ()) (g.2.2.1.length : Int) (g.2.2.2.length : Int)) (if w0 = wGlass then lnGlass g rest else none) := by
  have hn : blank_numbers (part (w0 :: rest) 1 ((w0 :: rest).length : Int)) 2 = some (outN (numsS rest) 2, ()) := by rw [part_tail]; exact k_numbers hr hw
  show ROut (T_blank_read x num _ _ _).run _
  unfold T_blank_read
  refine ROut.trans (r_bs hs) ?_
  refine ROut.trans (br_t (decide_eq_true h1)) ?_
  refine ROut.trans (q_of (bnd_t' (by omega) (by simp <;> omega) (Int.le_refl _))) ?_
  refine ROut.trans (r_bs hn) ?_
  cases hq : numsS rest with
  | none =>
    have : (if w0 = wGlass then lnGlass g rest else none) = none := by unfold lnGlass; rw [hq]; split <;> rfl
    rw [this]
    refine ROut.trans (br_f rfl) ?_
    refine ROut.trans (br_f rfl) ?_
    exact ROut.no (r_ret _)
  | some ns =>
    by_cases h2 : ns.length = 2
    · obtain ⟨a, b, rfl⟩ := len2 h2
      refine ROut.trans (br_t rfl) ?_
      refine ROut.trans (q_of rfl) ?_
      refine ROut.trans (q_of rfl) ?_
      refine ROut.trans (br_t rfl) ?_
      refine ROut.trans (q_of (inB_t' (by omega) (by simp <;> omega))) ?_
      by_cases hg : w0 = wGlass
      · rw [if_pos hg]
        have : lnGlass g rest = some (a, b, g.2.2.1, g.2.2.2) := by unfold lnGlass; rw [hq]
        rw [this]
        refine (r_ret _).trans ?_
        show some ((decide (w0 = wGlass), ()), _) = _
        rw [decide_eq_true hg]; rfl
      · rw [if_neg hg]
        refine ⟨(((a, b), (g.2.2.1, (g.2.2.2, ()))), ((g.2.2.1.length : Int), ((g.2.2.2.length : Int), ()))), (r_ret _).trans ?_⟩
        show some ((decide (w0 = wGlass), ()), _) = _
        rw [decide_eq_false hg]; rfl
    · have hd : decide ((ns.length : Int) = 2) = false := decide_eq_false (by omega)
      have : (if w0 = wGlass then lnGlass g rest else none) = none := by rw [lnGlass_no hq h2]; split <;> rfl
      rw [this]
      refine ROut.trans (br_f hd) ?_
      refine ROut.trans (br_f hd) ?_
      exact ROut.no (r_ret _)

theorem rd_ring (hs : strings_Split x [32] = some ((w0 :: rest, ()), ())) (hr : rest.length ≤ 1048576) (hw : ∀ w ∈ rest, w.length ≤ 1048576) (hp : g.2.2.1.length ≤ 1048576) (hc : g.2.2.2.length ≤ 1048576) (h1 : num ≠ 1) (hw0 : w0 = wRing) : ROut (blank_read x num ((g.1, g.2.1), g.2.2.1, g.2.2.2, ()) (g.2.2.1.length : Int) (g.2.2.2.length : Int)) (lnPart g (decide (w0 = wCut)) rest) := by
  have hn : blank_numbers (part (w0 :: rest) 1 ((w0 :: rest).length : Int)) 5 = some (outN (numsS rest) 5, ()) := by rw [part_tail]; exact k_numbers hr hw
  show ROut (T_blank_read x num _ _ _).run _
  unfold T_blank_read
  refine ROut.trans (r_bs hs) ?_
  refine ROut.trans (br_f (decide_eq_false h1)) ?_
  refine ROut.trans (q_of (inB_t' (by omega) (by simp <;> omega))) ?_
  refine ROut.trans (br_t (decide_eq_true (show w0 = wRing from hw0))) ?_
  refine ROut.trans (q_of (bnd_t' (by omega) (by simp <;> omega) (Int.le_refl _))) ?_
  refine ROut.trans (r_bs hn) ?_
  cases hq : numsS rest with
  | none =>
    have : lnPart g (decide (w0 = wCut)) rest = none := by unfold lnPart; rw [hq]
    rw [this]
    refine ROut.trans (br_f rfl) ?_
    refine ROut.trans (br_f rfl) ?_
    exact ROut.no (r_ret _)
  | some ns =>
    by_cases h5 : ns.length = 5
    · obtain ⟨a, b, c, d, e, rfl⟩ := len5 h5
      refine ROut.trans (br_t rfl) ?_
      refine ROut.trans (q_of rfl) ?_
      refine ROut.trans (q_of rfl) ?_
      refine ROut.trans (q_of rfl) ?_
      refine ROut.trans (q_of rfl) ?_
      refine ROut.trans (q_of rfl) ?_
      refine ROut.trans (q_of (inB_t' (by omega) (by simp <;> omega))) ?_
      refine ROut.trans (q_of (decide_eq_true rfl)) ?_
      refine ROut.trans (q_of (app_t' (by simp <;> omega) (by simp <;> omega))) ?_
      refine ROut.trans (br_t rfl) ?_
      by_cases h0 : g.2.2.2.length = 0
      · have : lnPart g (decide (w0 = wCut)) rest = some (g.1, g.2.1, g.2.2.1 ++ [(a, b, c, d, e, decide (w0 = wCut))], g.2.2.2) := by unfold lnPart; rw [hq]; exact if_pos h0
        rw [this]
        refine (r_ret _).trans ?_
        have hd : decide ((g.2.2.2.length : Int) = 0) = true := decide_eq_true (by omega)
        show some ((decide ((g.2.2.2.length : Int) = 0), ()), _) = some ((true, ()), outB (g.1, g.2.1, g.2.2.1 ++ [(a, b, c, d, e, decide (w0 = wCut))], g.2.2.2))
        rw [hd]
        unfold outB
        rw [List.length_append]
        rfl
      · have : lnPart g (decide (w0 = wCut)) rest = none := by unfold lnPart; rw [hq]; exact if_neg h0
        rw [this]
        have hd : decide ((g.2.2.2.length : Int) = 0) = false := decide_eq_false (by omega)
        refine ⟨(((g.1, g.2.1), (g.2.2.1 ++ [(a, b, c, d, e, decide (w0 = wCut))], (g.2.2.2, ()))), ((g.2.2.1.length + 1 : Nat), ((g.2.2.2.length : Int), ()))), (r_ret _).trans ?_⟩
        show some ((decide ((g.2.2.2.length : Int) = 0), ()), _) = _
        rw [hd]
        rfl
    · have hd : decide ((ns.length : Int) = 5) = false := decide_eq_false (by omega)
      rw [lnPart_no hq h5]
      refine ROut.trans (br_f hd) ?_
      refine ROut.trans (br_f hd) ?_
      exact ROut.no (r_ret _)

theorem rd_cut (hs : strings_Split x [32] = some ((w0 :: rest, ()), ())) (hr : rest.length ≤ 1048576) (hw : ∀ w ∈ rest, w.length ≤ 1048576) (hp : g.2.2.1.length ≤ 1048576) (hc : g.2.2.2.length ≤ 1048576) (h1 : num ≠ 1) (hw0 : w0 = wCut) : ROut (blank_read x num ((g.1, g.2.1), g.2.2.1, g.2.2.2, ()) (g.2.2.1.length : Int) (g.2.2.2.length : Int)) (lnPart g (decide (w0 = wCut)) rest) := by
  have hn : blank_numbers (part (w0 :: rest) 1 ((w0 :: rest).length : Int)) 5 = some (outN (numsS rest) 5, ()) := by rw [part_tail]; exact k_numbers hr hw
  show ROut (T_blank_read x num _ _ _).run _
  unfold T_blank_read
  refine ROut.trans (r_bs hs) ?_
  refine ROut.trans (br_f (decide_eq_false h1)) ?_
  refine ROut.trans (q_of (inB_t' (by omega) (by simp <;> omega))) ?_
  refine ROut.trans (br_f (decide_eq_false (show ¬ w0 = wRing by rw [hw0]; decide))) ?_
  refine ROut.trans (q_of (inB_t' (by omega) (by simp <;> omega))) ?_
  refine ROut.trans (br_t (decide_eq_true (show w0 = wCut from hw0))) ?_
  refine ROut.trans (q_of (bnd_t' (by omega) (by simp <;> omega) (Int.le_refl _))) ?_
  refine ROut.trans (r_bs hn) ?_
  cases hq : numsS rest with
  | none =>
    have : lnPart g (decide (w0 = wCut)) rest = none := by unfold lnPart; rw [hq]
    rw [this]
    refine ROut.trans (br_f rfl) ?_
    refine ROut.trans (br_f rfl) ?_
    exact ROut.no (r_ret _)
  | some ns =>
    by_cases h5 : ns.length = 5
    · obtain ⟨a, b, c, d, e, rfl⟩ := len5 h5
      refine ROut.trans (br_t rfl) ?_
      refine ROut.trans (q_of rfl) ?_
      refine ROut.trans (q_of rfl) ?_
      refine ROut.trans (q_of rfl) ?_
      refine ROut.trans (q_of rfl) ?_
      refine ROut.trans (q_of rfl) ?_
      refine ROut.trans (q_of (inB_t' (by omega) (by simp <;> omega))) ?_
      refine ROut.trans (q_of (decide_eq_true rfl)) ?_
      refine ROut.trans (q_of (app_t' (by simp <;> omega) (by simp <;> omega))) ?_
      refine ROut.trans (br_t rfl) ?_
      by_cases h0 : g.2.2.2.length = 0
      · have : lnPart g (decide (w0 = wCut)) rest = some (g.1, g.2.1, g.2.2.1 ++ [(a, b, c, d, e, decide (w0 = wCut))], g.2.2.2) := by unfold lnPart; rw [hq]; exact if_pos h0
        rw [this]
        refine (r_ret _).trans ?_
        have hd : decide ((g.2.2.2.length : Int) = 0) = true := decide_eq_true (by omega)
        show some ((decide ((g.2.2.2.length : Int) = 0), ()), _) = some ((true, ()), outB (g.1, g.2.1, g.2.2.1 ++ [(a, b, c, d, e, decide (w0 = wCut))], g.2.2.2))
        rw [hd]
        unfold outB
        rw [List.length_append]
        rfl
      · have : lnPart g (decide (w0 = wCut)) rest = none := by unfold lnPart; rw [hq]; exact if_neg h0
        rw [this]
        have hd : decide ((g.2.2.2.length : Int) = 0) = false := decide_eq_false (by omega)
        refine ⟨(((g.1, g.2.1), (g.2.2.1 ++ [(a, b, c, d, e, decide (w0 = wCut))], (g.2.2.2, ()))), ((g.2.2.1.length + 1 : Nat), ((g.2.2.2.length : Int), ()))), (r_ret _).trans ?_⟩
        show some ((decide ((g.2.2.2.length : Int) = 0), ()), _) = _
        rw [hd]
        rfl
    · have hd : decide ((ns.length : Int) = 5) = false := decide_eq_false (by omega)
      rw [lnPart_no hq h5]
      refine ROut.trans (br_f hd) ?_
      refine ROut.trans (br_f hd) ?_
      exact ROut.no (r_ret _)

theorem last_cons {ini : List (List UInt8)} {way : List UInt8} (hr : (ini ++ [way]).length ≤ 1048576) : gi (w0 :: (ini ++ [way])) (IntKind.i64.wrap (((w0 :: (ini ++ [way])).length : Int) - 1)) = way := by
  have e : IntKind.i64.wrap (((w0 :: (ini ++ [way])).length : Int) - 1) = ((ini.length + 1 : Nat) : Int) := by
    rw [w64' (by simp <;> omega) (by simp at hr ⊢ <;> omega)]
    simp
  rw [e, gi_nat (by simp)]
  simp
theorem last_w {ini : List (List UInt8)} {way : List UInt8} (hr : (ini ++ [way]).length ≤ 1048576) : IntKind.i64.wrap (((w0 :: (ini ++ [way])).length : Int) - 1) = ((ini.length + 1 : Nat) : Int) := by
  rw [w64' (by simp <;> omega) (by simp at hr ⊢ <;> omega)]
  simp
theorem part_ini {ini : List (List UInt8)} {way : List UInt8} (hr : (ini ++ [way]).length ≤ 1048576) : part (w0 :: (ini ++ [way])) 1 (IntKind.i64.wrap (((w0 :: (ini ++ [way])).length : Int) - 1)) = ini := by
  rw [last_w hr]
  simp [part]
theorem lnCap_no {cut : Bool} {ini : List (List UInt8)} {way : List UInt8} (h : ¬ (way = wUp ∨ way = wDown)) : lnCap g cut (ini ++ [way]) = none := by
  unfold lnCap
  split
  · rename_i x y z way' e
    have : way' = way := by
      have := congrArg List.getLast? e
      simpa using this.symm
    rw [this, if_neg h]
  · rfl
theorem lnCap_no3 {cut : Bool} {ini : List (List UInt8)} {way : List UInt8} (h : ∀ ns, numsS ini = some ns → ns.length ≠ 3) : lnCap g cut (ini ++ [way]) = none := by
  unfold lnCap
  split
  · rename_i x y z way' e
    have e2 : ini = [x, y, z] := by
      have := congrArg List.dropLast e
      simpa using this
    split
    · split
      · rename_i a b c q
        exact absurd rfl (h _ (by rw [e2]; exact q))
      · rfl
    · rfl
  · rfl

theorem rd_cap0 (hs : strings_Split x [32] = some ((w0 :: [], ()), ())) (h1 : num ≠ 1) (hw0 : w0 = wCap) : ROut (blank_read x num ((g.1, g.2.1), g.2.2.1, g.2.2.2, ()) (g.2.2.1.length : Int) (g.2.2.2.length : Int)) (lnCap g (decide (w0 = wDish)) []) := by
  show ROut (T_blank_read x num _ _ _).run _
  unfold T_blank_read
  have e : IntKind.i64.wrap ((([w0] : List (List UInt8)).length : Int) - 1) = 0 := by rw [w64' (by simp) (by simp)]; rfl
  have hl : gi [w0] (IntKind.i64.wrap ((([w0] : List (List UInt8)).length : Int) - 1)) = w0 := by rw [e]; rfl
  have hi : inB (IntKind.i64.wrap ((([w0] : List (List UInt8)).length : Int) - 1)) ([w0] : List (List UInt8)).length = true := by rw [e]; rfl
  refine ROut.trans (r_bs hs) ?_
  refine ROut.trans (br_f (decide_eq_false h1)) ?_
  refine ROut.trans (q_of (inB_t' (by omega) (by simp <;> omega))) ?_
  refine ROut.trans (br_f (decide_eq_false (show ¬ w0 = wRing by rw [hw0]; decide))) ?_
  refine ROut.trans (q_of (inB_t' (by omega) (by simp <;> omega))) ?_
  refine ROut.trans (br_f (decide_eq_false (show ¬ w0 = wCut by rw [hw0]; decide))) ?_
  refine ROut.trans (q_of (inB_t' (by omega) (by simp <;> omega))) ?_
  refine ROut.trans (br_t (decide_eq_true (show w0 = wCap from hw0))) ?_
  refine ROut.trans (q_of hi) ?_
  refine ROut.trans (br_t (nd' (show ¬ _ = wUp by rw [hl, hw0]; decide))) ?_
  refine ROut.trans (q_of hi) ?_
  refine ROut.trans (br_t (nd' (show ¬ _ = wDown by rw [hl, hw0]; decide))) ?_
  exact ROut.no (r_ret _)
theorem rd_cap {ini : List (List UInt8)} {way : List UInt8} (hs : strings_Split x [32] = some ((w0 :: (ini ++ [way]), ()), ())) (hr : (ini ++ [way]).length ≤ 1048576) (hw : ∀ w ∈ ini ++ [way], w.length ≤ 1048576) (hp : g.2.2.1.length ≤ 1048576) (hc : g.2.2.2.length ≤ 1048576) (h1 : num ≠ 1) (hw0 : w0 = wCap) : ROut (blank_read x num ((g.1, g.2.1), g.2.2.1, g.2.2.2, ()) (g.2.2.1.length : Int) (g.2.2.2.length : Int)) (lnCap g (decide (w0 = wDish)) (ini ++ [way])) := by
  have hn : blank_numbers (part (w0 :: (ini ++ [way])) 1 (IntKind.i64.wrap (((w0 :: (ini ++ [way])).length : Int) - 1))) 3 = some (outN (numsS ini) 3, ()) := by
    rw [part_ini hr]
    exact k_numbers (by simp at hr; omega) (fun w h => hw w (List.mem_append_left _ h))
  have hl := last_cons (w0 := w0) hr
  have hlw := last_w (w0 := w0) hr
  have hi : inB (IntKind.i64.wrap (((w0 :: (ini ++ [way])).length : Int) - 1)) (w0 :: (ini ++ [way])).length = true := by rw [hlw]; exact inB_t' (by omega) (by simp <;> omega)
  have hb : bndOk 1 (IntKind.i64.wrap (((w0 :: (ini ++ [way])).length : Int) - 1)) (w0 :: (ini ++ [way])).length = true := by rw [hlw]; exact bnd_t' (by omega) (by omega) (by simp <;> omega)
  show ROut (T_blank_read x num _ _ _).run _
  unfold T_blank_read
  refine ROut.trans (r_bs hs) ?_
  refine ROut.trans (br_f (decide_eq_false h1)) ?_
  refine ROut.trans (q_of (inB_t' (by omega) (by simp <;> omega))) ?_
  refine ROut.trans (br_f (decide_eq_false (show ¬ w0 = wRing by rw [hw0]; decide))) ?_
  refine ROut.trans (q_of (inB_t' (by omega) (by simp <;> omega))) ?_
  refine ROut.trans (br_f (decide_eq_false (show ¬ w0 = wCut by rw [hw0]; decide))) ?_
  refine ROut.trans (q_of (inB_t' (by omega) (by simp <;> omega))) ?_
  refine ROut.trans (br_t (decide_eq_true (show w0 = wCap from hw0))) ?_
  refine ROut.trans (q_of hi) ?_
  by_cases hu : way = wUp
  · refine ROut.trans (br_f (nd (show _ = wUp from hl.trans hu))) ?_
    refine ROut.trans (q_of hb) ?_
    refine ROut.trans (r_bs hn) ?_
    cases hq : numsS ini with
    | none =>
      rw [lnCap_no3 (fun ns h => by rw [hq] at h; cases h)]
      refine ROut.trans (br_f rfl) ?_
      exact ROut.no (r_ret _)
    | some ns =>
      by_cases h3 : ns.length = 3
      · have hil := (numsS_len hq).symm.trans h3
        obtain ⟨a, b, c, rfl⟩ := len3 h3
        have hret : lnCap g (decide (w0 = wDish)) (ini ++ [way]) = some (g.1, g.2.1, g.2.2.1, g.2.2.2 ++ [(a, b, c, decide (way = wUp), decide (w0 = wDish))]) := by
          match ini, hil, hq with
          | [x1, y1, z1], _, hq =>
            show (if way = wUp ∨ way = wDown then _ else none) = _
            rw [if_pos (by first | exact .inl hu | exact .inr hd), hq]
        rw [hret]
        refine ROut.trans (br_t rfl) ?_
        refine ROut.trans (q_of rfl) ?_
        refine ROut.trans (q_of rfl) ?_
        refine ROut.trans (q_of rfl) ?_
        refine ROut.trans (q_of hi) ?_
        refine ROut.trans (q_of (inB_t' (by omega) (by simp <;> omega))) ?_
        refine ROut.trans (q_of (decide_eq_true rfl)) ?_
        refine ROut.trans (q_of (app_t' (by simp; omega) (by simp; omega))) ?_
        refine (r_ret _).trans ?_
        show some ((true, ()), (((g.1, g.2.1), (g.2.2.1, (g.2.2.2 ++ [(a, b, c, decide (gi (w0 :: (ini ++ [way])) (IntKind.i64.wrap (((w0 :: (ini ++ [way])).length : Int) - 1)) = wUp), decide (w0 = wDish))], ()))), ((g.2.2.1.length : Int), (((g.2.2.2.length + 1 : Nat) : Int), ())))) = some ((true, ()), outB (g.1, g.2.1, g.2.2.1, g.2.2.2 ++ [(a, b, c, decide (way = wUp), decide (w0 = wDish))]))
        rw [hl]
        unfold outB
        rw [List.length_append]
        rfl
      · have hdd : decide ((ns.length : Int) = 3) = false := decide_eq_false (by omega)
        rw [lnCap_no3 (fun ms h => by rw [hq] at h; injection h with h; subst h; exact h3)]
        refine ROut.trans (br_f hdd) ?_
        refine ⟨(((g.1, g.2.1), (g.2.2.1, (g.2.2.2, ()))), ((g.2.2.1.length : Int), ((g.2.2.2.length : Int), ()))), (r_ret _).trans ?_⟩
        show some ((decide ((ns.length : Int) = 3), ()), _) = _
        rw [hdd]; rfl
  refine ROut.trans (br_t (nd' (show ¬ _ = wUp by rw [hl]; exact hu))) ?_
  refine ROut.trans (q_of hi) ?_
  by_cases hd : way = wDown
  · refine ROut.trans (br_f (nd (show _ = wDown from hl.trans hd))) ?_
    refine ROut.trans (q_of hb) ?_
    refine ROut.trans (r_bs hn) ?_
    cases hq : numsS ini with
    | none =>
      rw [lnCap_no3 (fun ns h => by rw [hq] at h; cases h)]
      refine ROut.trans (br_f rfl) ?_
      exact ROut.no (r_ret _)
    | some ns =>
      by_cases h3 : ns.length = 3
      · have hil := (numsS_len hq).symm.trans h3
        obtain ⟨a, b, c, rfl⟩ := len3 h3
        have hret : lnCap g (decide (w0 = wDish)) (ini ++ [way]) = some (g.1, g.2.1, g.2.2.1, g.2.2.2 ++ [(a, b, c, decide (way = wUp), decide (w0 = wDish))]) := by
          match ini, hil, hq with
          | [x1, y1, z1], _, hq =>
            show (if way = wUp ∨ way = wDown then _ else none) = _
            rw [if_pos (by first | exact .inl hu | exact .inr hd), hq]
        rw [hret]
        refine ROut.trans (br_t rfl) ?_
        refine ROut.trans (q_of rfl) ?_
        refine ROut.trans (q_of rfl) ?_
        refine ROut.trans (q_of rfl) ?_
        refine ROut.trans (q_of hi) ?_
        refine ROut.trans (q_of (inB_t' (by omega) (by simp <;> omega))) ?_
        refine ROut.trans (q_of (decide_eq_true rfl)) ?_
        refine ROut.trans (q_of (app_t' (by simp; omega) (by simp; omega))) ?_
        refine (r_ret _).trans ?_
        show some ((true, ()), (((g.1, g.2.1), (g.2.2.1, (g.2.2.2 ++ [(a, b, c, decide (gi (w0 :: (ini ++ [way])) (IntKind.i64.wrap (((w0 :: (ini ++ [way])).length : Int) - 1)) = wUp), decide (w0 = wDish))], ()))), ((g.2.2.1.length : Int), (((g.2.2.2.length + 1 : Nat) : Int), ())))) = some ((true, ()), outB (g.1, g.2.1, g.2.2.1, g.2.2.2 ++ [(a, b, c, decide (way = wUp), decide (w0 = wDish))]))
        rw [hl]
        unfold outB
        rw [List.length_append]
        rfl
      · have hdd : decide ((ns.length : Int) = 3) = false := decide_eq_false (by omega)
        rw [lnCap_no3 (fun ms h => by rw [hq] at h; injection h with h; subst h; exact h3)]
        refine ROut.trans (br_f hdd) ?_
        refine ⟨(((g.1, g.2.1), (g.2.2.1, (g.2.2.2, ()))), ((g.2.2.1.length : Int), ((g.2.2.2.length : Int), ()))), (r_ret _).trans ?_⟩
        show some ((decide ((ns.length : Int) = 3), ()), _) = _
        rw [hdd]; rfl
  rw [lnCap_no (by rintro (h | h); exact hu h; exact hd h)]
  refine ROut.trans (br_t (nd' (show ¬ _ = wDown by rw [hl]; exact hd))) ?_
  exact ROut.no (r_ret _)

theorem rd_dish0 (hs : strings_Split x [32] = some ((w0 :: [], ()), ())) (h1 : num ≠ 1) (hw0 : w0 = wDish) : ROut (blank_read x num ((g.1, g.2.1), g.2.2.1, g.2.2.2, ()) (g.2.2.1.length : Int) (g.2.2.2.length : Int)) (lnCap g (decide (w0 = wDish)) []) := by
  show ROut (T_blank_read x num _ _ _).run _
  unfold T_blank_read
  have e : IntKind.i64.wrap ((([w0] : List (List UInt8)).length : Int) - 1) = 0 := by rw [w64' (by simp) (by simp)]; rfl
  have hl : gi [w0] (IntKind.i64.wrap ((([w0] : List (List UInt8)).length : Int) - 1)) = w0 := by rw [e]; rfl
  have hi : inB (IntKind.i64.wrap ((([w0] : List (List UInt8)).length : Int) - 1)) ([w0] : List (List UInt8)).length = true := by rw [e]; rfl
  refine ROut.trans (r_bs hs) ?_
  refine ROut.trans (br_f (decide_eq_false h1)) ?_
  refine ROut.trans (q_of (inB_t' (by omega) (by simp <;> omega))) ?_
  refine ROut.trans (br_f (decide_eq_false (show ¬ w0 = wRing by rw [hw0]; decide))) ?_
  refine ROut.trans (q_of (inB_t' (by omega) (by simp <;> omega))) ?_
  refine ROut.trans (br_f (decide_eq_false (show ¬ w0 = wCut by rw [hw0]; decide))) ?_
  refine ROut.trans (q_of (inB_t' (by omega) (by simp <;> omega))) ?_
  refine ROut.trans (br_f (decide_eq_false (show ¬ w0 = wCap by rw [hw0]; decide))) ?_
  refine ROut.trans (q_of (inB_t' (by omega) (by simp <;> omega))) ?_
  refine ROut.trans (br_t (decide_eq_true (show w0 = wDish from hw0))) ?_
  refine ROut.trans (q_of hi) ?_
  refine ROut.trans (br_t (nd' (show ¬ _ = wUp by rw [hl, hw0]; decide))) ?_
  refine ROut.trans (q_of hi) ?_
  refine ROut.trans (br_t (nd' (show ¬ _ = wDown by rw [hl, hw0]; decide))) ?_
  exact ROut.no (r_ret _)
theorem rd_dish {ini : List (List UInt8)} {way : List UInt8} (hs : strings_Split x [32] = some ((w0 :: (ini ++ [way]), ()), ())) (hr : (ini ++ [way]).length ≤ 1048576) (hw : ∀ w ∈ ini ++ [way], w.length ≤ 1048576) (hp : g.2.2.1.length ≤ 1048576) (hc : g.2.2.2.length ≤ 1048576) (h1 : num ≠ 1) (hw0 : w0 = wDish) : ROut (blank_read x num ((g.1, g.2.1), g.2.2.1, g.2.2.2, ()) (g.2.2.1.length : Int) (g.2.2.2.length : Int)) (lnCap g (decide (w0 = wDish)) (ini ++ [way])) := by
  have hn : blank_numbers (part (w0 :: (ini ++ [way])) 1 (IntKind.i64.wrap (((w0 :: (ini ++ [way])).length : Int) - 1))) 3 = some (outN (numsS ini) 3, ()) := by
    rw [part_ini hr]
    exact k_numbers (by simp at hr; omega) (fun w h => hw w (List.mem_append_left _ h))
  have hl := last_cons (w0 := w0) hr
  have hlw := last_w (w0 := w0) hr
  have hi : inB (IntKind.i64.wrap (((w0 :: (ini ++ [way])).length : Int) - 1)) (w0 :: (ini ++ [way])).length = true := by rw [hlw]; exact inB_t' (by omega) (by simp <;> omega)
  have hb : bndOk 1 (IntKind.i64.wrap (((w0 :: (ini ++ [way])).length : Int) - 1)) (w0 :: (ini ++ [way])).length = true := by rw [hlw]; exact bnd_t' (by omega) (by omega) (by simp <;> omega)
  show ROut (T_blank_read x num _ _ _).run _
  unfold T_blank_read
  refine ROut.trans (r_bs hs) ?_
  refine ROut.trans (br_f (decide_eq_false h1)) ?_
  refine ROut.trans (q_of (inB_t' (by omega) (by simp <;> omega))) ?_
  refine ROut.trans (br_f (decide_eq_false (show ¬ w0 = wRing by rw [hw0]; decide))) ?_
  refine ROut.trans (q_of (inB_t' (by omega) (by simp <;> omega))) ?_
  refine ROut.trans (br_f (decide_eq_false (show ¬ w0 = wCut by rw [hw0]; decide))) ?_
  refine ROut.trans (q_of (inB_t' (by omega) (by simp <;> omega))) ?_
  refine ROut.trans (br_f (decide_eq_false (show ¬ w0 = wCap by rw [hw0]; decide))) ?_
  refine ROut.trans (q_of (inB_t' (by omega) (by simp <;> omega))) ?_
  refine ROut.trans (br_t (decide_eq_true (show w0 = wDish from hw0))) ?_
  refine ROut.trans (q_of hi) ?_
  by_cases hu : way = wUp
  · refine ROut.trans (br_f (nd (show _ = wUp from hl.trans hu))) ?_
    refine ROut.trans (q_of hb) ?_
    refine ROut.trans (r_bs hn) ?_
    cases hq : numsS ini with
    | none =>
      rw [lnCap_no3 (fun ns h => by rw [hq] at h; cases h)]
      refine ROut.trans (br_f rfl) ?_
      exact ROut.no (r_ret _)
    | some ns =>
      by_cases h3 : ns.length = 3
      · have hil := (numsS_len hq).symm.trans h3
        obtain ⟨a, b, c, rfl⟩ := len3 h3
        have hret : lnCap g (decide (w0 = wDish)) (ini ++ [way]) = some (g.1, g.2.1, g.2.2.1, g.2.2.2 ++ [(a, b, c, decide (way = wUp), decide (w0 = wDish))]) := by
          match ini, hil, hq with
          | [x1, y1, z1], _, hq =>
            show (if way = wUp ∨ way = wDown then _ else none) = _
            rw [if_pos (by first | exact .inl hu | exact .inr hd), hq]
        rw [hret]
        refine ROut.trans (br_t rfl) ?_
        refine ROut.trans (q_of rfl) ?_
        refine ROut.trans (q_of rfl) ?_
        refine ROut.trans (q_of rfl) ?_
        refine ROut.trans (q_of hi) ?_
        refine ROut.trans (q_of (inB_t' (by omega) (by simp <;> omega))) ?_
        refine ROut.trans (q_of (decide_eq_true rfl)) ?_
        refine ROut.trans (q_of (app_t' (by simp; omega) (by simp; omega))) ?_
        refine (r_ret _).trans ?_
        show some ((true, ()), (((g.1, g.2.1), (g.2.2.1, (g.2.2.2 ++ [(a, b, c, decide (gi (w0 :: (ini ++ [way])) (IntKind.i64.wrap (((w0 :: (ini ++ [way])).length : Int) - 1)) = wUp), decide (w0 = wDish))], ()))), ((g.2.2.1.length : Int), (((g.2.2.2.length + 1 : Nat) : Int), ())))) = some ((true, ()), outB (g.1, g.2.1, g.2.2.1, g.2.2.2 ++ [(a, b, c, decide (way = wUp), decide (w0 = wDish))]))
        rw [hl]
        unfold outB
        rw [List.length_append]
        rfl
      · have hdd : decide ((ns.length : Int) = 3) = false := decide_eq_false (by omega)
        rw [lnCap_no3 (fun ms h => by rw [hq] at h; injection h with h; subst h; exact h3)]
        refine ROut.trans (br_f hdd) ?_
        refine ⟨(((g.1, g.2.1), (g.2.2.1, (g.2.2.2, ()))), ((g.2.2.1.length : Int), ((g.2.2.2.length : Int), ()))), (r_ret _).trans ?_⟩
        show some ((decide ((ns.length : Int) = 3), ()), _) = _
        rw [hdd]; rfl
  refine ROut.trans (br_t (nd' (show ¬ _ = wUp by rw [hl]; exact hu))) ?_
  refine ROut.trans (q_of hi) ?_
  by_cases hd : way = wDown
  · refine ROut.trans (br_f (nd (show _ = wDown from hl.trans hd))) ?_
    refine ROut.trans (q_of hb) ?_
    refine ROut.trans (r_bs hn) ?_
    cases hq : numsS ini with
    | none =>
      rw [lnCap_no3 (fun ns h => by rw [hq] at h; cases h)]
      refine ROut.trans (br_f rfl) ?_
      exact ROut.no (r_ret _)
    | some ns =>
      by_cases h3 : ns.length = 3
      · have hil := (numsS_len hq).symm.trans h3
        obtain ⟨a, b, c, rfl⟩ := len3 h3
        have hret : lnCap g (decide (w0 = wDish)) (ini ++ [way]) = some (g.1, g.2.1, g.2.2.1, g.2.2.2 ++ [(a, b, c, decide (way = wUp), decide (w0 = wDish))]) := by
          match ini, hil, hq with
          | [x1, y1, z1], _, hq =>
            show (if way = wUp ∨ way = wDown then _ else none) = _
            rw [if_pos (by first | exact .inl hu | exact .inr hd), hq]
        rw [hret]
        refine ROut.trans (br_t rfl) ?_
        refine ROut.trans (q_of rfl) ?_
        refine ROut.trans (q_of rfl) ?_
        refine ROut.trans (q_of rfl) ?_
        refine ROut.trans (q_of hi) ?_
        refine ROut.trans (q_of (inB_t' (by omega) (by simp <;> omega))) ?_
        refine ROut.trans (q_of (decide_eq_true rfl)) ?_
        refine ROut.trans (q_of (app_t' (by simp; omega) (by simp; omega))) ?_
        refine (r_ret _).trans ?_
        show some ((true, ()), (((g.1, g.2.1), (g.2.2.1, (g.2.2.2 ++ [(a, b, c, decide (gi (w0 :: (ini ++ [way])) (IntKind.i64.wrap (((w0 :: (ini ++ [way])).length : Int) - 1)) = wUp), decide (w0 = wDish))], ()))), ((g.2.2.1.length : Int), (((g.2.2.2.length + 1 : Nat) : Int), ())))) = some ((true, ()), outB (g.1, g.2.1, g.2.2.1, g.2.2.2 ++ [(a, b, c, decide (way = wUp), decide (w0 = wDish))]))
        rw [hl]
        unfold outB
        rw [List.length_append]
        rfl
      · have hdd : decide ((ns.length : Int) = 3) = false := decide_eq_false (by omega)
        rw [lnCap_no3 (fun ms h => by rw [hq] at h; injection h with h; subst h; exact h3)]
        refine ROut.trans (br_f hdd) ?_
        refine ⟨(((g.1, g.2.1), (g.2.2.1, (g.2.2.2, ()))), ((g.2.2.1.length : Int), ((g.2.2.2.length : Int), ()))), (r_ret _).trans ?_⟩
        show some ((decide ((ns.length : Int) = 3), ()), _) = _
        rw [hdd]; rfl
  rw [lnCap_no (by rintro (h | h); exact hu h; exact hd h)]
  refine ROut.trans (br_t (nd' (show ¬ _ = wDown by rw [hl]; exact hd))) ?_
  exact ROut.no (r_ret _)

theorem rd_other (hs : strings_Split x [32] = some ((w0 :: rest, ()), ())) (hr : rest.length ≤ 1048576) (hw : ∀ w ∈ rest, w.length ≤ 1048576) (hp : g.2.2.1.length ≤ 1048576) (hc : g.2.2.2.length ≤ 1048576) (h1 : num ≠ 1) (h2 : w0 ≠ wRing) (h3 : w0 ≠ wCut) (h4 : w0 ≠ wCap) (h5 : w0 ≠ wDish) : ROut (blank_read x num ((g.1, g.2.1), g.2.2.1, g.2.2.2, ()) (g.2.2.1.length : Int) (g.2.2.2.length : Int)) none := by
  show ROut (T_blank_read x num _ _ _).run _
  unfold T_blank_read
  refine ROut.trans (r_bs hs) ?_
  refine ROut.trans (br_f (decide_eq_false h1)) ?_
  refine ROut.trans (q_of (inB_t' (by omega) (by simp <;> omega))) ?_
  refine ROut.trans (br_f (decide_eq_false h2)) ?_
  refine ROut.trans (q_of (inB_t' (by omega) (by simp <;> omega))) ?_
  refine ROut.trans (br_f (decide_eq_false h3)) ?_
  refine ROut.trans (q_of (inB_t' (by omega) (by simp <;> omega))) ?_
  refine ROut.trans (br_f (decide_eq_false h4)) ?_
  refine ROut.trans (q_of (inB_t' (by omega) (by simp <;> omega))) ?_
  refine ROut.trans (br_f (decide_eq_false h5)) ?_
  exact ROut.no (r_ret _)
/-- The program's line. -/
theorem k_read (hs : strings_Split x [32] = some ((w0 :: rest, ()), ())) (hr : rest.length ≤ 1048576) (hw : ∀ w ∈ rest, w.length ≤ 1048576) (hp : g.2.2.1.length ≤ 1048576) (hc : g.2.2.2.length ≤ 1048576) : ROut (blank_read x num ((g.1, g.2.1), g.2.2.1, g.2.2.2, ()) (g.2.2.1.length : Int) (g.2.2.2.length : Int)) (lineW (decide (num = 1)) g w0 rest) := by
  unfold lineW
  by_cases h1 : num = 1
  · rw [decide_eq_true h1]
    simp only [if_true]
    exact rd_first hs hr hw hp hc h1
  · rw [decide_eq_false h1]
    simp only [Bool.false_eq_true, if_false]
    by_cases hR : w0 = wRing
    · rw [if_neg (by rw [hR]; decide), if_pos (.inl hR)]; exact rd_ring hs hr hw hp hc h1 hR
    by_cases hC : w0 = wCut
    · rw [if_neg (by rw [hC]; decide), if_pos (.inr hC)]; exact rd_cut hs hr hw hp hc h1 hC
    by_cases hP : w0 = wCap
    · rw [if_neg (by rw [hP]; decide), if_neg (by rintro (h | h); exact hR h; exact hC h), if_pos (.inl hP)]
      rcases List.eq_nil_or_concat rest with rfl | ⟨ini, way, rfl⟩
      · exact rd_cap0 hs h1 hP
      · rw [List.concat_eq_append] at *; exact rd_cap hs hr hw hp hc h1 hP
    by_cases hD : w0 = wDish
    · rw [if_neg (by rw [hD]; decide), if_neg (by rintro (h | h); exact hR h; exact hC h), if_pos (.inr hD)]
      rcases List.eq_nil_or_concat rest with rfl | ⟨ini, way, rfl⟩
      · exact rd_dish0 hs h1 hD
      · rw [List.concat_eq_append] at *; exact rd_dish hs hr hw hp hc h1 hD
    have e : (if w0 = wGlass then none else if w0 = wRing ∨ w0 = wCut then lnPart g (decide (w0 = wCut)) rest else if w0 = wCap ∨ w0 = wDish then lnCap g (decide (w0 = wDish)) rest else none) = none := by
      rw [if_neg (c := w0 = wRing ∨ w0 = wCut) (by rintro (h | h); exact hR h; exact hC h), if_neg (c := w0 = wCap ∨ w0 = wDish) (by rintro (h | h); exact hP h; exact hD h), ite_self]
    rw [e]
    exact rd_other hs hr hw hp hc h1 hR hC hP hD

end
end Go.Ab
