/- Blanks whose parts are put together in another way: the same volume and centre. -/
import Derived.Test.YtlihngoejfmheaaC4
namespace Go.Ab
open Go
set_option maxRecDepth 1000000
set_option maxHeartbeats 1000000
set_option linter.unusedVariables false
set_option linter.unusedSimpArgs false

def totP : List Prt → Int × Int
  | [] => (0, 0)
  | p :: r => (sg (pV p) p.2.2.2.2.2 + (totP r).1, sg (pM p) p.2.2.2.2.2 + (totP r).2)
theorem totP_app : ∀ (a b : List Prt), totP (a ++ b) = ((totP a).1 + (totP b).1, (totP a).2 + (totP b).2)
  | [], b => by simp [totP]
  | p :: r, b => by
    rw [List.cons_append, totP, totP_app r b, totP]
    simp only [Prod.mk.injEq]
    omega
theorem totP_rev : ∀ a : List Prt, totP a.reverse = totP a
  | [] => rfl
  | p :: r => by
    rw [List.reverse_cons, totP_app, totP_rev r]
    simp only [totP, Prod.mk.injEq]
    omega
theorem whP_tot (g : Gla) : ∀ k : Nat, k ≤ g.2.2.1.length → whP g k = totP (g.2.2.1.take k)
  | 0, _ => rfl
  | k + 1, hk => by
    have hlt : k < g.2.2.1.length := by omega
    rw [whP, whP_tot g k (by omega), List.take_succ_eq_append_getElem hlt, totP_app, gi_nat hlt]
    simp only [totP, Prod.mk.injEq]
    omega
theorem whP_all (g : Gla) : whP g g.2.2.1.length = totP g.2.2.1 := by
  rw [whP_tot g _ (Nat.le_refl _), List.take_length]
theorem whC_like (g : Gla) (ps : List Prt) (h : totP ps = totP g.2.2.1) : ∀ k : Nat, whC (g.1, g.2.1, ps, g.2.2.2) k = whC g k
  | 0 => by
    show whP (g.1, g.2.1, ps, g.2.2.2) ps.length = whP g g.2.2.1.length
    rw [whP_all g, ← h]
    exact whP_all (g.1, g.2.1, ps, g.2.2.2)
  | k + 1 => by
    show ((whC (g.1, g.2.1, ps, g.2.2.2) k).1 + _, (whC (g.1, g.2.1, ps, g.2.2.2) k).2 + _) = ((whC g k).1 + _, (whC g k).2 + _)
    rw [whC_like g ps h k]
theorem wh_like (g : Gla) (ps : List Prt) (h : totP ps = totP g.2.2.1) : wh (g.1, g.2.1, ps, g.2.2.2) = wh g := whC_like g ps h _
theorem glE_like {g : Gla} (hg : glE g = 0) {ps : List Prt} (hn : ps.length ≤ 40) (hp : ∀ p ∈ ps, ptE g.2.1 p = 0) (h : totP ps = totP g.2.2.1) : glE (g.1, g.2.1, ps, g.2.2.2) = 0 := by
  obtain ⟨G, hpos⟩ := glE_0 hg
  have h1 : ptsE (g.1, g.2.1, ps, g.2.2.2) = 0 := firstErr_0 fun j hj => hp _ (gi_mem (l := ps) (i := (j : Int)) (by omega) (by have : j < ps.length := hj; omega))
  have h2 : cpsE (g.1, g.2.1, ps, g.2.2.2) = 0 := firstErr_0 fun j hj => G.cp j hj
  unfold glE
  rw [if_pos G.de, if_pos G.th, if_neg (by show ¬ 40 < ps.length; omega), if_pos h1]
  unfold gl2 gl3
  have hc := G.nc
  rw [if_neg (by show ¬ 4 < g.2.2.2.length; omega), if_pos h2, wh_like g ps h, if_neg (by omega)]
theorem like_V {g : Gla} (hg : glE g = 0) {ps : List Prt} (hn : ps.length ≤ 40) (hp : ∀ p ∈ ps, ptE g.2.1 p = 0) (h : totP ps = totP g.2.2.1) :
    blank_Volume (g.1, g.2.1, ps, g.2.2.2) = some (((wh g).1, (0, ())), ()) := by
  rw [k_Volume, glE_like hg hn hp h, wh_like g ps h]; rfl
theorem like_C {g : Gla} (hg : glE g = 0) {ps : List Prt} (hn : ps.length ≤ 40) (hp : ∀ p ∈ ps, ptE g.2.1 p = 0) (h : totP ps = totP g.2.2.1) :
    blank_Centre (g.1, g.2.1, ps, g.2.2.2) = some ((cenV g, (0, ())), ()) := by
  rw [k_Centre, glE_like hg hn hp h]
  unfold cenV
  rw [glE_like hg hn hp h, wh_like g ps h, hg]

theorem ptE_mk {t : Int} {p : Prt} (h1 : 1 ≤ p.1 ∧ p.1 ≤ 1000) (h2 : 0 ≤ p.2.1 ∧ p.2.1 ≤ p.1 - 1) (h3 : 0 ≤ p.2.2.1) (h4 : p.2.2.1 < p.2.2.2.1) (h5 : p.2.2.2.1 ≤ t) (h6 : 0 ≤ p.2.2.2.2.1 ∧ p.2.2.2.2.1 ≤ 100)
    (h7 : p.2.2.2.2.1 ≠ 0 → p.2.1 = 0) : ptE t p = 0 := by
  unfold ptE
  rw [if_pos h1, if_pos h2, if_pos (by omega), if_pos (by omega), if_pos h6, if_neg (by omega), if_neg (fun ⟨a, b⟩ => b (h7 a))]

theorem sg_add (a b : Int) (c : Bool) : sg a c + sg b c = sg (a + b) c := by unfold sg; split <;> omega
theorem sg_not (a : Int) (c : Bool) : sg a (!c) + sg a c = 0 := by unfold sg; cases c <;> simp <;> omega

/-- A part that is divided at a height. -/
theorem high_ok {t c : Int} {p : Prt} (h : ptE t p = 0) (h1 : p.2.2.1 < c) (h2 : c < p.2.2.2.1) :
    ptE t (p.1, p.2.1, p.2.2.1, c, p.2.2.2.2) = 0 ∧ ptE t (p.1, p.2.1, c, p.2.2.2.1, p.2.2.2.2.1, p.2.2.2.2.2) = 0 ∧
    pV (p.1, p.2.1, p.2.2.1, c, p.2.2.2.2) + pV (p.1, p.2.1, c, p.2.2.2.1, p.2.2.2.2.1, p.2.2.2.2.2) = pV p ∧
    pM (p.1, p.2.1, p.2.2.1, c, p.2.2.2.2) + pM (p.1, p.2.1, c, p.2.2.2.1, p.2.2.2.2.1, p.2.2.2.2.2) = pM p := by
  obtain ⟨q1, q2, q3, q4, q5, q6, q7⟩ := ptE_0 h
  refine ⟨ptE_mk q1 q2 q3 h1 (by dsimp only; omega) q6 q7, ptE_mk q1 q2 (by dsimp only; omega) h2 q5 q6 q7, ?_, ?_⟩
  · simp only [pV]; generalize max p.2.2.2.2.1 1 = m; grind
  · simp only [pM, pV]; generalize max p.2.2.2.2.1 1 = m; grind
/-- A ring that is divided by a diameter. -/
theorem wide_ok {t c : Int} {p : Prt} (h : ptE t p = 0) (h0 : p.2.2.2.2.1 = 0) (h1 : p.2.1 < c) (h2 : c < p.1) :
    ptE t (p.1, c, p.2.2) = 0 ∧ ptE t (c, p.2.1, p.2.2.1, p.2.2.2.1, p.2.2.2.2.1, p.2.2.2.2.2) = 0 ∧
    pV (p.1, c, p.2.2) + pV (c, p.2.1, p.2.2.1, p.2.2.2.1, p.2.2.2.2.1, p.2.2.2.2.2) = pV p ∧
    pM (p.1, c, p.2.2) + pM (c, p.2.1, p.2.2.1, p.2.2.2.1, p.2.2.2.2.1, p.2.2.2.2.2) = pM p := by
  obtain ⟨q1, q2, q3, q4, q5, q6, q7⟩ := ptE_0 h
  refine ⟨ptE_mk q1 (by dsimp only; omega) q3 q4 q5 q6 (fun x => absurd h0 x), ptE_mk (by dsimp only; omega) (by dsimp only; omega) q3 q4 q5 q6 (fun x => absurd h0 x), ?_, ?_⟩
  · simp only [pV]; generalize max p.2.2.2.2.1 1 = m; grind
  · simp only [pM, pV]; generalize max p.2.2.2.2.1 1 = m; grind

/-- One part is put in the place of the first one, another one behind: with the same sums. -/
theorem tot_set {p p1 q : Prt} {r : List Prt} (hc1 : p1.2.2.2.2.2 = p.2.2.2.2.2) (hc2 : q.2.2.2.2.2 = p.2.2.2.2.2) (hV : pV p1 + pV q = pV p) (hM : pM p1 + pM q = pM p) :
    totP (List.set (p :: r) 0 p1 ++ [q]) = totP (p :: r) := by
  show totP ((p1 :: r) ++ [q]) = _
  rw [totP_app]
  simp only [totP, hc1, hc2, ← hV, ← hM, ← sg_add, Prod.mk.injEq]
  omega
theorem tot_both {p : Prt} {r : List Prt} : totP ((p :: r) ++ [(p.1, p.2.1, p.2.2.1, p.2.2.2.1, p.2.2.2.2.1, !p.2.2.2.2.2), (p.1, p.2.1, p.2.2.1, p.2.2.2.1, p.2.2.2.2.1, p.2.2.2.2.2)]) = totP (p :: r) := by
  rw [totP_app]
  have e1 := sg_not (pV p) p.2.2.2.2.2
  have e2 := sg_not (pM p) p.2.2.2.2.2
  have a1 : pV (p.1, p.2.1, p.2.2.1, p.2.2.2.1, p.2.2.2.2.1, !p.2.2.2.2.2) = pV p := rfl
  have a2 : pM (p.1, p.2.1, p.2.2.1, p.2.2.2.1, p.2.2.2.2.1, !p.2.2.2.2.2) = pM p := rfl
  have b1 : pV (p.1, p.2.1, p.2.2.1, p.2.2.2.1, p.2.2.2.2.1, p.2.2.2.2.2) = pV p := rfl
  have b2 : pM (p.1, p.2.1, p.2.2.1, p.2.2.2.1, p.2.2.2.2.1, p.2.2.2.2.2) = pM p := rfl
  simp only [totP, a1, a2, b1, b2, Prod.mk.injEq]
  omega
end Go.Ab
