/- BlankDivides: a ring that is divided at a height, or by a diameter, has the same volume and centre; a part and the same part cut add nothing; the order of parts does not matter. It answers true for all blanks. -/
import Derived.Test.YtlihngoejfmheaaBA
import Derived.Test.YtlihngoejfmheaaQLBlankDivides
namespace Go.Ab
open Go
set_option maxRecDepth 1000000
set_option maxHeartbeats 1000000
set_option linter.unusedVariables false
set_option linter.unusedSimpArgs false

theorem k_copied {g : Gla} (h0 : 0 < g.2.2.1.length) (h1 : g.2.2.1.length ≤ 43) (h2 : g.2.2.2.length ≤ 7) : law03xcopied g = some (((((g.1, g.2.1), (g.2.2.1, g.2.2.2)), ()), ()) : (((Int × Int) × (List Prt × List Cap)) × Unit) × Unit) := by
  unfold law03xcopied T_law03xcopied
  refine (q_of (app_t' (by omega) (by omega))).trans ?_
  refine (q_of (decide_eq_true h0)).trans ?_
  refine (q_of (app_t' (by omega) (by omega))).trans ?_
  refine (q_of (decide_eq_true rfl)).trans ?_
  exact r_ret _
theorem k_copiedP {g : Gla} (h0 : 0 < g.2.2.1.length) (h1 : g.2.2.1.length ≤ 43) (h2 : g.2.2.2.length ≤ 7) : law03xcopiedP g = some ((g, ()), ()) := by
  unfold law03xcopiedP T_law03xcopiedP
  refine (q_of (app_t' (by omega) (by omega))).trans ?_
  refine (q_of (decide_eq_true h0)).trans ?_
  refine (q_of (app_t' (by omega) (by omega))).trans ?_
  refine (q_of (decide_eq_true rfl)).trans ?_
  refine (q_of (decide_eq_true rfl)).trans ?_
  refine (q_of (decide_eq_true rfl)).trans ?_
  refine (q_of (decide_eq_true rfl)).trans ?_
  exact r_ret _

/-- Parts with which a blank is as it was. -/
structure Lk (g : Gla) (ps : List Prt) : Prop where
  np : ps.length ≤ 40
  pt : ∀ p ∈ ps, ptE g.2.1 p = 0
  tot : totP ps = totP g.2.2.1
theorem Lk.V {g : Gla} (hg : glE g = 0) {ps : List Prt} (L : Lk g ps) : blank_Volume (g.1, g.2.1, ps, g.2.2.2) = some (((wh g).1, (0, ())), ()) := like_V hg L.np L.pt L.tot
theorem Lk.C {g : Gla} (hg : glE g = 0) {ps : List Prt} (L : Lk g ps) : blank_Centre (g.1, g.2.1, ps, g.2.2.2) = some ((cenV g, (0, ())), ()) := like_C hg L.np L.pt L.tot

abbrev LS := Int × ((Int × Int) × List Prt × List Cap × Unit) × Unit
theorem turned_iter {ρ : Type} {g : Gla} (hl : g.2.2.1.length ≤ 8) {body : LS → Option (LS ⊕ ρ)} {r : ρ}
    (hstep : ∀ (a : Int) (acc : List Prt), 0 ≤ a → a < g.2.2.1.length → acc.length ≤ 8 → body (a, ((g.1, g.2.1), acc, g.2.2.2, ()), ()) = some (.inl (a - 1, ((g.1, g.2.1), acc ++ [gi g.2.2.1 a], g.2.2.2, ()), ())))
    (hend : body (-1, ((g.1, g.2.1), g.2.2.1.reverse, g.2.2.2, ()), ()) = some (.inr r)) :
    iterF body FUEL ((g.2.2.1.length : Int) - 1, ((g.1, g.2.1), [], g.2.2.2, ()), ()) = some r := by
  refine iter_eq (fun i y => y = ((g.2.2.1.length : Int) - 1 - (i : Int), ((g.1, g.2.1), g.2.2.1.reverse.take i, g.2.2.2, ()), ())) _ g.2.2.1.length (by omega) ?_ (by simp)
  rintro i y hi rfl
  by_cases e : i < g.2.2.1.length
  · left
    refine ⟨_, hstep _ _ (by omega) (by omega) (by rw [List.length_take]; omega), e, ?_⟩
    have e1 : (g.2.2.1.length : Int) - 1 - (i : Int) = ((g.2.2.1.length - 1 - i : Nat) : Int) := by omega
    have e2 : i < g.2.2.1.reverse.length := by rw [List.length_reverse]; exact e
    rw [List.take_succ_eq_append_getElem e2, e1, gi_nat (by omega), List.getElem_reverse]
    have e3 : ((g.2.2.1.length - 1 - i : Nat) : Int) - 1 = (g.2.2.1.length : Int) - 1 - ((i + 1 : Nat) : Int) := by omega
    rw [e3]
  · right
    have e1 : i = g.2.2.1.length := by omega
    subst e1
    have e2 : (g.2.2.1.length : Int) - 1 - ((g.2.2.1.length : Nat) : Int) = -1 := by omega
    have e3 : g.2.2.1.reverse.take g.2.2.1.length = g.2.2.1.reverse := by rw [List.take_of_length_le (by rw [List.length_reverse]; exact Nat.le_refl _)]
    rw [e2, e3]; exact hend

def hiP (g : Gla) (m : Int) : List Prt := List.set g.2.2.1 0 ((gi g.2.2.1 0).1, (gi g.2.2.1 0).2.1, (gi g.2.2.1 0).2.2.1, IntKind.i64.wrap (IntKind.i64.wrap ((gi g.2.2.1 0).2.2.1 + 1) + m), (gi g.2.2.1 0).2.2.2.2) ++ [((gi g.2.2.1 0).1, (gi g.2.2.1 0).2.1, IntKind.i64.wrap (IntKind.i64.wrap ((gi g.2.2.1 0).2.2.1 + 1) + m), (gi g.2.2.1 0).2.2.2.1, (gi g.2.2.1 0).2.2.2.2.1, (gi g.2.2.1 0).2.2.2.2.2)]
def wiP (g : Gla) (k : Int) : List Prt := List.set g.2.2.1 0 ((gi g.2.2.1 0).1, IntKind.i64.wrap (IntKind.i64.wrap ((gi g.2.2.1 0).2.1 + 1) + k), (gi g.2.2.1 0).2.2) ++ [(IntKind.i64.wrap (IntKind.i64.wrap ((gi g.2.2.1 0).2.1 + 1) + k), (gi g.2.2.1 0).2.1, (gi g.2.2.1 0).2.2.1, (gi g.2.2.1 0).2.2.2.1, (gi g.2.2.1 0).2.2.2.2.1, (gi g.2.2.1 0).2.2.2.2.2)]
def boP (g : Gla) : List Prt := g.2.2.1 ++ [((gi g.2.2.1 0).1, (gi g.2.2.1 0).2.1, (gi g.2.2.1 0).2.2.1, (gi g.2.2.1 0).2.2.2.1, (gi g.2.2.1 0).2.2.2.2.1, !(gi g.2.2.1 0).2.2.2.2.2), ((gi g.2.2.1 0).1, (gi g.2.2.1 0).2.1, (gi g.2.2.1 0).2.2.1, (gi g.2.2.1 0).2.2.2.1, (gi g.2.2.1 0).2.2.2.2.1, (gi g.2.2.1 0).2.2.2.2.2)]
theorem lp10 {g : Gla} (hg : glE g = 0) (hl : g.2.2.1.length ≤ 8) {m k : Int} (hb : Lk g (boP g)) (hr : Lk g g.2.2.1.reverse) (hh : Lk g (hiP g m)) (hw : Lk g (wiP g k)) :
    iterF (fun y : LS => (T_law03xBlankDivides_l10 g ((((wh g).1, (0, ())), ()) : (Int × (Int × Unit)) × Unit) (((cenV g, (0, ())), ()) : ((Int × Int) × (Int × Unit)) × Unit) (((((g.1, g.2.1), (g.2.2.1, g.2.2.2)), ()), ()) : (((Int × Int) × (List Prt × List Cap)) × Unit) × Unit) (((((g.1, g.2.1), (g.2.2.1, g.2.2.2)), ()), ()) : (((Int × Int) × (List Prt × List Cap)) × Unit) × Unit) (((m, ()), ()) : (Int × Unit) × Unit) (((k, ()), ()) : (Int × Unit) × Unit) (((((g.1, g.2.1), (g.2.2.1, g.2.2.2)), ()), ()) : (((Int × Int) × (List Prt × List Cap)) × Unit) × Unit) y.1 y.2.1).run) FUEL ((g.2.2.1.length : Int) - 1, ((g.1, g.2.1), [], g.2.2.2, ()), ()) = some (((true, ()), ()) : (Bool × Unit) × Unit) := by
  refine turned_iter hl ?_ ?_
  · intro a acc h0 h1 h2
    dsimp only
    unfold T_law03xBlankDivides_l10
    refine (br_t (decide_eq_true h0)).trans ?_
    refine (q_of (inB_t' h0 h1)).trans ?_
    refine (q_of (decide_eq_true rfl)).trans ?_
    refine (q_of (app_t' (by simp; omega) (by simp; omega))).trans ?_
    refine (q_of (decide_eq_true (by simp))).trans ?_
    refine (q_of (decide_eq_true rfl)).trans ?_
    rw [w64' (x := a - 1) (by omega) (by omega)]
    exact r_ret _
  · dsimp only
    unfold T_law03xBlankDivides_l10
    refine (br_f (decide_eq_false (by omega))).trans ?_
    repeat (refine (q_of (decide_eq_true rfl)).trans ?_)
    refine (r_bs (hh.V hg)).trans ?_
    refine (r_bs (hh.C hg)).trans ?_
    refine (br_f (nd rfl)).trans ?_
    refine (br_f (nd rfl)).trans ?_
    refine (br_f (nd rfl)).trans ?_
    refine (br_f (by simp)).trans ?_
    repeat (refine (q_of (decide_eq_true rfl)).trans ?_)
    refine (r_bs (hw.V hg)).trans ?_
    refine (r_bs (hw.C hg)).trans ?_
    refine (br_f (nd rfl)).trans ?_
    refine (br_f (nd rfl)).trans ?_
    refine (br_f (nd rfl)).trans ?_
    refine (br_f (by simp)).trans ?_
    repeat (refine (q_of (decide_eq_true rfl)).trans ?_)
    refine (r_bs (hb.V hg)).trans ?_
    refine (r_bs (hb.C hg)).trans ?_
    refine (br_f (nd rfl)).trans ?_
    refine (br_f (nd rfl)).trans ?_
    refine (br_f (nd rfl)).trans ?_
    refine (br_f (by simp)).trans ?_
    repeat (refine (q_of (decide_eq_true rfl)).trans ?_)
    refine (r_bs (hr.V hg)).trans ?_
    refine (r_bs (hr.C hg)).trans ?_
    refine (br_f (nd rfl)).trans ?_
    refine (br_f (nd rfl)).trans ?_
    refine (br_f (nd rfl)).trans ?_
    refine (br_f (by simp)).trans ?_
    exact r_ret _
theorem lp20 {g : Gla} (hg : glE g = 0) (hl : g.2.2.1.length ≤ 8) {m : Int} (hb : Lk g (boP g)) (hr : Lk g g.2.2.1.reverse) (hh : Lk g (hiP g m)) (hs : Lk g g.2.2.1) :
    iterF (fun y : LS => (T_law03xBlankDivides_l20 g ((((wh g).1, (0, ())), ()) : (Int × (Int × Unit)) × Unit) (((cenV g, (0, ())), ()) : ((Int × Int) × (Int × Unit)) × Unit) (((((g.1, g.2.1), (g.2.2.1, g.2.2.2)), ()), ()) : (((Int × Int) × (List Prt × List Cap)) × Unit) × Unit) (((((g.1, g.2.1), (g.2.2.1, g.2.2.2)), ()), ()) : (((Int × Int) × (List Prt × List Cap)) × Unit) × Unit) (((m, ()), ()) : (Int × Unit) × Unit) (((((g.1, g.2.1), (g.2.2.1, g.2.2.2)), ()), ()) : (((Int × Int) × (List Prt × List Cap)) × Unit) × Unit) y.1 y.2.1).run) FUEL ((g.2.2.1.length : Int) - 1, ((g.1, g.2.1), [], g.2.2.2, ()), ()) = some (((true, ()), ()) : (Bool × Unit) × Unit) := by
  refine turned_iter hl ?_ ?_
  · intro a acc h0 h1 h2
    dsimp only
    unfold T_law03xBlankDivides_l20
    refine (br_t (decide_eq_true h0)).trans ?_
    refine (q_of (inB_t' h0 h1)).trans ?_
    refine (q_of (decide_eq_true rfl)).trans ?_
    refine (q_of (app_t' (by simp; omega) (by simp; omega))).trans ?_
    refine (q_of (decide_eq_true (by simp))).trans ?_
    refine (q_of (decide_eq_true rfl)).trans ?_
    rw [w64' (x := a - 1) (by omega) (by omega)]
    exact r_ret _
  · dsimp only
    unfold T_law03xBlankDivides_l20
    refine (br_f (decide_eq_false (by omega))).trans ?_
    repeat (refine (q_of (decide_eq_true rfl)).trans ?_)
    refine (r_bs (hh.V hg)).trans ?_
    refine (r_bs (hh.C hg)).trans ?_
    refine (br_f (nd rfl)).trans ?_
    refine (br_f (nd rfl)).trans ?_
    refine (br_f (nd rfl)).trans ?_
    refine (br_f (by simp)).trans ?_
    repeat (refine (q_of (decide_eq_true rfl)).trans ?_)
    refine (r_bs (hs.V hg)).trans ?_
    refine (r_bs (hs.C hg)).trans ?_
    refine (br_f (nd rfl)).trans ?_
    refine (br_f (nd rfl)).trans ?_
    refine (br_f (nd rfl)).trans ?_
    refine (br_f (by simp)).trans ?_
    repeat (refine (q_of (decide_eq_true rfl)).trans ?_)
    refine (r_bs (hb.V hg)).trans ?_
    refine (r_bs (hb.C hg)).trans ?_
    refine (br_f (nd rfl)).trans ?_
    refine (br_f (nd rfl)).trans ?_
    refine (br_f (nd rfl)).trans ?_
    refine (br_f (by simp)).trans ?_
    repeat (refine (q_of (decide_eq_true rfl)).trans ?_)
    refine (r_bs (hr.V hg)).trans ?_
    refine (r_bs (hr.C hg)).trans ?_
    refine (br_f (nd rfl)).trans ?_
    refine (br_f (nd rfl)).trans ?_
    refine (br_f (nd rfl)).trans ?_
    refine (br_f (by simp)).trans ?_
    exact r_ret _
theorem lp41 {g : Gla} (hg : glE g = 0) (hl : g.2.2.1.length ≤ 8) {k : Int} (hb : Lk g (boP g)) (hr : Lk g g.2.2.1.reverse) (hw : Lk g (wiP g k)) (hs : Lk g g.2.2.1) :
    iterF (fun y : LS => (T_law03xBlankDivides_l41 g ((((wh g).1, (0, ())), ()) : (Int × (Int × Unit)) × Unit) (((cenV g, (0, ())), ()) : ((Int × Int) × (Int × Unit)) × Unit) (((((g.1, g.2.1), (g.2.2.1, g.2.2.2)), ()), ()) : (((Int × Int) × (List Prt × List Cap)) × Unit) × Unit) (((((g.1, g.2.1), (g.2.2.1, g.2.2.2)), ()), ()) : (((Int × Int) × (List Prt × List Cap)) × Unit) × Unit) (((k, ()), ()) : (Int × Unit) × Unit) (((((g.1, g.2.1), (g.2.2.1, g.2.2.2)), ()), ()) : (((Int × Int) × (List Prt × List Cap)) × Unit) × Unit) y.1 y.2.1).run) FUEL ((g.2.2.1.length : Int) - 1, ((g.1, g.2.1), [], g.2.2.2, ()), ()) = some (((true, ()), ()) : (Bool × Unit) × Unit) := by
  refine turned_iter hl ?_ ?_
  · intro a acc h0 h1 h2
    dsimp only
    unfold T_law03xBlankDivides_l41
    refine (br_t (decide_eq_true h0)).trans ?_
    refine (q_of (inB_t' h0 h1)).trans ?_
    refine (q_of (decide_eq_true rfl)).trans ?_
    refine (q_of (app_t' (by simp; omega) (by simp; omega))).trans ?_
    refine (q_of (decide_eq_true (by simp))).trans ?_
    refine (q_of (decide_eq_true rfl)).trans ?_
    rw [w64' (x := a - 1) (by omega) (by omega)]
    exact r_ret _
  · dsimp only
    unfold T_law03xBlankDivides_l41
    refine (br_f (decide_eq_false (by omega))).trans ?_
    repeat (refine (q_of (decide_eq_true rfl)).trans ?_)
    refine (r_bs (hs.V hg)).trans ?_
    refine (r_bs (hs.C hg)).trans ?_
    refine (br_f (nd rfl)).trans ?_
    refine (br_f (nd rfl)).trans ?_
    refine (br_f (nd rfl)).trans ?_
    refine (br_f (by simp)).trans ?_
    repeat (refine (q_of (decide_eq_true rfl)).trans ?_)
    refine (r_bs (hw.V hg)).trans ?_
    refine (r_bs (hw.C hg)).trans ?_
    refine (br_f (nd rfl)).trans ?_
    refine (br_f (nd rfl)).trans ?_
    refine (br_f (nd rfl)).trans ?_
    refine (br_f (by simp)).trans ?_
    repeat (refine (q_of (decide_eq_true rfl)).trans ?_)
    refine (r_bs (hb.V hg)).trans ?_
    refine (r_bs (hb.C hg)).trans ?_
    refine (br_f (nd rfl)).trans ?_
    refine (br_f (nd rfl)).trans ?_
    refine (br_f (nd rfl)).trans ?_
    refine (br_f (by simp)).trans ?_
    repeat (refine (q_of (decide_eq_true rfl)).trans ?_)
    refine (r_bs (hr.V hg)).trans ?_
    refine (r_bs (hr.C hg)).trans ?_
    refine (br_f (nd rfl)).trans ?_
    refine (br_f (nd rfl)).trans ?_
    refine (br_f (nd rfl)).trans ?_
    refine (br_f (by simp)).trans ?_
    exact r_ret _
theorem lp51 {g : Gla} (hg : glE g = 0) (hl : g.2.2.1.length ≤ 8) (hb : Lk g (boP g)) (hr : Lk g g.2.2.1.reverse) (hs : Lk g g.2.2.1) :
    iterF (fun y : LS => (T_law03xBlankDivides_l51 g ((((wh g).1, (0, ())), ()) : (Int × (Int × Unit)) × Unit) (((cenV g, (0, ())), ()) : ((Int × Int) × (Int × Unit)) × Unit) (((((g.1, g.2.1), (g.2.2.1, g.2.2.2)), ()), ()) : (((Int × Int) × (List Prt × List Cap)) × Unit) × Unit) (((((g.1, g.2.1), (g.2.2.1, g.2.2.2)), ()), ()) : (((Int × Int) × (List Prt × List Cap)) × Unit) × Unit) (((((g.1, g.2.1), (g.2.2.1, g.2.2.2)), ()), ()) : (((Int × Int) × (List Prt × List Cap)) × Unit) × Unit) y.1 y.2.1).run) FUEL ((g.2.2.1.length : Int) - 1, ((g.1, g.2.1), [], g.2.2.2, ()), ()) = some (((true, ()), ()) : (Bool × Unit) × Unit) := by
  refine turned_iter hl ?_ ?_
  · intro a acc h0 h1 h2
    dsimp only
    unfold T_law03xBlankDivides_l51
    refine (br_t (decide_eq_true h0)).trans ?_
    refine (q_of (inB_t' h0 h1)).trans ?_
    refine (q_of (decide_eq_true rfl)).trans ?_
    refine (q_of (app_t' (by simp; omega) (by simp; omega))).trans ?_
    refine (q_of (decide_eq_true (by simp))).trans ?_
    refine (q_of (decide_eq_true rfl)).trans ?_
    rw [w64' (x := a - 1) (by omega) (by omega)]
    exact r_ret _
  · dsimp only
    unfold T_law03xBlankDivides_l51
    refine (br_f (decide_eq_false (by omega))).trans ?_
    repeat (refine (q_of (decide_eq_true rfl)).trans ?_)
    refine (r_bs (hs.V hg)).trans ?_
    refine (r_bs (hs.C hg)).trans ?_
    refine (br_f (nd rfl)).trans ?_
    refine (br_f (nd rfl)).trans ?_
    refine (br_f (nd rfl)).trans ?_
    refine (br_f (by simp)).trans ?_
    repeat (refine (q_of (decide_eq_true rfl)).trans ?_)
    refine (r_bs (hs.V hg)).trans ?_
    refine (r_bs (hs.C hg)).trans ?_
    refine (br_f (nd rfl)).trans ?_
    refine (br_f (nd rfl)).trans ?_
    refine (br_f (nd rfl)).trans ?_
    refine (br_f (by simp)).trans ?_
    repeat (refine (q_of (decide_eq_true rfl)).trans ?_)
    refine (r_bs (hb.V hg)).trans ?_
    refine (r_bs (hb.C hg)).trans ?_
    refine (br_f (nd rfl)).trans ?_
    refine (br_f (nd rfl)).trans ?_
    refine (br_f (nd rfl)).trans ?_
    refine (br_f (by simp)).trans ?_
    repeat (refine (q_of (decide_eq_true rfl)).trans ?_)
    refine (r_bs (hr.V hg)).trans ?_
    refine (r_bs (hr.C hg)).trans ?_
    refine (br_f (nd rfl)).trans ?_
    refine (br_f (nd rfl)).trans ?_
    refine (br_f (nd rfl)).trans ?_
    refine (br_f (by simp)).trans ?_
    exact r_ret _
end Go.Ab
