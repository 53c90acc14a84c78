/- Heights at planes, the range of heights; OpticsHeights answers true. -/
import Derived.Test.YtpgagefaneaioaaH3
import Derived.Test.YtpgagefaneaioaaH8
import Derived.Test.YtpgagefaneaioaaR1
import Derived.Test.YtpgagefaneaioaaQLOpticsHeights
namespace Go.Ab
open Go
set_option maxRecDepth 1000000
set_option maxHeartbeats 1000000
set_option linter.unusedVariables false
set_option linter.unusedSimpArgs false
attribute [local congr] bindC iterC

theorem gi_mem {α : Type} [Inhabited α] {l : List α} {i : Nat} (h : i < l.length) : gi l (i : Int) ∈ l := by simp [gi, List.getD, List.getElem?_eq_getElem h]

/-- The height of a line at a plane, and whether a number on the way was large. -/
def heL (p t : Sp) (z : Fr) : Bool := false || subl z p.2 || quol t.1 t.2 || mull (subv z p.2) (quov t.1 t.2) || addl p.1 (mulv (subv z p.2) (quov t.1 t.2))
def heV (p t : Sp) (z : Fr) : Fr := addv p.1 (mulv (subv z p.2) (quov t.1 t.2))
def heC (p t : Sp) (z : Fr) : Int := firstErr (fun i => cfE (gi [p.1, p.2, t.1, t.2, z] i)) 5
def heR (p t : Sp) (z : Fr) : Fr × Int := if heC p t z = 0 then (if t.2.1 = 0 then ((0, 0), 11) else if heL p t z = true then ((0, 0), 8) else (heV p t z, 0)) else ((0, 0), heC p t z)
theorem heC_ok {p t : Sp} {z : Fr} (h : heC p t z = 0) : Small p.1 ∧ Small p.2 ∧ Small t.1 ∧ Small t.2 ∧ Small z :=
  ⟨cfE_zero.1 (firstErr_eq0 h 0 (by decide)), cfE_zero.1 (firstErr_eq0 h 1 (by decide)), cfE_zero.1 (firstErr_eq0 h 2 (by decide)), cfE_zero.1 (firstErr_eq0 h 3 (by decide)), cfE_zero.1 (firstErr_eq0 h 4 (by decide))⟩
theorem k_HeightAt {p t : Sp} {z : Fr} (h1 : IF p.1) (h2 : IF p.2) (h3 : IF t.1) (h4 : IF t.2) (h5 : IF z) : optics_HeightAt p t z = some (((heR p t z).1, (heR p t z).2, ()), ()) := by
  have kf : optics_checkFracs [p.1, p.2, t.1, t.2, z] = some ((heC p t z, ()), ()) := by
    rw [k_ocheckFracs (by simp) (by
      intro i hi
      simp only [List.length_cons, List.length_nil] at hi
      match i, hi with
      | 0, _ => exact h1
      | 1, _ => exact h2
      | 2, _ => exact h3
      | 3, _ => exact h4
      | 4, _ => exact h5)]
    rfl
  simp only [optics_HeightAt, T_optics_HeightAt, heR]
  refine (r_bs kf).trans ?_
  by_cases c : heC p t z = 0
  · obtain ⟨s1, s2, s3, s4, s5⟩ := heC_ok c
    rw [if_pos c]
    refine (br_f (by simp [c])).trans ?_
    by_cases d : t.2.1 = 0
    · rw [if_pos d]
      exact (br_t (decide_eq_true d)).trans (r_ret _)
    · rw [if_neg d]
      refine (br_f (decide_eq_false d)).trans ?_
      obtain ⟨v1, g1, q1⟩ := c_sub (l := false) (.self s5) (.self s2)
      obtain ⟨v2, g2, q2⟩ := c_quoA g1 (.self s3) (.self s4) (fun _ => d)
      obtain ⟨v3, g3, q3⟩ := c_mulA g2 g1.o g2
      obtain ⟨v4, g4, q4⟩ := c_addA g3 (.self s1) g3
      rw [show e8 false = 0 from rfl] at q1
      have g4 : Agree (heL p t z) (heV p t z) v4 := g4
      have kt := k_toldF v4 (heL p t z)
      refine (r_bs q1).trans ?_
      refine (r_bs q2).trans ?_
      refine (r_bs q3).trans ?_
      refine (r_bs q4).trans ?_
      refine (r_bs kt).trans ?_
      refine (r_ret _).trans ?_
      generalize heL p t z = L at *
      cases L with
      | true => rfl
      | false => rw [g4.same rfl]; rfl
  · rw [if_neg c]
    exact (br_t (by simp [c])).trans (r_ret _)
theorem k_rHeightAt {p t : Sp} {z : Fr} (h1 : IF p.1) (h2 : IF p.2) (h3 : IF t.1) (h4 : IF t.2) (h5 : IF z) : ref02xHeightAt p t z = some (((heR p t z).1, (heR p t z).2, ()), ()) := by
  simp only [ref02xHeightAt, T_ref02xHeightAt, r_iter]
  refine iter_eq (fun i x => x = ((i : Int), (0, 0), ()) ∧ ∀ j, j < i → cfE (gi [p.1, p.2, t.1, t.2, z] (j : Nat)) = 0) _ 5 (by omega) ?_ ⟨rfl, fun j hj => by omega⟩
  rintro i x hi ⟨rfl, hp⟩
  simp only [T_ref02xHeightAt_l0]
  match i, hi, hp with
  | 0, _, hp =>
    have hk := k_rCheckFrac h1.1 h1.2
    by_cases c : cfE p.1 = 0
    · left
      refine ⟨((1 : Int), (0, 0), ()), ?_, by decide, rfl, fun j hj => ?_⟩
      · skip
        refine (br_t rfl).trans ?_
        refine (br_t rfl).trans ?_
        refine (r_bs hk).trans ?_
        exact (br_f (by simp [c])).trans (r_ret _)
      · by_cases e : j = 0
        · subst e; exact c
        · exact hp j (by omega)
    · right
      have hE : heC p t z = cfE p.1 := firstErr_at (i := 0) hp c (by decide)
      have hR : heR p t z = ((0, 0), cfE p.1) := by unfold heR; rw [hE, if_neg c]
      rw [hR]
      refine (br_t rfl).trans ?_
      refine (br_t rfl).trans ?_
      refine (r_bs hk).trans ?_
      exact (br_t (by simp [c])).trans (r_ret _)
  | 1, _, hp =>
    have hk := k_rCheckFrac h2.1 h2.2
    by_cases c : cfE p.2 = 0
    · left
      refine ⟨((2 : Int), (0, 0), ()), ?_, by decide, rfl, fun j hj => ?_⟩
      · skip
        refine (br_t rfl).trans ?_
        refine (br_f rfl).trans ?_
        refine (br_t rfl).trans ?_
        refine (r_bs hk).trans ?_
        exact (br_f (by simp [c])).trans (r_ret _)
      · by_cases e : j = 1
        · subst e; exact c
        · exact hp j (by omega)
    · right
      have hE : heC p t z = cfE p.2 := firstErr_at (i := 1) hp c (by decide)
      have hR : heR p t z = ((0, 0), cfE p.2) := by unfold heR; rw [hE, if_neg c]
      rw [hR]
      refine (br_t rfl).trans ?_
      refine (br_f rfl).trans ?_
      refine (br_t rfl).trans ?_
      refine (r_bs hk).trans ?_
      exact (br_t (by simp [c])).trans (r_ret _)
  | 2, _, hp =>
    have hk := k_rCheckFrac h3.1 h3.2
    by_cases c : cfE t.1 = 0
    · left
      refine ⟨((3 : Int), (0, 0), ()), ?_, by decide, rfl, fun j hj => ?_⟩
      · skip
        refine (br_t rfl).trans ?_
        refine (br_f rfl).trans ?_
        refine (br_f rfl).trans ?_
        refine (br_t rfl).trans ?_
        refine (r_bs hk).trans ?_
        exact (br_f (by simp [c])).trans (r_ret _)
      · by_cases e : j = 2
        · subst e; exact c
        · exact hp j (by omega)
    · right
      have hE : heC p t z = cfE t.1 := firstErr_at (i := 2) hp c (by decide)
      have hR : heR p t z = ((0, 0), cfE t.1) := by unfold heR; rw [hE, if_neg c]
      rw [hR]
      refine (br_t rfl).trans ?_
      refine (br_f rfl).trans ?_
      refine (br_f rfl).trans ?_
      refine (br_t rfl).trans ?_
      refine (r_bs hk).trans ?_
      exact (br_t (by simp [c])).trans (r_ret _)
  | 3, _, hp =>
    have hk := k_rCheckFrac h4.1 h4.2
    by_cases c : cfE t.2 = 0
    · left
      refine ⟨((4 : Int), (0, 0), ()), ?_, by decide, rfl, fun j hj => ?_⟩
      · skip
        refine (br_t rfl).trans ?_
        refine (br_f rfl).trans ?_
        refine (br_f rfl).trans ?_
        refine (br_f rfl).trans ?_
        refine (br_t rfl).trans ?_
        refine (r_bs hk).trans ?_
        exact (br_f (by simp [c])).trans (r_ret _)
      · by_cases e : j = 3
        · subst e; exact c
        · exact hp j (by omega)
    · right
      have hE : heC p t z = cfE t.2 := firstErr_at (i := 3) hp c (by decide)
      have hR : heR p t z = ((0, 0), cfE t.2) := by unfold heR; rw [hE, if_neg c]
      rw [hR]
      refine (br_t rfl).trans ?_
      refine (br_f rfl).trans ?_
      refine (br_f rfl).trans ?_
      refine (br_f rfl).trans ?_
      refine (br_t rfl).trans ?_
      refine (r_bs hk).trans ?_
      exact (br_t (by simp [c])).trans (r_ret _)
  | 4, _, hp =>
    have hk := k_rCheckFrac h5.1 h5.2
    by_cases c : cfE z = 0
    · left
      refine ⟨((5 : Int), (0, 0), ()), ?_, by decide, rfl, fun j hj => ?_⟩
      · skip
        refine (br_t rfl).trans ?_
        refine (br_f rfl).trans ?_
        refine (br_f rfl).trans ?_
        refine (br_f rfl).trans ?_
        refine (br_f rfl).trans ?_
        refine (br_t rfl).trans ?_
        refine (r_bs hk).trans ?_
        exact (br_f (by simp [c])).trans (r_ret _)
      · by_cases e : j = 4
        · subst e; exact c
        · exact hp j (by omega)
    · right
      have hE : heC p t z = cfE z := firstErr_at (i := 4) hp c (by decide)
      have hR : heR p t z = ((0, 0), cfE z) := by unfold heR; rw [hE, if_neg c]
      rw [hR]
      refine (br_t rfl).trans ?_
      refine (br_f rfl).trans ?_
      refine (br_f rfl).trans ?_
      refine (br_f rfl).trans ?_
      refine (br_f rfl).trans ?_
      refine (br_t rfl).trans ?_
      refine (r_bs hk).trans ?_
      exact (br_t (by simp [c])).trans (r_ret _)
  | 5, _, hp =>
    right
    have hC : heC p t z = 0 := firstErr_0 hp
    obtain ⟨s1, s2, s3, s4, s5⟩ := heC_ok hC
    refine (br_f rfl).trans ?_
    unfold heR
    rw [if_pos hC]
    by_cases d : t.2.1 = 0
    · rw [if_pos d]
      exact (br_t (decide_eq_true d)).trans (r_ret _)
    · rw [if_neg d]
      refine (br_f (decide_eq_false d)).trans ?_
      have r1 := k_rSub s5 s2 false
      have r2 := k_rQuo s3 s4 (false || subl z p.2)
      have r3 := k_rMul (small_subv z p.2) (small_quov t.1 t.2) (false || subl z p.2 || quol t.1 t.2)
      have r4 : ref02xWay_Add p.1 (mulv (subv z p.2) (quov t.1 t.2)) (false || subl z p.2 || quol t.1 t.2 || mull (subv z p.2) (quov t.1 t.2)) = some ((heV p t z, ()), (heL p t z, ())) := k_rAdd s1 (small_mulv _ _) _
      have kf := k_fraction (heV p t z) (heL p t z)
      refine (r_bs r1).trans ?_
      refine (r_bs r2).trans ?_
      refine (r_bs r3).trans ?_
      refine (r_bs r4).trans ?_
      refine (r_bs kf).trans ?_
      refine (r_ret _).trans ?_
      generalize heL p t z = L at *
      cases L <;> rfl
/-- The range of the first fractions. -/
def fl (f : Fr) : Int := f.1 / f.2
def ce (f : Fr) : Int := -(-f.1 / f.2)
def soR (l : List Fr) : Nat → Int × Int
  | 0 => (fl (gi l 0), ce (gi l 0))
  | n + 1 => (min (soR l n).1 (fl (gi l (n + 1 : Nat))), max (soR l n).2 (ce (gi l (n + 1 : Nat))))
def soC (l : List Fr) : Int := firstErr (fun i => cfE (gi l i)) l.length
def soE (l : List Fr) : Int := if l.length = 0 then 10 else if 60 < l.length then 8 else soC l
def soV (l : List Fr) : Int × Int := if soE l = 0 then soR l (l.length - 1) else (0, 0)
theorem fl_ce {f : Fr} (h : Small f) : optics_rounded f.1 f.2 = some (((fl f, ce f), ()), ()) ∧ base_Floor f.1 f.2 = some ((fl f, ()), ()) ∧ base_Ceil f.1 f.2 = some ((ce f, ()), ()) := by
  obtain ⟨⟨h0, _⟩, h1, h2, h3⟩ := h
  exact ⟨k_rounded h0 (by omega) (by omega) (by omega), k_Floor h0 (by omega) (by omega) (by omega), k_Ceil h0 (by omega) (by omega) (by omega)⟩
theorem gi_drop {α : Type} [Inhabited α] {l : List α} {j : Nat} : gi (part l 1 (l.length : Int)) (j : Int) = gi l ((j + 1 : Nat) : Int) := by
  simp [gi, part, List.getD, List.getElem?_drop, Nat.add_comm]
theorem part_len1 {α : Type} {l : List α} : (part l 1 (l.length : Int)).length = l.length - 1 := by simp [part]
theorem k_SpotOf {l : List Fr} (hl : l.length ≤ 1099511627776) (hw : ∀ i : Nat, i < l.length → IF (gi l i)) : optics_SpotOf l = some ((soV l, soE l, ()), ()) := by
  have kf : optics_checkFracs l = some ((soC l, ()), ()) := k_ocheckFracs hl hw
  simp only [optics_SpotOf, T_optics_SpotOf]
  by_cases c0 : l.length = 0
  · have hE : soE l = 10 := by unfold soE; rw [if_pos c0]
    have hV : soV l = (0, 0) := by unfold soV; rw [hE]; rfl
    rw [hE, hV]
    exact (br_t (decide_eq_true (by omega))).trans (r_ret _)
  · refine (br_f (decide_eq_false (by omega))).trans ?_
    by_cases c1 : 60 < l.length
    · have hE : soE l = 8 := by unfold soE; rw [if_neg c0, if_pos c1]
      have hV : soV l = (0, 0) := by unfold soV; rw [hE]; rfl
      rw [hE, hV]
      exact (br_t (decide_eq_true (by omega))).trans (r_ret _)
    · have hE : soE l = soC l := by unfold soE; rw [if_neg c0, if_neg c1]
      refine (br_f (decide_eq_false (by omega))).trans ?_
      refine (r_bs kf).trans ?_
      by_cases c2 : soC l = 0
      · have hs : ∀ i : Nat, i < l.length → Small (gi l i) := fun i hi => cfE_zero.1 (firstErr_eq0 c2 i hi)
        have hV : soV l = soR l (l.length - 1) := by unfold soV; rw [hE, if_pos c2]
        rw [hE, hV, c2]
        refine (br_f rfl).trans ?_
        have b0 : inB 0 l.length = true := inB_t' (by decide) (by omega)
        have b1 : bndOk 1 (l.length : Int) l.length = true := bnd_t' (by decide) (by omega) (by omega)
        refine (q_of b0).trans ?_
        refine (q_of b0).trans ?_
        refine (r_bs (fl_ce (hs 0 (by omega))).1).trans ?_
        refine (q_of b1).trans ?_
        rw [r_iter]
        refine iter_eq (fun i x => x = ((i : Int), soR l i, ())) _ (l.length - 1) (by omega) ?_ rfl
        rintro i x hi rfl
        simp only [T_optics_SpotOf_l2, part_len1]
        by_cases hlt : i < l.length - 1
        · left
          have k1 := (fl_ce (hs (i + 1) (by omega))).1
          rw [← gi_drop] at k1
          refine ⟨_, (br_t (decide_eq_true (by omega))).trans ((q_of (inB_t' (by omega) (by omega))).trans ((r_bs k1).trans (r_ret _))), hlt, ?_⟩
          rw [w64' (by omega) (by omega)]
          simp only [gi_drop]
          rfl
        · right
          have e : i = l.length - 1 := by omega
          subst e
          exact (br_f (decide_eq_false (by omega))).trans (r_ret _)
      · have hV : soV l = (0, 0) := by unfold soV; rw [hE, if_neg c2]
        rw [hE, hV]
        exact (br_t (by simp [c2])).trans (r_ret _)
theorem k_rSpotOf {l : List Fr} (hl : l.length ≤ 1099511627776) (hw : ∀ i : Nat, i < l.length → IF (gi l i)) : ref02xSpotOf l = some ((soV l, soE l, ()), ()) := by
  simp only [ref02xSpotOf, T_ref02xSpotOf]
  by_cases c0 : l.length = 0
  · have hE : soE l = 10 := by unfold soE; rw [if_pos c0]
    have hV : soV l = (0, 0) := by unfold soV; rw [hE]; rfl
    rw [hE, hV]
    exact (br_t (decide_eq_true (by omega))).trans (r_ret _)
  · refine (br_f (decide_eq_false (by omega))).trans ?_
    by_cases c1 : 60 < l.length
    · have hE : soE l = 8 := by unfold soE; rw [if_neg c0, if_pos c1]
      have hV : soV l = (0, 0) := by unfold soV; rw [hE]; rfl
      rw [hE, hV]
      exact (br_t (decide_eq_true (by omega))).trans (r_ret _)
    · have hE : soE l = soC l := by unfold soE; rw [if_neg c0, if_neg c1]
      refine (br_f (decide_eq_false (by omega))).trans ?_
      have hV : soV l = if soC l = 0 then soR l (l.length - 1) else (0, 0) := by unfold soV; simp only [hE]
      rw [r_iter, hV, hE]
      refine iter_err (st := fun i => ((i : Int), (0, 0), ())) (f := fun i => cfE (gi l i)) l.length (by omega) (fun e => ((if e = 0 then soR l (l.length - 1) else (0, 0), e, ()), ())) ?_ ?_ ?_
      · intro i hi _ hc
        have hk := k_rCheckFrac (hw i hi).1 (hw i hi).2
        have hc : ¬ cfE (gi l (i : Int)) = 0 := hc
        simp only [T_ref02xSpotOf_l0]
        rw [if_neg hc]
        refine (br_t (decide_eq_true (by omega))).trans ?_
        refine (q_of (inB_t' (by omega) (by omega))).trans ?_
        refine (r_bs hk).trans ?_
        exact (br_t (by simp [hc])).trans (r_ret _)
      · intro i hi _ hc
        have hk := k_rCheckFrac (hw i hi).1 (hw i hi).2
        have hc : cfE (gi l (i : Int)) = 0 := hc
        simp only [T_ref02xSpotOf_l0]
        refine (br_t (decide_eq_true (by omega))).trans ?_
        refine (q_of (inB_t' (by omega) (by omega))).trans ?_
        refine (r_bs hk).trans ?_
        refine (br_f (by simp [hc])).trans ((r_ret _).trans ?_)
        rw [w64' (by omega) (by omega)]
        rfl
      · intro hz
        have hs : ∀ i : Nat, i < l.length → Small (gi l i) := fun i hi => cfE_zero.1 (hz i hi)
        have b0 : inB 0 l.length = true := inB_t' (by decide) (by omega)
        simp only [T_ref02xSpotOf_l0]
        refine (br_f (decide_eq_false (by omega))).trans ?_
        refine (q_of b0).trans ?_
        refine (q_of b0).trans ?_
        refine (r_bs (fl_ce (hs 0 (by omega))).2.1).trans ?_
        refine (q_of b0).trans ?_
        refine (q_of b0).trans ?_
        refine (r_bs (fl_ce (hs 0 (by omega))).2.2).trans ?_
        rw [r_iter, if_pos trivial]
        refine iter_eq (fun i x => x = (((i + 1 : Nat) : Int), soR l i, ())) _ (l.length - 1) (by omega) ?_ rfl
        rintro i x hi rfl
        simp only [T_ref02xSpotOf_l4]
        by_cases hlt : i < l.length - 1
        · left
          have k1 := (fl_ce (hs (i + 1) (by omega))).2.1
          have k2 := (fl_ce (hs (i + 1) (by omega))).2.2
          have b1 : inB ((i + 1 : Nat) : Int) l.length = true := inB_t' (by omega) (by omega)
          refine ⟨_, (br_t (decide_eq_true (by omega))).trans ((q_of b1).trans ((q_of b1).trans ((r_bs k1).trans ((q_of b1).trans ((q_of b1).trans ((r_bs k2).trans (r_ret _))))))), hlt, ?_⟩
          rw [w64' (by omega) (by omega)]
          rfl
        · right
          have e : i = l.length - 1 := by omega
          subst e
          exact (br_f (decide_eq_false (by omega))).trans (r_ret _)
theorem k_CopyFracs {l : List Fr} (h : l.length ≤ 1048576) : base_CopyFracs l = some ((l, ()), ()) := by
  simp only [base_CopyFracs, T_base_CopyFracs]
  simp (maxSteps := 1000000) (disch := first | omega | assumption) only [↓r_ret, ↓r_fail, ↓r_br, ↓r_bind, ↓r_iter, ↓r_req, decide_eq_true_eq, Bool.not_eq_eq_eq_not, decide_eq_false_iff_not, ite_not, inB_t', app_t', bnd_t', str_t', nz_t, Int.reduceEq, Int.reduceLT, Int.reduceLE, w64', Option.bind_some, Option.bind_none, List.length_cons, List.length_nil, List.length_append, Nat.zero_add, if_pos, if_neg, decide_true, decide_false, if_true, if_false, Bool.not_true, Bool.not_false, Bool.false_eq_true, Bool.true_eq_false, not_true_eq_false, not_false_eq_true, ↓reduceIte, List.nil_append, ]

theorem k_OpticsHeights {x : (((Int × Int) × (Int × Int)) × (((Int × Int) × (Int × Int)) × (Int × Int)))} {l : List ((Int × Int))} (b0 : bulkT (.pair (.pair (.pair (.int .i64) (.int .i64)) (.pair (.int .i64) (.int .i64))) (.pair (.pair (.pair (.int .i64) (.int .i64)) (.pair (.int .i64) (.int .i64))) (.pair (.int .i64) (.int .i64)))) x ≤ 1048576) (w0 : wfT (.pair (.pair (.pair (.int .i64) (.int .i64)) (.pair (.int .i64) (.int .i64))) (.pair (.pair (.pair (.int .i64) (.int .i64)) (.pair (.int .i64) (.int .i64))) (.pair (.int .i64) (.int .i64)))) x) (b1 : bulkT (.list (.pair (.int .i64) (.int .i64))) l ≤ 1048576) (w1 : wfT (.list (.pair (.int .i64) (.int .i64))) l) : law02xOpticsHeights x l = some ((true, ()), ()) := by
  have hw : ∀ i : Nat, i < l.length → IF (gi l i) := fun i hi => w1 _ (gi_mem hi)
  obtain ⟨⟨j1, j2⟩, ⟨j3, j4⟩, j5⟩ := w0
  have k1 := k_HeightAt (p := x.1) (t := x.2.1) (z := x.2.2) j1 j2 j3 j4 j5
  have k2 := k_rHeightAt (p := x.1) (t := x.2.1) (z := x.2.2) j1 j2 j3 j4 j5
  simp only [law02xOpticsHeights, T_law02xOpticsHeights]
  by_cases c : 65 < l.length
  · have c' : (65 : Int) < l.length := by omega
    simp (maxSteps := 1000000) (disch := first | omega | assumption) only [↓r_ret, ↓r_fail, ↓r_br, ↓r_bind, ↓r_iter, ↓r_req, decide_eq_true_eq, Bool.not_eq_eq_eq_not, decide_eq_false_iff_not, ite_not, inB_t', app_t', bnd_t', str_t', nz_t, Int.reduceEq, Int.reduceLT, Int.reduceLE, w64', Option.bind_some, Option.bind_none, List.length_cons, List.length_nil, List.length_append, Nat.zero_add, if_pos, if_neg, decide_true, decide_false, if_true, if_false, Bool.not_true, Bool.not_false, Bool.false_eq_true, Bool.true_eq_false, not_true_eq_false, not_false_eq_true, ↓reduceIte, List.nil_append, awake_ok, c']
  · have c' : ¬ (65 : Int) < l.length := by omega
    have k3 := k_SpotOf (l := l) (by omega) hw
    have k4 := k_rSpotOf (l := l) (by omega) hw
    have k5 := k_CopyFracs (l := l) (by omega)
    generalize heR x.1 x.2.1 x.2.2 = R at *
    generalize soV l = V at *
    generalize soE l = E at *
    simp (maxSteps := 1000000) (disch := first | omega | assumption) only [↓r_ret, ↓r_fail, ↓r_br, ↓r_bind, ↓r_iter, ↓r_req, decide_eq_true_eq, Bool.not_eq_eq_eq_not, decide_eq_false_iff_not, ite_not, inB_t', app_t', bnd_t', str_t', nz_t, Int.reduceEq, Int.reduceLT, Int.reduceLE, w64', Option.bind_some, Option.bind_none, List.length_cons, List.length_nil, List.length_append, Nat.zero_add, if_pos, if_neg, decide_true, decide_false, if_true, if_false, Bool.not_true, Bool.not_false, Bool.false_eq_true, Bool.true_eq_false, not_true_eq_false, not_false_eq_true, ↓reduceIte, List.nil_append, awake_ok, c', eta2, k1, k2, k3, k4, k5, Bool.and_self]
end Go.Ab
