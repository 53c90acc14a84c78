/- BlankMasses answers true. -/
import Derived.Test.YtnkpnobdhoemoaaC4
import Derived.Test.YtnkpnobdhoemoaaQLBlankMasses
namespace Go.Ab
open Go
set_option maxRecDepth 1000000
set_option maxHeartbeats 1000000
set_option linter.unusedVariables false
set_option linter.unusedSimpArgs false

def plS (g : Gla) : Nat → Bool
  | 0 => decide ((g.2.2.2.length : Int) = 0)
  | k + 1 => plS g k && !(gi g.2.2.1 (k : Int)).2.2.2.2.2
def loS (g : Gla) : Nat → Int
  | 0 => g.2.1
  | k + 1 => min (loS g k) (gi g.2.2.1 (k : Int)).2.2.1
def hiS (g : Gla) : Nat → Int
  | 0 => 0
  | k + 1 => max (hiS g k) (gi g.2.2.1 (k : Int)).2.2.2.1
theorem lohi_bd {g : Gla} (h : Gl g) : ∀ k : Nat, k ≤ g.2.2.1.length → (0 ≤ loS g k ∧ loS g k ≤ 500) ∧ 0 ≤ hiS g k ∧ hiS g k ≤ 500
  | 0, _ => by have := h.th; simp only [loS, hiS]; omega
  | k + 1, hk => by
    have ih := lohi_bd h k (by omega)
    have f := ptE_0 (h.pt k (by omega))
    have t := h.th
    simp only [loS, hiS]
    omega
/-- Uncut parts: their centre lies between their heights. -/
theorem plain_bd {g : Gla} (h : Gl g) : ∀ k : Nat, k ≤ g.2.2.1.length → plS g k = true → 0 ≤ (whP g k).1 ∧ 2 * loS g k * (whP g k).1 ≤ (whP g k).2 ∧ (whP g k).2 ≤ 2 * hiS g k * (whP g k).1
  | 0, _, _ => by simp [whP]
  | k + 1, hk, hp => by
    simp only [plS, Bool.and_eq_true, Bool.not_eq_true'] at hp
    obtain ⟨i1, i2, i3⟩ := plain_bd h k (by omega) hp.1
    have b := pV_bd h.th.2 (h.pt k (by omega))
    obtain ⟨_, _, f3, f4, _⟩ := ptE_0 (h.pt k (by omega))
    have hl : loS g (k + 1) ≤ loS g k := Int.min_le_left ..
    have hl' : loS g (k + 1) ≤ (gi g.2.2.1 (k : Int)).2.2.1 := Int.min_le_right ..
    have hh : hiS g k ≤ hiS g (k + 1) := Int.le_max_left ..
    have hh' : (gi g.2.2.1 (k : Int)).2.2.2.1 ≤ hiS g (k + 1) := Int.le_max_right ..
    simp only [whP, sg, hp.2, Bool.false_eq_true, if_false]
    have hm : pM (gi g.2.2.1 (k : Int)) = pV (gi g.2.2.1 (k : Int)) * ((gi g.2.2.1 (k : Int)).2.2.1 + (gi g.2.2.1 (k : Int)).2.2.2.1) := rfl
    rw [hm] at *
    generalize pV (gi g.2.2.1 (k : Int)) = v at *
    generalize (gi g.2.2.1 (k : Int)).2.2.1 = f at *
    generalize (gi g.2.2.1 (k : Int)).2.2.2.1 = t at *
    generalize loS g (k + 1) = l' at *
    generalize hiS g (k + 1) = h' at *
    generalize loS g k = l at *
    generalize hiS g k = hh0 at *
    generalize (whP g k).1 = V at *
    generalize (whP g k).2 = M at *
    have m1 := Int.mul_nonneg (show 0 ≤ l - l' by omega) i1
    have m2 := Int.mul_nonneg (show 0 ≤ h' - hh0 by omega) i1
    have m3 := Int.mul_nonneg (show 0 ≤ v by omega) (show 0 ≤ f + t - 2 * l' by omega)
    have m4 := Int.mul_nonneg (show 0 ≤ v by omega) (show 0 ≤ 2 * h' - (f + t) by omega)
    refine ⟨by omega, ?_, ?_⟩
    · grind
    · grind
theorem le_rnd {n b m : Int} (hb : 0 < b) (h : m * b ≤ n) : m ≤ (rnd n b).1 := (Int.le_ediv_iff_mul_le hb).2 h
theorem rnd_le {n b m : Int} (hb : 0 < b) (h : n ≤ m * b) : (rnd n b).2 ≤ m := by
  have := (Int.le_ediv_iff_mul_le (a := -m) (b := -n) hb).2 (by rw [Int.neg_mul]; omega)
  unfold rnd
  dsimp only
  omega
theorem rnd_step {n b : Int} (hb : 0 < b) : (rnd n b).1 ≤ (rnd n b).2 ∧ (rnd n b).2 ≤ (rnd n b).1 + 1 := by
  have := ceil_eq (n := n) hb
  unfold rnd
  dsimp only
  rw [this]
  split <;> omega

theorem twice_E {g : Gla} (h : glE g = 0) : glE (2 * g.1, g.2.1, g.2.2.1, g.2.2.2) = if 10000 < 2 * g.1 then 2 else 0 := by
  have hd := (glE_0 h).1.de
  have e1 : ptsE (2 * g.1, g.2.1, g.2.2.1, g.2.2.2) = ptsE g := rfl
  have hw : ∀ k, whP (2 * g.1, g.2.1, g.2.2.1, g.2.2.2) k = whP g k := fun k => by
    induction k with
    | zero => rfl
    | succ k ih => simp only [whP, ih]
  have hc : ∀ k, whC (2 * g.1, g.2.1, g.2.2.1, g.2.2.2) k = whC g k := fun k => by
    induction k with
    | zero => exact hw _
    | succ k ih => simp only [whC, ih]
  have e3 : gl2 (2 * g.1, g.2.1, g.2.2.1, g.2.2.2) = gl2 g := by
    unfold gl2 gl3
    rw [show wh (2 * g.1, g.2.1, g.2.2.1, g.2.2.2) = wh g from hc _]
    rfl
  by_cases q : 10000 < 2 * g.1
  · rw [if_pos q]
    unfold glE
    rw [if_neg (by dsimp only; omega)]
  · rw [if_neg q]
    unfold glE at h ⊢
    rw [if_pos hd] at h
    rw [if_pos (by dsimp only; omega), e1, e3]
    exact h
theorem twice_wh (g : Gla) : wh (2 * g.1, g.2.1, g.2.2.1, g.2.2.2) = wh g := by
  have hw : ∀ k, whP (2 * g.1, g.2.1, g.2.2.1, g.2.2.2) k = whP g k := fun k => by
    induction k with
    | zero => rfl
    | succ k ih => simp only [whP, ih]
  have hc : ∀ k, whC (2 * g.1, g.2.1, g.2.2.1, g.2.2.2) k = whC g k := fun k => by
    induction k with
    | zero => exact hw _
    | succ k ih => simp only [whC, ih]
  exact hc _

theorem k_BlankMasses {g : (Int × (Int × (List ((Int × (Int × (Int × (Int × (Int × Bool)))))) × List ((Int × (Int × (Int × (Bool × Bool))))))))} (b0 : bulkT (.pair (.int .i64) (.pair (.int .i64) (.pair (.list (.pair (.int .i64) (.pair (.int .i64) (.pair (.int .i64) (.pair (.int .i64) (.pair (.int .i64) .bool)))))) (.list (.pair (.int .i64) (.pair (.int .i64) (.pair (.int .i64) (.pair .bool .bool)))))))) g ≤ 1048576) (w0 : wfT (.pair (.int .i64) (.pair (.int .i64) (.pair (.list (.pair (.int .i64) (.pair (.int .i64) (.pair (.int .i64) (.pair (.int .i64) (.pair (.int .i64) .bool)))))) (.list (.pair (.int .i64) (.pair (.int .i64) (.pair (.int .i64) (.pair .bool .bool)))))))) g) : law03xBlankMasses g = some ((true, ()), ()) := by
  simp only [law03xBlankMasses, T_law03xBlankMasses]
  rw [r_bind, awake_ok, Option.bind_some]
  refine (br_f rfl).trans ?_
  obtain ⟨b, hf, hb⟩ := k_Few g
  refine (r_bs hf).trans ?_
  cases b with
  | false => exact (br_t rfl).trans (r_ret _)
  | true =>
    obtain ⟨l1, l2⟩ := hb rfl
    have o := k_copied l1 l2
    refine (br_f rfl).trans ?_
    by_cases h8 : 8 < g.2.2.1.length
    · exact (br_t (decide_eq_true (by omega))).trans (r_ret _)
    · refine (br_f (decide_eq_false (by omega))).trans ?_
      refine (r_bs o).trans ?_
      refine (r_bs (k_Centre g)).trans ?_
      refine (r_bs o).trans ?_
      refine (r_bs (k_Mass g)).trans ?_
      by_cases h : glE g = 0
      · obtain ⟨hg, h0⟩ := glE_0 h
        refine (br_f (nd h)).trans ?_
        refine (br_f (nd h)).trans ?_
        rw [r_iter]
        have e1 : masV g = rnd (g.1 * (wh g).1) 1000000000 := if_pos h
        have e2 : cenV g = rnd (1000 * (wh g).2) (2 * (wh g).1) := if_pos h
        rw [e1, e2]
        have mb := mas_bd hg h0
        have wb := wh_bd hg
        have db := hg.de
        have c1 := rnd_step (n := 1000 * (wh g).2) (b := 2 * (wh g).1) (by omega)
        have c2 := ediv_bd (n := 1000 * (wh g).2) (b := 2 * (wh g).1) (m := 9000000000000000000) (by omega) (by omega) (by omega)
        have c3 : (rnd (1000 * (wh g).2) (2 * (wh g).1)).1 = 1000 * (wh g).2 / (2 * (wh g).1) := rfl
        have c4 : g.1 * (wh g).1 / 1000000000 = (rnd (g.1 * (wh g).1) 1000000000).1 ∧ -(-(g.1 * (wh g).1) / 1000000000) = (rnd (g.1 * (wh g).1) 1000000000).2 := ⟨rfl, rfl⟩
        -- what is asked behind the loop
        have tail : ∀ n m : Int × Int, (n.1 = 2 * (g.1 * (wh g).1) / 1000000000 ∧ n.2 = -(-(2 * (g.1 * (wh g).1)) / 1000000000)) → 2 * (rnd (g.1 * (wh g).1) 1000000000).1 ≤ n.1 ∧ n.2 ≤ 2 * (rnd (g.1 * (wh g).1) 1000000000).2 := fun n m hn => by
          omega
        have k2 : blank_Mass (2 * g.1, g.2.1, g.2.2.1, g.2.2.2) = some ((masV (2 * g.1, g.2.1, g.2.2.1, g.2.2.2), ((if 10000 < 2 * g.1 then 2 else 0), ())), ()) := by
          rw [k_Mass, twice_E h]
        refine iter_eq (fun k y => y = (plS g k, loS g k, hiS g k, (k : Int), ())) _ g.2.2.1.length (by omega) ?_ rfl
        rintro k y hk rfl
        dsimp only
        unfold T_law03xBlankMasses_l6
        by_cases e : k < g.2.2.1.length
        · left
          refine ⟨(plS g (k + 1), loS g (k + 1), hiS g (k + 1), ((k + 1 : Nat) : Int), ()), ?_, e, rfl⟩
          refine (br_t (decide_eq_true (by omega))).trans ?_
          rw [w64' (x := (k : Int) + 1) (by omega) (by omega)]
          have q := inB_t' (n := (k : Int)) (len := g.2.2.1.length) (by omega) (by omega)
          by_cases hp : plS g k = true
          · refine (br_t hp).trans ?_
            refine (q_of q).trans ?_
            refine (q_of q).trans ?_
            refine (q_of q).trans ?_
            refine (r_ret _).trans ?_
            simp only [plS, hp, Bool.true_and]
            rfl
          · refine (br_f (by simpa using hp)).trans ?_
            refine (q_of q).trans ?_
            refine (q_of q).trans ?_
            refine (r_ret _).trans ?_
            simp only [plS, hp, Bool.false_and]
            rfl
        · right
          have e : k = g.2.2.1.length := by omega
          subst e
          have lb := lohi_bd hg g.2.2.1.length (Nat.le_refl _)
          refine (br_f (decide_eq_false (by omega))).trans ?_
          have rest : ∀ (t : Tr ((Bool × Int × Int × Int × Unit) ⊕ ((Bool × Unit) × Unit))), t.run = some (.inr ((true, ()), ())) →
              (Tr.br (decide ((rnd (g.1 * (wh g).1) 1000000000).1 < 0)) (.ret (.inr ((false, ()), ()))) (Tr.br (decide ((rnd (g.1 * (wh g).1) 1000000000).2 < (rnd (g.1 * (wh g).1) 1000000000).1)) (.ret (.inr ((false, ()), ())))
                (Tr.br (decide (IntKind.i64.wrap ((rnd (g.1 * (wh g).1) 1000000000).1 + 1) < (rnd (g.1 * (wh g).1) 1000000000).2)) (.ret (.inr ((false, ()), ()))) (Tr.br (decide (1000000000 < (rnd (g.1 * (wh g).1) 1000000000).2)) (.ret (.inr ((false, ()), ())))
                (Tr.br (decide ((rnd (1000 * (wh g).2) (2 * (wh g).1)).2 < (rnd (1000 * (wh g).2) (2 * (wh g).1)).1)) (.ret (.inr ((false, ()), ()))) (Tr.br (decide (IntKind.i64.wrap ((rnd (1000 * (wh g).2) (2 * (wh g).1)).1 + 1) < (rnd (1000 * (wh g).2) (2 * (wh g).1)).2)) (.ret (.inr ((false, ()), ()))) t)))))).run = some (.inr ((true, ()), ())) := fun t ht => by
            rw [w64' (x := (rnd (g.1 * (wh g).1) 1000000000).1 + 1) (by omega) (by omega), w64' (x := (rnd (1000 * (wh g).2) (2 * (wh g).1)).1 + 1) (by omega) (by omega)]
            refine (br_f (decide_eq_false (by omega))).trans ?_
            refine (br_f (decide_eq_false (by omega))).trans ?_
            refine (br_f (decide_eq_false (by omega))).trans ?_
            refine (br_f (decide_eq_false (by omega))).trans ?_
            refine (br_f (decide_eq_false (by omega))).trans ?_
            refine (br_f (decide_eq_false (by omega))).trans ?_
            exact ht
          have fin : ∀ (z : (Gla × Unit) × Unit), z = ((g, ()), ()) → (Tr.bind (ρ := (Bool × Int × Int × Int × Unit) ⊕ ((Bool × Unit) × Unit)) (.pair (.pair (.pair (.int .i64) (.int .i64)) (.pair (.int .i64) .unit)) .unit) (blank_Mass (IntKind.i64.wrap (2 * g.1), z.1.1.2.1, z.1.1.2.2.1, z.1.1.2.2.2)) fun z8 =>
              .br (decide (z8.1.2.1 = 2)) (.br (decide (10000 < IntKind.i64.wrap (2 * g.1))) (.ret (.inr ((true, ()), ()))) (.br (decide (z8.1.2.1 = 0)) (.br (decide (IntKind.i64.wrap (2 * (rnd (g.1 * (wh g).1) 1000000000).1) ≤ z8.1.1.1)) (.ret (.inr ((decide (z8.1.1.2 ≤ IntKind.i64.wrap (2 * (rnd (g.1 * (wh g).1) 1000000000).2)), ()), ()))) (.ret (.inr ((false, ()), ())))) (.ret (.inr ((false, ()), ())))))
                (.br (decide (z8.1.2.1 = 0)) (.br (decide (IntKind.i64.wrap (2 * (rnd (g.1 * (wh g).1) 1000000000).1) ≤ z8.1.1.1)) (.ret (.inr ((decide (z8.1.1.2 ≤ IntKind.i64.wrap (2 * (rnd (g.1 * (wh g).1) 1000000000).2)), ()), ()))) (.ret (.inr ((false, ()), ())))) (.ret (.inr ((false, ()), ()))))).run = some (.inr ((true, ()), ())) := fun z hz => by
            subst hz
            rw [w64' (x := 2 * g.1) (by omega) (by omega), w64' (x := 2 * (rnd (g.1 * (wh g).1) 1000000000).1) (by omega) (by omega), w64' (x := 2 * (rnd (g.1 * (wh g).1) 1000000000).2) (by omega) (by omega)]
            refine (r_bs k2).trans ?_
            by_cases q : 10000 < 2 * g.1
            · refine (br_t (decide_eq_true (if_pos q))).trans ?_
              refine (br_t (decide_eq_true q)).trans ?_
              exact r_ret _
            · have hE : glE (2 * g.1, g.2.1, g.2.2.1, g.2.2.2) = 0 := by rw [twice_E h, if_neg q]
              have em : masV (2 * g.1, g.2.1, g.2.2.1, g.2.2.2) = rnd (2 * (g.1 * (wh g).1)) 1000000000 := by
                unfold masV
                rw [if_pos hE, twice_wh, Int.mul_assoc]
              have tl := tail (rnd (2 * (g.1 * (wh g).1)) 1000000000) (0, 0) ⟨rfl, rfl⟩
              refine (br_f (decide_eq_false (by dsimp only; rw [if_neg q]; decide))).trans ?_
              refine (br_t (decide_eq_true (if_neg q))).trans ?_
              refine (br_t (decide_eq_true (by dsimp only; rw [em]; exact tl.1))).trans ?_
              refine (r_ret _).trans ?_
              dsimp only
              rw [em, decide_eq_true tl.2]
          by_cases hp : plS g g.2.2.1.length = true
          · refine (br_t hp).trans ?_
            have hc : g.2.2.2.length = 0 := by
              have : ∀ k, plS g k = true → g.2.2.2.length = 0 := fun k => by
                induction k with
                | zero => exact fun q => by have : (g.2.2.2.length : Int) = 0 := of_decide_eq_true q; omega
                | succ k ih => exact fun q => ih (by simp only [plS, Bool.and_eq_true] at q; exact q.1)
              exact this _ hp
            obtain ⟨p1, p2, p3⟩ := plain_bd hg _ (Nat.le_refl _) hp
            have ew : wh g = whP g g.2.2.1.length := by unfold wh; rw [hc]; rfl
            rw [← ew] at p1 p2 p3
            rw [w64' (x := 1000 * loS g g.2.2.1.length) (by omega) (by omega), w64' (x := 1000 * hiS g g.2.2.1.length) (by omega) (by omega)]
            have x1 : 1000 * loS g g.2.2.1.length ≤ (rnd (1000 * (wh g).2) (2 * (wh g).1)).1 := le_rnd (by omega) (by rw [show 1000 * loS g g.2.2.1.length * (2 * (wh g).1) = 1000 * (2 * loS g g.2.2.1.length * (wh g).1) by grind]; omega)
            have x2 : (rnd (1000 * (wh g).2) (2 * (wh g).1)).2 ≤ 1000 * hiS g g.2.2.1.length := rnd_le (by omega) (by rw [show 1000 * hiS g g.2.2.1.length * (2 * (wh g).1) = 1000 * (2 * hiS g g.2.2.1.length * (wh g).1) by grind]; omega)
            refine (br_f (decide_eq_false (by dsimp only; omega))).trans ?_
            refine (br_f (decide_eq_false (by dsimp only; omega))).trans ?_
            refine rest _ ?_
            refine (r_bs o).trans ?_
            exact fin _ rfl
          · refine (br_f (by simpa using hp)).trans ?_
            refine rest _ ?_
            refine (r_bs o).trans ?_
            exact fin _ rfl
      · refine (br_t (nd' h)).trans ?_
        refine (r_ret _).trans ?_
        simp
end Go.Ab
