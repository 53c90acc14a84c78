/- TopRootsEnclosed. -/
import Derived.Test.YtgncmamcgplcgaaR1
import Derived.Test.YtgncmamcgplcgaaSH
import Derived.Test.YtgncmamcgplcgaaQLTopRootsEnclosed
namespace Go.Ab
open Go
set_option maxRecDepth 1000000
set_option maxHeartbeats 1000000
set_option linter.unusedVariables false
set_option linter.unusedSimpArgs false

theorem reckoned_ok' : top_reckoned = some ((true, ()), ()) := by kernel_rfl
theorem Chn.same {p : List Int} {e : Nat} (h : Chn p e) {a b c d : Int} (hb : 0 < b) (hd : 0 < d) (heq : a * d = c * b) : vv p e a b = vv p e c d := by
  have h1 := h.vmono hb hd (Int.le_of_eq heq)
  have h2 := h.vmono hd hb (Int.le_of_eq heq.symm)
  omega
theorem fl_lt {n d w : Int} (hd : 0 < d) : n / d < w ↔ n < w * d := by
  have h := ediv_two (n := n) hd
  constructor
  · intro hw
    have := Int.mul_le_mul_of_nonneg_right (show n / d + 1 ≤ w by omega) (show 0 ≤ d by omega)
    omega
  · intro hw
    by_cases q : n / d < w
    · exact q
    · have := Int.mul_le_mul_of_nonneg_right (show w ≤ n / d by omega) (show 0 ≤ d by omega)
      omega
theorem up_lt {n d w : Int} (hd : 0 < d) : w < upQ n d ↔ w * d < n := by
  have h := upQ_two (n := n) hd
  constructor
  · intro hw
    have := Int.mul_le_mul_of_nonneg_right (show w ≤ upQ n d - 1 by omega) (show 0 ≤ d by omega)
    omega
  · intro hw
    by_cases q : w < upQ n d
    · exact q
    · have := Int.mul_le_mul_of_nonneg_right (show upQ n d ≤ w by omega) (show 0 ≤ d by omega)
      omega
theorem hz_zero {P : List Int} {a b : Int} (hb : 0 < b) : hz P a b = 0 ↔ eI P ((a : Rat) / b) = 0 := by
  rw [← sgn_0, sgn_hz P hb, sgR_0]
theorem frac_ten {a b : Int} (hb : 0 < b) : (((10 * a : Int) : Rat)) / ((10 * b : Int) : Rat) = (a : Rat) / b := by
  have hb' := cast_pos hb
  rw [Rat.intCast_mul, Rat.intCast_mul]
  have : ((10 : Int) : Rat) = 10 := rfl
  rw [this]
  generalize (a : Rat) = A at *
  generalize (b : Rat) = B at *
  grind
section
variable {p : List Int} {e : Nat} (hc : Chn p e) {lo hi : Int × Int} (hlo : Small lo) (hhi : Small hi) {t H H' : Int} (t1 : 1 ≤ t) (h : IsH p e lo hi t H) (h' : IsH p e lo hi (10 * t) H')
include hc hlo hhi t1 h h'
theorem ten_hi : H' ≤ 10 * H := by
  by_cases q : H' ≤ 10 * H
  · exact q
  exfalso
  have l4 := hlo.1.1
  have h4 := hhi.1.1
  have g := (fl_lt l4).1 h.gt
  have n := h'.non (10 * H) ((fl_lt l4).2 (by
    have e1 : 10 * t * lo.1 = 10 * (t * lo.1) := by grind
    have e2 : 10 * H * lo.2 = 10 * (H * lo.2) := by grind
    omega)) (by omega)
  rw [hc.same (a := 10 * H) (b := 10 * t) (c := H) (d := t) (by omega) (by omega) (by grind)] at n
  rcases h.at_ with a | a
  · have u := upQ_two (n := t * hi.1) h4
    have := h'.le
    have w := (up_lt (n := 10 * t * hi.1) (w := 10 * H) h4).1 (by omega)
    rw [← a] at u
    have e1 : 10 * t * hi.1 = 10 * (t * hi.1) := by grind
    have e2 : 10 * H * hi.2 = 10 * (H * hi.2) := by grind
    omega
  · exact n a
theorem ten_lo : 10 * (H - 1) < H' := by
  by_cases q : 10 * (H - 1) < H'
  · exact q
  exfalso
  have l4 := hlo.1.1
  have h4 := hhi.1.1
  have e1 : 10 * t * lo.1 = 10 * (t * lo.1) := by grind
  have e2 : 10 * (H - 1) * lo.2 = 10 * ((H - 1) * lo.2) := by grind
  have e3 : 10 * t * hi.1 = 10 * (t * hi.1) := by grind
  have e4 : 10 * (H - 1) * hi.2 = 10 * ((H - 1) * hi.2) := by grind
  have g := (fl_lt l4).1 (show 10 * t * lo.1 / lo.2 < 10 * (H - 1) by have := h'.gt; omega)
  have n := h.non (H - 1) ((fl_lt l4).2 (by omega)) (by omega)
  have hw : H - 1 < upQ (t * hi.1) hi.2 := by have := h.le; omega
  have m := hc.mid hlo hhi t1 hw
  have hw2 := (up_lt h4).1 hw
  have hu : 10 * (H - 1) < upQ (10 * t * hi.1) hi.2 := (up_lt h4).2 (by omega)
  have mono := hc.vmono (a := H') (b := 10 * t) (c := H - 1) (d := t) (by omega) (by omega) (by
    have := Int.mul_le_mul_of_nonneg_right (show H' ≤ 10 * (H - 1) by omega) (show 0 ≤ t by omega)
    have e5 : (H - 1) * (10 * t) = 10 * (H - 1) * t := by grind
    omega)
  rcases h'.at_ with a | a
  · omega
  · omega
theorem ten_exact (hf : H ≤ t * hi.1 / hi.2) (hz0 : hz p H t = 0) : H' = 10 * H ∧ 10 * H ≤ 10 * t * hi.1 / hi.2 ∧ hz p (10 * H) (10 * t) = 0 := by
  have l4 := hlo.1.1
  have h4 := hhi.1.1
  have hle := ten_hi hc hlo hhi t1 h h'
  have e3 : 10 * t * hi.1 = 10 * (t * hi.1) := by grind
  have e4 : 10 * H * hi.2 = 10 * (H * hi.2) := by grind
  have hf' : ¬ t * hi.1 < H * hi.2 := fun q => by have := (fl_lt (n := t * hi.1) (w := H) h4).2 q; omega
  have hz1 := (hz_zero (a := H) (b := t) (by omega)).1 hz0
  refine ⟨?_, ?_, ?_⟩
  · by_cases q : H' = 10 * H
    · exact q
    exfalso
    rcases h'.at_ with a | a
    · have u := upQ_two (n := 10 * t * hi.1) h4
      rw [← a] at u
      have := Int.mul_le_mul_of_nonneg_right (show H' ≤ 10 * H - 1 by omega) (show 0 ≤ hi.2 by omega)
      have e5 : (10 * H - 1) * hi.2 = 10 * (H * hi.2) - hi.2 := by grind
      omega
    · have r := hc.root (x := (H' : Rat) / ((10 * t : Int) : Rat)) (frac_lt (a := H') (b := 10 * t) (c := H) (d := t) (by omega) (by omega) (by
        have := Int.mul_lt_mul_of_pos_right (show H' < 10 * H by omega) (show 0 < t by omega)
        have e5 : H * (10 * t) = 10 * H * t := by grind
        omega)) hz1
      rw [← hc.vv_eq (by omega), ← hc.vv_eq (by omega), a] at r
      have := hc.vmono (a := H) (b := t) (c := hi.1) (d := hi.2) (by omega) h4 (by rw [Int.mul_comm hi.1 t]; omega)
      omega
  · by_cases q : 10 * H ≤ 10 * t * hi.1 / hi.2
    · exact q
    · have := (fl_lt (n := 10 * t * hi.1) (w := 10 * H) h4).1 (by omega)
      omega
  · rw [hz_zero (by omega), frac_ten (by omega)]
    exact hz1
theorem ten_end : 10 * (rEnd p hi t H).1 ≤ (rEnd p hi (10 * t) H').1 ∧ (rEnd p hi (10 * t) H').2 ≤ 10 * (rEnd p hi t H).2 := by
  have a := ten_hi hc hlo hhi t1 h h'
  have b := ten_lo hc hlo hhi t1 h h'
  have b2 : H' - 1 ≤ (rEnd p hi (10 * t) H').1 ∧ (rEnd p hi (10 * t) H').2 = H' := by
    unfold rEnd
    split
    · split
      · exact ⟨by dsimp only; omega, rfl⟩
      · exact ⟨Int.le_refl _, rfl⟩
    · exact ⟨Int.le_refl _, rfl⟩
  have c2 : (rEnd p hi t H).2 = H := by
    unfold rEnd
    split
    · split <;> rfl
    · rfl
  refine ⟨?_, by omega⟩
  by_cases q1 : H ≤ t * hi.1 / hi.2
  · by_cases q2 : hz p H t = 0
    · obtain ⟨r1, r2, r3⟩ := ten_exact hc hlo hhi t1 h h' q1 q2
      subst r1
      unfold rEnd
      rw [if_pos q1, if_pos q2, if_pos r2, if_pos r3]
      exact Int.le_refl _
    · have : (rEnd p hi t H).1 = H - 1 := by unfold rEnd; rw [if_pos q1, if_neg q2]
      omega
  · have : (rEnd p hi t H).1 = H - 1 := by unfold rEnd; rw [if_neg q1]
    omega
end
theorem rEnd_bd (p : List Int) (hi : Int × Int) (t H : Int) : (rEnd p hi t H).2 = H ∧ ((rEnd p hi t H).1 = H ∨ (rEnd p hi t H).1 = H - 1) := by
  unfold rEnd
  split
  · split
    · exact ⟨rfl, .inl rfl⟩
    · exact ⟨rfl, .inr rfl⟩
  · exact ⟨rfl, .inr rfl⟩
theorem cmpI_lt {a b : Int} : cmpI a b < 0 ↔ a < b := by
  unfold cmpI
  by_cases h : a < b
  · rw [if_pos h]; omega
  · rw [if_neg h]
    by_cases h' : b < a
    · rw [if_pos h']; omega
    · rw [if_neg h']; omega
theorem cmpI_gt {a b : Int} : 0 < cmpI a b ↔ b < a := by
  unfold cmpI
  by_cases h : a < b
  · rw [if_pos h]; omega
  · rw [if_neg h]
    by_cases h' : b < a
    · rw [if_pos h']; omega
    · rw [if_neg h']; omega
theorem k_rest {p : List Int} (hp : p.length ≤ 1048576) (pc : pcE p = 0) {e : Nat} (hc : Chn p e) {lo hi m : Int × Int} (hlo : Small lo) (hhi : Small hi) (hm : Small m)
    (hv : m.1 * hi.2 < hi.1 * m.2 → lo.1 * m.2 < m.1 * lo.2 → vv p e lo.1 lo.2 - vv p e m.1 m.2 = 1) :
    (Tr.bind (.pair (.pair (.int .i64) .unit) .unit) (base_Cmp (m.fst, m.snd) (hi.fst, hi.snd)) fun z20 => .br (decide (z20.fst.fst < (0 : Int))) (.bind (.pair (.pair (.int .i64) .unit) .unit) (base_Cmp (m.fst, m.snd) (lo.fst, lo.snd)) fun z21 => .br (decide ((0 : Int) < z21.fst.fst)) (.bind (.pair (.pair (.list (.int .i64)) .unit) .unit) (base_CopyInts p) fun z22 => .bind (.pair (.pair (.int .i64) (.pair (.int .i64) .unit)) .unit) (number_RootsIn z22.fst.fst (lo.fst, lo.snd) (m.fst, m.snd)) fun z23 => .br (decide (z23.fst.snd.fst = (0 : Int))) (.ret (((decide (z23.fst.fst = (1 : Int))), ()), ())) (.ret (((false), ()), ()))) (.ret (((true), ()), ()))) (.ret (((true), ()), ())) : Tr ((Bool × Unit) × Unit)).run = some ((true, ()), ()) := by
  refine (r_bs (k_bCmp hm hhi)).trans ?_
  by_cases q1 : m.1 * hi.2 < hi.1 * m.2
  · refine (br_t (decide_eq_true (cmpI_lt.2 q1))).trans ?_
    refine (r_bs (k_bCmp hm hlo)).trans ?_
    by_cases q2 : lo.1 * m.2 < m.1 * lo.2
    · refine (br_t (decide_eq_true (cmpI_gt.2 q2))).trans ?_
      refine (r_bs (k_CopyInts hp)).trans ?_
      refine (r_bs (k_RI pc hlo hm q2 hc)).trans ?_
      refine (br_t rfl).trans ?_
      refine (r_ret _).trans ?_
      rw [decide_eq_true (hv q1 q2)]
    · exact (br_f (decide_eq_false (fun h => q2 (cmpI_gt.1 h)))).trans (r_ret _)
  · exact (br_f (decide_eq_false (fun h => q1 (cmpI_lt.1 h)))).trans (r_ret _)
theorem k_TopRootsEnclosed {p : List (Int)} {span : ((Int × Int) × (Int × Int))} {times : Int} (b0 : bulkT (.list (.int .i64)) p ≤ 1048576) (w0 : wfT (.list (.int .i64)) p) (b1 : bulkT (.pair (.pair (.int .i64) (.int .i64)) (.pair (.int .i64) (.int .i64))) span ≤ 1048576) (w1 : wfT (.pair (.pair (.int .i64) (.int .i64)) (.pair (.int .i64) (.int .i64))) span) (b2 : bulkT (.int .i64) times ≤ 1048576) (w2 : wfT (.int .i64) times) : top_TopRootsEnclosed p span times = some ((true, ()), ()) := by
  have hp : p.length ≤ 1048576 := by
    exact Nat.le_trans (bulk_len (a := .int .i64) (by decide)) b0
  obtain ⟨lo, hi⟩ := span
  have i1 : I64 lo.1 := w1.1.1
  have i2 : I64 lo.2 := w1.1.2
  have i3 : I64 hi.1 := w1.2.1
  have i4 : I64 hi.2 := w1.2.2
  show (T_top_TopRootsEnclosed p (lo, hi) times).run = _
  unfold T_top_TopRootsEnclosed
  rw [r_bind, reckoned_ok', Option.bind_some]
  refine (br_f rfl).trans ?_
  by_cases hl : 5 < (p.length : Int)
  · exact (br_t (decide_eq_true hl)).trans (r_ret _)
  refine (br_f (decide_eq_false hl)).trans ?_
  refine (r_bs (k_rCheckPoly p)).trans ?_
  by_cases pc : pcE p = 0
  case neg => exact (br_t (nd' pc)).trans (r_ret _)
  refine (br_f (nd pc)).trans ?_
  refine (r_bs (k_rCheckFrac (f := lo) i1 i2)).trans ?_
  by_cases c1 : cfE lo = 0
  case neg => exact (br_t (nd' c1)).trans (r_ret _)
  refine (br_f (nd c1)).trans ?_
  refine (r_bs (k_rCheckFrac (f := hi) i3 i4)).trans ?_
  by_cases c2 : cfE hi = 0
  case neg => exact (br_t (nd' c2)).trans (r_ret _)
  refine (br_f (nd c2)).trans ?_
  have hlo := cfE_zero.1 c1
  have hhi := cfE_zero.1 c2
  refine (r_bs (k_Within lo.1 (-1000) 1000)).trans ?_
  by_cases c3 : -1000 ≤ lo.1 ∧ lo.1 ≤ 1000
  case neg => exact (br_t (nd' c3)).trans (r_ret _)
  refine (br_f (nd c3)).trans ?_
  refine (r_bs (k_Within hi.1 (-1000) 1000)).trans ?_
  by_cases c4 : -1000 ≤ hi.1 ∧ hi.1 ≤ 1000
  case neg => exact (br_t (nd' c4)).trans (r_ret _)
  refine (br_f (nd c4)).trans ?_
  by_cases c5 : 1000 < lo.2
  · exact (br_t (decide_eq_true c5)).trans (r_ret _)
  refine (br_f (decide_eq_false c5)).trans ?_
  by_cases c6 : 1000 < hi.2
  · exact (br_t (decide_eq_true c6)).trans (r_ret _)
  refine (br_f (decide_eq_false c6)).trans ?_
  refine (r_bs (k_bCmp hhi hlo)).trans ?_
  by_cases c7 : hi.1 * lo.2 ≤ lo.1 * hi.2
  · exact (br_t (decide_eq_true (cmpI_le.2 c7))).trans (r_ret _)
  refine (br_f (decide_eq_false (fun h => c7 (cmpI_le.1 h)))).trans ?_
  have hlt : lo.1 * hi.2 < hi.1 * lo.2 := by omega
  refine (r_bs (k_Within times 1 10000)).trans ?_
  by_cases c8 : 1 ≤ times ∧ times ≤ 10000
  case neg => exact (br_t (nd' c8)).trans (r_ret _)
  refine (br_f (nd c8)).trans ?_
  have hb := bdE_of pc hlo hhi hlt
  obtain ⟨e, hc, r, k1, ri⟩ := k_RootIn (p := p) (lo := lo) (hi := hi) (t := times) i1 i2 i3 i4 hb (by omega) (by omega)
  obtain ⟨e', hc', r', k2, ri'⟩ := k_RootIn (p := p) (lo := lo) (hi := hi) (t := 10 * times) i1 i2 i3 i4 hb (by omega) (by omega)
  have := hc'.uniq hc
  subst this
  have k3 := k_RI pc hlo hhi hlt hc
  refine (r_bs (k_CopyInts hp)).trans ?_
  refine (r_bs k1).trans ?_
  refine (r_bs (k_CopyInts hp)).trans ?_
  refine (r_bs k3).trans ?_
  rcases ri with ⟨n0, rfl⟩ | ⟨n1, rfl⟩ | ⟨n2, H, hH, rfl⟩
  · refine (br_t rfl).trans ?_
    refine (br_t rfl).trans ?_
    refine (br_t rfl).trans ?_
    refine (br_t (decide_eq_true n0)).trans ?_
    exact r_ret _
  · refine (br_t rfl).trans ?_
    refine (br_t rfl).trans ?_
    refine (br_f rfl).trans ?_
    refine (br_t rfl).trans ?_
    refine (r_ret _).trans ?_
    rw [decide_eq_true n1]
  · rcases ri' with ⟨n0, _⟩ | ⟨n1, _⟩ | ⟨_, H', hH', rfl⟩
    · omega
    · omega
    obtain ⟨g1, g2⟩ := ten_end hc hlo hhi (by omega) hH hH'
    obtain ⟨r1, r2⟩ := rEnd_bd p hi times H
    obtain ⟨r1', r2'⟩ := rEnd_bd p hi (10 * times) H'
    have l4 := hlo.1.1
    have h4 := hhi.1.1
    have m1 := mul_bd (a := times) (m := 10000) (b := lo.1) (n := 1000) (by omega) (by omega) (by omega) (by omega)
    have m2 := mul_bd (a := times) (m := 10000) (b := hi.1) (n := 1000) (by omega) (by omega) (by omega) (by omega)
    have d1 := ediv_bd (n := times * lo.1) (b := lo.2) (m := 10000000) (by omega) (by omega) (by omega)
    have d2 := ediv_bd (n := -(times * hi.1)) (b := hi.2) (m := 10000000) (by omega) (by omega) (by omega)
    have hg := hH.gt
    have hle := hH.le
    have hU : upQ (times * hi.1) hi.2 ≤ 10000000 := by unfold upQ; omega
    have hnon := hH.non
    have hat := hH.at_
    refine (br_f rfl).trans ?_
    refine (r_bs (k_CopyInts hp)).trans ?_
    rw [w64' (x := 10 * times) (by omega) (by omega)]
    refine (r_bs k2).trans ?_
    refine (br_f rfl).trans ?_
    refine (br_f (nd n2)).trans ?_
    refine (br_f rfl).trans ?_
    dsimp only
    generalize rEnd p hi times H = r at *
    generalize rEnd p hi (10 * times) H' = s at *
    refine (r_bs (k_Within r.1 (-10000000) r.2)).trans ?_
    refine (br_f (nd (show -10000000 ≤ r.1 ∧ r.1 ≤ r.2 by omega))).trans ?_
    refine (br_f (decide_eq_false (show ¬ 10000000 < r.2 by omega))).trans ?_
    rw [w64' (x := r.2 - r.1) (by omega) (by omega), w64' (x := 10 * r.1) (by omega) (by omega), w64' (x := 10 * r.2) (by omega) (by omega), w64' (x := r.1 - 1) (by omega) (by omega)]
    refine (br_f (decide_eq_false (show ¬ 1 < r.2 - r.1 by omega))).trans ?_
    refine (br_f (decide_eq_false (show ¬ s.1 < 10 * r.1 by omega))).trans ?_
    refine (br_f (decide_eq_false (show ¬ 10 * r.2 < s.2 by omega))).trans ?_
    refine (br_f (decide_eq_false (show ¬ s.2 < s.1 by omega))).trans ?_
    have ht0 : times ≠ 0 := by omega
    refine (r_bs (k_Lowest (n := r.1 - 1) (d := times) ht0 (by omega) (by omega) (by omega) (by omega))).trans ?_
    refine (r_bs (k_Lowest (n := r.2) (d := times) ht0 (by omega) (by omega) (by omega) (by omega))).trans ?_
    have cb := low_cross (n := r.1 - 1) ht0
    have ca := low_cross (n := r.2) ht0
    have bb := low_bd (n := r.1 - 1) ht0
    have ba := low_bd (n := r.2) ht0
    have sb : Small (low (r.1 - 1) times) := ⟨low_is ht0, by omega, by omega, by omega⟩
    have sa : Small (low r.2 times) := ⟨low_is ht0, by omega, by omega, by omega⟩
    generalize low (r.1 - 1) times = mb at *
    generalize low r.2 times = ma at *
    have rest := k_rest hp pc hc hlo hhi sa (fun q1 q2 => by
      have hs := hc.same (a := ma.1) (b := ma.2) (c := r.2) (d := times) sa.1.1 (by omega) (by omega)
      rw [hs]
      rcases hat with a | a
      · exfalso
        have u := upQ_two (n := times * hi.1) h4
        rw [← a] at u
        -- H hi2 ≥ t hi1, and ma < hi
        have w3 := Int.mul_lt_mul_of_pos_right q1 (show 0 < times by omega)
        have w4 := Int.mul_le_mul_of_nonneg_right u.1 (show 0 ≤ ma.2 by have := sa.1.1; omega)
        have e1 : ma.1 * hi.2 * times = (ma.1 * times) * hi.2 := by grind
        have e2 : hi.1 * ma.2 * times = times * hi.1 * ma.2 := by grind
        have e3 : H * hi.2 * ma.2 = (H * ma.2) * hi.2 := by grind
        rw [e1, ← ca, e2, r1] at w3
        rw [e3] at w4
        omega
      · rw [r1]; omega)
    refine (r_bs (k_bCmp sb hlo)).trans ?_
    by_cases c9 : lo.1 * mb.2 < mb.1 * lo.2
    · refine (br_t (decide_eq_true (cmpI_gt.2 c9))).trans ?_
      refine (r_bs (k_CopyInts hp)).trans ?_
      refine (r_bs (k_RI pc hlo sb c9 hc)).trans ?_
      refine (br_f rfl).trans ?_
      have hs := hc.same (a := mb.1) (b := mb.2) (c := r.1 - 1) (d := times) sb.1.1 (by omega) (by omega)
      have hgt : times * lo.1 / lo.2 < r.1 - 1 := by
        refine (fl_lt l4).2 ?_
        have w3 := Int.mul_lt_mul_of_pos_right c9 (show 0 < times by omega)
        have e1 : lo.1 * mb.2 * times = (times * lo.1) * mb.2 := by grind
        have e2 : mb.1 * lo.2 * times = (mb.1 * times) * lo.2 := by grind
        have e3 : (r.1 - 1) * mb.2 * lo.2 = ((r.1 - 1) * lo.2) * mb.2 := by grind
        rw [e1, e2, ← cb, e3] at w3
        by_cases q : times * lo.1 < (r.1 - 1) * lo.2
        · exact q
        · have := Int.mul_le_mul_of_nonneg_right (show (r.1 - 1) * lo.2 ≤ times * lo.1 by omega) (show 0 ≤ mb.2 by have := sb.1.1; omega)
          omega
      have v1 := hc.mid' hlo (show 1 ≤ times by omega) hgt
      have v2 := hc.mid hlo hhi (show 1 ≤ times by omega) (w := r.1 - 1) (by omega)
      have v3 := hnon (r.1 - 1) hgt (by omega)
      have v4 : vv p e' lo.1 lo.2 - vv p e' mb.1 mb.2 = 0 := by rw [hs]; omega
      refine (br_f (nd v4)).trans ?_
      exact rest
    · refine (br_f (decide_eq_false (fun h => c9 (cmpI_gt.1 h)))).trans ?_
      exact rest
end Go.Ab
