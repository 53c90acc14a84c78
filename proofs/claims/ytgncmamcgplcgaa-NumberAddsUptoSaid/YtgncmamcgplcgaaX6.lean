/- NumberAdds. -/
import Derived.Test.YtgncmamcgplcgaaR1
import Derived.Test.YtgncmamcgplcgaaSG
import Derived.Test.YtgncmamcgplcgaaFD
import Derived.Test.YtgncmamcgplcgaaQLNumberAdds
namespace Go.Ab
open Go
set_option maxRecDepth 1000000
set_option maxHeartbeats 1000000
set_option linter.unusedVariables false
set_option linter.unusedSimpArgs false

theorem dvN_dZ (p : List Int) : dvN p (p.length - 1) = dZ p := by
  unfold dZ
  have : ∀ n, dvN p n = mkL (fun i => gN p (i + 1) * ((i : Int) + 1)) n := by
    intro n
    induction n with
    | zero => rfl
    | succ n ih =>
      rw [dvN_succ, mkL_succ, ih, Int.mul_comm]
      rfl
  exact this _
theorem bdE_of {p : List Int} {lo hi : Int × Int} (hp : pcE p = 0) (hlo : Small lo) (hhi : Small hi) (hlt : lo.1 * hi.2 < hi.1 * lo.2) : bdE p lo hi = 0 := by
  unfold bdE
  rw [if_pos hp]
  have : e2 lo hi = 0 := by unfold e2; rw [if_pos (cfE_of hlo)]; exact cfE_of hhi
  rw [if_pos this, if_neg (by omega)]
theorem between_low {lo hi : Int × Int} (hlo : Small lo) (hhi : Small hi) (hlt : lo.1 * hi.2 < hi.1 * lo.2) {n d : Int} (hd : 0 < d) (hn : n = lo.1 + hi.1) (hdd : d = lo.2 + hi.2) : lo.1 * (low n d).2 < (low n d).1 * lo.2 ∧ (low n d).1 * hi.2 < hi.1 * (low n d).2 := by
  have hc := low_cross (n := n) (d := d) (by omega)
  have hl := (low_is (n := n) (d := d) (by omega)).1
  have b4 := hlo.1.1
  have d4 := hhi.1.1
  generalize (low n d).1 = x at *
  generalize (low n d).2 = y at *
  generalize lo.1 = a at *
  generalize lo.2 = b at *
  generalize hi.1 = c at *
  generalize hi.2 = e at *
  have w := Int.mul_pos hl (show 0 < c * b - a * e by omega)
  constructor
  · by_cases q : a * y < x * b
    · exact q
    · have w2 := Int.mul_nonneg (show 0 ≤ d by omega) (show 0 ≤ a * y - x * b by omega)
      subst hn
      subst hdd
      exfalso
      have e1 : (b + e) * (a * y - x * b) = (b + e) * a * y - (x * (b + e)) * b := by grind
      rw [e1, ← hc] at w2
      have e2 : (b + e) * a * y - (a + c) * y * b = -(y * (c * b - a * e)) := by grind
      omega
  · by_cases q : x * e < c * y
    · exact q
    · have w2 := Int.mul_nonneg (show 0 ≤ d by omega) (show 0 ≤ x * e - c * y by omega)
      subst hn
      subst hdd
      exfalso
      have e1 : (b + e) * (x * e - c * y) = (x * (b + e)) * e - (b + e) * c * y := by grind
      rw [e1, ← hc] at w2
      have e2 : (a + c) * y * e - (b + e) * c * y = -(y * (c * b - a * e)) := by grind
      omega
theorem vv_bd (p : List Int) (e : Nat) (a b : Int) : 0 ≤ vv p e a b ∧ vv p e a b ≤ e := ⟨(cgS_bd (fun j => bhF_vals _ _ 8 _) (e + 1)).1.1, cg_le _ e⟩
/-- RootsIn, told by the changes. -/
theorem k_RI {p : List Int} {lo hi : Int × Int} (hp : pcE p = 0) (hlo : Small lo) (hhi : Small hi) (hlt : lo.1 * hi.2 < hi.1 * lo.2) {e : Nat} (hc : Chn p e) :
    number_RootsIn p lo hi = some ((vv p e lo.1 lo.2 - vv p e hi.1 hi.2, 0, ()), ()) := by
  obtain ⟨e', k, c, kc⟩ := k_RootsIn (bdE_of hp hlo hhi hlt) hlo.i1 hlo.i2 hhi.i1 hhi.i2
  have := (kc.chn hp).uniq hc
  subst this
  exact k
theorem Chn.rolle' {p : List Int} {e e' : Nat} (h : Chn p e) (h' : Chn (dZ p) e') {lo hi : Int × Int} (hlo : Small lo) (hhi : Small hi) (hlt : lo.1 * hi.2 < hi.1 * lo.2) :
    vv p e lo.1 lo.2 - vv p e hi.1 hi.2 - 1 ≤ vv (dZ p) e' lo.1 lo.2 - vv (dZ p) e' hi.1 hi.2 := by
  have b4 := hlo.1.1
  have d4 := hhi.1.1
  rw [h.vv_eq b4, h.vv_eq d4, h'.vv_eq b4, h'.vv_eq d4]
  exact h.rolle h' (frac_lt b4 d4 hlt)
theorem k_NumberAdds {p : List (Int)} {lo : (Int × Int)} {hi : (Int × Int)} (b0 : bulkT (.list (.int .i64)) p ≤ 1048576) (w0 : wfT (.list (.int .i64)) p) (b1 : bulkT (.pair (.int .i64) (.int .i64)) lo ≤ 1048576) (w1 : wfT (.pair (.int .i64) (.int .i64)) lo) (b2 : bulkT (.pair (.int .i64) (.int .i64)) hi ≤ 1048576) (w2 : wfT (.pair (.int .i64) (.int .i64)) hi) : law01xNumberAdds p lo hi = some ((true, ()), ()) := by
  have hp : p.length ≤ 1048576 := by
    exact Nat.le_trans (bulk_len (a := .int .i64) (by decide)) b0
  have i1 : I64 lo.1 := w1.1
  have i2 : I64 lo.2 := w1.2
  have i3 : I64 hi.1 := w2.1
  have i4 : I64 hi.2 := w2.2
  show (T_law01xNumberAdds p lo hi).run = _
  unfold T_law01xNumberAdds
  rw [r_bind, awake_ok, Option.bind_some]
  refine (br_f rfl).trans ?_
  obtain ⟨b, kb⟩ := k_low p
  refine (r_bs kb).trans ?_
  cases b with
  | false => exact (br_t rfl).trans (r_ret _)
  | true =>
    refine (br_f rfl).trans ?_
    refine (r_bs (k_bounds i1 i2 i3 i4)).trans ?_
    by_cases h : bdE p lo hi = 0
    case neg => exact (br_t (nd' h)).trans (r_ret _)
    refine (br_f (nd h)).trans ?_
    obtain ⟨pc, hlo, hhi, hlt⟩ := bdE_zero i1 i2 i3 i4 h
    have l1 := hlo.2.1
    have l2 := hlo.2.2.1
    have l3 := hlo.2.2.2
    have l4 := hlo.1.1
    have h1 := hhi.2.1
    have h2 := hhi.2.2.1
    have h3 := hhi.2.2.2
    have h4 := hhi.1.1
    refine (r_bs (k_Abs (n := lo.1) (by omega) (by omega))).trans ?_
    dsimp only
    by_cases q1 : 10000 < max lo.1 (-lo.1)
    · exact (br_t (decide_eq_true q1)).trans (r_ret _)
    refine (br_f (decide_eq_false q1)).trans ?_
    refine (r_bs (k_Abs (n := hi.1) (by omega) (by omega))).trans ?_
    dsimp only
    by_cases q2 : 10000 < max hi.1 (-hi.1)
    · exact (br_t (decide_eq_true q2)).trans (r_ret _)
    refine (br_f (decide_eq_false q2)).trans ?_
    by_cases q3 : 10000 < lo.2
    · exact (br_t (decide_eq_true q3)).trans (r_ret _)
    refine (br_f (decide_eq_false q3)).trans ?_
    by_cases q4 : 10000 < hi.2
    · exact (br_t (decide_eq_true q4)).trans (r_ret _)
    refine (br_f (decide_eq_false q4)).trans ?_
    rw [w64' (x := lo.1 + hi.1) (by omega) (by omega), w64' (x := lo.2 + hi.2) (by omega) (by omega)]
    have hd0 : lo.2 + hi.2 ≠ 0 := by omega
    obtain ⟨bt1, bt2⟩ := between_low hlo hhi hlt (n := lo.1 + hi.1) (d := lo.2 + hi.2) (by omega) rfl rfl
    have lbd := low_bd (n := lo.1 + hi.1) hd0
    have hm : Small (low (lo.1 + hi.1) (lo.2 + hi.2)) := ⟨low_is hd0, by omega, by omega, by omega⟩
    refine (r_bs (k_Lowest (n := lo.1 + hi.1) (d := lo.2 + hi.2) hd0 (by omega) (by omega) (by omega) (by omega))).trans ?_
    generalize low (lo.1 + hi.1) (lo.2 + hi.2) = m at *
    obtain ⟨e, _, c, kc⟩ := k_RootsIn h i1 i2 i3 i4
    have hc := kc.chn pc
    obtain ⟨p1, p2, _⟩ := pcE_zero pc
    have he := hc.e_le
    have v1 := vv_bd p e lo.1 lo.2
    have v2 := vv_bd p e m.1 m.2
    have v3 := vv_bd p e hi.1 hi.2
    have o1 := hc.vmono (a := lo.1) (b := lo.2) (c := m.1) (d := m.2) l4 hm.1.1 (by omega)
    have o2 := hc.vmono (a := m.1) (b := m.2) (c := hi.1) (d := hi.2) hm.1.1 h4 (by omega)
    refine (r_bs (k_CopyInts hp)).trans ?_
    refine (r_bs (k_RI pc hlo hm bt1 hc)).trans ?_
    refine (r_bs (k_CopyInts hp)).trans ?_
    refine (r_bs (k_RI pc hm hhi bt2 hc)).trans ?_
    refine (r_bs (k_CopyInts hp)).trans ?_
    refine (r_bs (k_RI pc hlo hhi hlt hc)).trans ?_
    refine (br_f rfl).trans ?_
    refine (br_f rfl).trans ?_
    refine (br_f rfl).trans ?_
    dsimp only
    refine (br_f (decide_eq_false (show ¬ vv p e lo.1 lo.2 - vv p e m.1 m.2 < 0 by omega))).trans ?_
    refine (br_f (decide_eq_false (show ¬ vv p e m.1 m.2 - vv p e hi.1 hi.2 < 0 by omega))).trans ?_
    rw [w64' (x := vv p e lo.1 lo.2 - vv p e m.1 m.2 + (vv p e m.1 m.2 - vv p e hi.1 hi.2)) (by omega) (by omega)]
    refine (br_f (nd (show vv p e lo.1 lo.2 - vv p e m.1 m.2 + (vv p e m.1 m.2 - vv p e hi.1 hi.2) = vv p e lo.1 lo.2 - vv p e hi.1 hi.2 by omega))).trans ?_
    rw [w64' (x := (p.length : Int) - 1) (by omega) (by omega)]
    refine (br_f (decide_eq_false (show ¬ (p.length : Int) - 1 < vv p e lo.1 lo.2 - vv p e hi.1 hi.2 by omega))).trans ?_
    refine (r_bs (k_CopyInts hp)).trans ?_
    by_cases hl : p.length = 1
    · have kd : number_Derivative p = some (([], 11, ()), ()) := by
        simp only [number_Derivative, T_number_Derivative]
        refine (r_bs (k_CheckPoly p)).trans ?_
        refine (br_f (nd pc)).trans ?_
        exact (br_t (decide_eq_true (by omega))).trans (r_ret _)
      refine (r_bs kd).trans ?_
      refine (br_t rfl).trans ?_
      refine (br_t rfl).trans ?_
      exact r_ret _
    · refine (r_bs (k_Derivative pc hl)).trans ?_
      rw [dvN_dZ]
      unfold toldV
      by_cases hz : pcE (dZ p) = 0
      · rw [if_pos hz, if_pos hz]
        refine (br_f rfl).trans ?_
        obtain ⟨e', _, c', kc'⟩ := k_RootsIn (bdE_of hz hlo hhi hlt) i1 i2 i3 i4
        have hc' := kc'.chn hz
        refine (r_bs (k_RI hz hlo hhi hlt hc')).trans ?_
        refine (br_t rfl).trans ?_
        refine (r_ret _).trans ?_
        dsimp only
        rw [w64' (x := vv p e lo.1 lo.2 - vv p e hi.1 hi.2 - 1) (by omega) (by omega)]
        have := hc.rolle' hc' hlo hhi hlt
        rw [decide_eq_true this]
      · rw [if_neg hz, if_neg hz]
        refine (br_t rfl).trans ?_
        refine (br_f rfl).trans ?_
        exact r_ret _
end Go.Ab
