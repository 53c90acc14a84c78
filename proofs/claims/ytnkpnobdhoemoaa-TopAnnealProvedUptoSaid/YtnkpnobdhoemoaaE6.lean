/- TopAnnealProved answers true. -/
import Derived.Test.YtnkpnobdhoemoaaE4
import Derived.Test.YtnkpnobdhoemoaaQLTopAnnealProved
namespace Go.Ab
open Go
set_option maxRecDepth 1000000
set_option maxHeartbeats 1000000
set_option linter.unusedVariables false
set_option linter.unusedSimpArgs false

theorem cooled_ok : top_cooled = some ((true, ()), ()) := by kernel_rfl
/-- No level need be later than this. -/
def cS (a : Ann) : Nat → Int
  | 0 => 1000000
  | k + 1 => cS a k + (gi a.2.2.1 (k : Int)).2.2
theorem cS_bd {a : Ann} (h : An a) : ∀ k : Nat, k ≤ a.2.2.1.length → 1000000 ≤ cS a k ∧ cS a k ≤ 1000000 + (k : Int) * 100000
  | 0, _ => by simp [cS]
  | k + 1, hk => by
    have ih := cS_bd h k (by omega)
    have s := h.st k (by omega)
    simp only [cS]
    omega
theorem fs_min {a : Ann} (h : An a) {T : Nat → Int} (F : Fs a T) : Fs a (fun x => min (T x) (cS a x)) := fun b hb => by
  have tl : ∀ (T : Nat → Int) {y : Int}, 0 ≤ y → tmL T y = T y.toNat := fun T {y} hy => by unfold tmL; rw [if_neg (by omega)]
  have t0 : ∀ T : Nat → Int, tmL T (-1) = 0 := fun _ => rfl
  rcases sysL_mem.1 hb with ⟨i, hi, rfl⟩ | ⟨i, hi, e⟩ | ⟨i, hi, rfl | rfl⟩
  · have f := F _ hb
    have c := cS_bd h i (by omega)
    dsimp only at f ⊢
    rw [t0, tl _ (by omega), Int.toNat_natCast] at *
    omega
  · have f1 := F ((i : Int), (i : Int) + 1, (gi a.2.2.1 (i : Int)).2.2) (sysL_mem.2 (.inr (.inl ⟨i, hi, .inl rfl⟩)))
    have f2 := F ((i : Int) + 1, (i : Int), -lm a (i : Int)) (sysL_mem.2 (.inr (.inl ⟨i, hi, .inr rfl⟩)))
    have c : cS a (i + 1) = cS a i + (gi a.2.2.1 (i : Int)).2.2 := rfl
    have n1 : ((i : Int) + 1).toNat = i + 1 := by omega
    dsimp only at f1 f2
    rw [tl _ (by omega), tl _ (by omega), Int.toNat_natCast, n1] at f1 f2
    rcases e with rfl | rfl
    · dsimp only
      rw [tl _ (by omega), tl _ (by omega), Int.toNat_natCast, n1]
      omega
    · dsimp only
      rw [tl _ (by omega), tl _ (by omega), Int.toNat_natCast, n1]
      omega
  · have f := F _ hb
    have w := h.wi i hi
    dsimp only at f ⊢
    rw [t0, tl _ (by omega)] at *
    omega
  · have f := F _ hb
    have w := h.wi i hi
    have c := cS_bd h (gi a.2.2.2 (i : Int)).1.toNat (by omega)
    dsimp only at f ⊢
    rw [t0, tl _ (by omega)] at *
    omega
/-- The earliest times are accepted. -/
theorem fs_ct {a : Ann} (h : An a) {t : List Int} (hn : t.length = a.2.2.1.length + 1) (F : Fs a (fun x => gi t (x : Int))) (m : ∀ T, Fs a T → ∀ x : Nat, x ≤ a.2.2.1.length → gi t (x : Int) ≤ T x) : Ct a t := by
  have hl := h.len
  have tl : ∀ {y : Int}, 0 ≤ y → tmL (fun x => gi t (x : Int)) y = gi t y := fun {y} hy => by
    unfold tmL
    rw [if_neg (by omega)]
    dsimp only
    rw [show ((y.toNat : Nat) : Int) = y by omega]
  have t0 : tmL (fun x => gi t (x : Int)) (-1) = 0 := rfl
  refine ⟨hn, fun i hi => ?_, fun i hi => ?_, fun i hi => ?_⟩
  · have c := cS_bd h i (by omega)
    have u := m _ (fs_min h F) i (by omega)
    have l := F.nonneg (x := i) (by omega)
    omega
  · have f1 := F ((i : Int), (i : Int) + 1, (gi a.2.2.1 (i : Int)).2.2) (sysL_mem.2 (.inr (.inl ⟨i, hi, .inl rfl⟩)))
    have f2 := F ((i : Int) + 1, (i : Int), -lm a (i : Int)) (sysL_mem.2 (.inr (.inl ⟨i, hi, .inr rfl⟩)))
    dsimp only at f1 f2
    rw [tl (by omega), tl (by omega)] at f1 f2
    unfold mt
    omega
  · have w := h.wi i hi
    have f1 := F (-1, (gi a.2.2.2 (i : Int)).1, (gi a.2.2.2 (i : Int)).2.2) (sysL_mem.2 (.inr (.inr ⟨i, hi, .inl rfl⟩)))
    have f2 := F ((gi a.2.2.2 (i : Int)).1, -1, -(gi a.2.2.2 (i : Int)).2.1) (sysL_mem.2 (.inr (.inr ⟨i, hi, .inr rfl⟩)))
    dsimp only at f1 f2
    rw [t0, tl (by omega)] at f1 f2
    omega
/-- The stress of a step, rounded up. -/
def hiA (a : Ann) (t : List Int) (i : Int) : Int := -(-work a i / mt t i)
def mxS (a : Ann) (t : List Int) : Nat → Int
  | 0 => 0
  | k + 1 => max (mxS a t k) (hiA a t (k : Int))
theorem ceil_le' {w n l : Int} (hn : 0 < n) : -(-w / n) ≤ l ↔ w ≤ l * n := by
  have := Int.le_ediv_iff_mul_le (a := -l) (b := -w) (c := n) hn
  rw [Int.neg_mul] at this
  omega
theorem hiA_bd {a : Ann} (h : An a) {t : List Int} (c : Ct a t) {i : Int} (h0 : 0 ≤ i) (hi : i < a.2.2.1.length) : 0 ≤ hiA a t i ∧ hiA a t i ≤ (gi a.2.2.1 i).2.1 := by
  have w := h.work_bd h0 hi
  have m := c.mt_bd h h0 hi
  have s := h.at h0 hi
  have st := c.st i.toNat (by omega)
  rw [show ((i.toNat : Nat) : Int) = i by omega] at st
  unfold hiA
  constructor
  · have : -work a i / mt t i ≤ 0 := by
      have := Int.ediv_le_ediv (show 0 < mt t i by omega) (show -work a i ≤ 0 by omega)
      rw [Int.zero_ediv] at this
      exact this
    omega
  · rw [ceil_le' (by omega), Int.mul_comm]
    have l : work a i ≤ lm a i * (gi a.2.2.1 i).2.1 := by
      rw [← ceil_le' (by omega)]
      unfold lm
      omega
    have := Int.mul_le_mul_of_nonneg_right st.1 (show 0 ≤ (gi a.2.2.1 i).2.1 by omega)
    omega
theorem mxS_eq {a : Ann} (h : An a) {t : List Int} (c : Ct a t) : mxS a t a.2.2.1.length = hiA a t (wrstS a t) := by
  have hl := h.len
  have wb := wrstS_bd h t
  have top : ∀ i : Nat, i < a.2.2.1.length → hiA a t (i : Int) ≤ hiA a t (wrstS a t) := fun i hi => by
    have mx := wsS_max h c a.2.2.1.length (Nat.le_refl _) i hi
    have m1 := c.mt_bd h wb.1 wb.2
    have m2 := c.mt_bd h (i := (i : Int)) (by omega) (by omega)
    have u : work a (wrstS a t) ≤ hiA a t (wrstS a t) * mt t (wrstS a t) := (ceil_le' (by omega)).1 (Int.le_refl _)
    have x := Int.mul_le_mul_of_nonneg_right u (show 0 ≤ mt t (i : Int) by omega)
    refine (ceil_le' (by omega)).2 ?_
    refine Int.le_of_mul_le_mul_right (a := mt t (wrstS a t)) ?_ (by omega)
    replace mx : work a (i : Int) * mt t (wrstS a t) ≤ work a (wrstS a t) * mt t (i : Int) := mx
    grind
  have le : ∀ k : Nat, k ≤ a.2.2.1.length → mxS a t k ≤ hiA a t (wrstS a t) ∧ ∀ i : Nat, i < k → hiA a t (i : Int) ≤ mxS a t k := fun k => by
    induction k with
    | zero => exact fun _ => ⟨(hiA_bd h c wb.1 wb.2).1, fun i hi => by omega⟩
    | succ k ih =>
      intro hk
      have i1 := ih (by omega)
      have t1 := top k (by omega)
      simp only [mxS]
      refine ⟨by omega, fun i hi => ?_⟩
      by_cases e : i = k
      · subst e; omega
      · have := i1.2 i (by omega); omega
  have a1 := le _ (Nat.le_refl _)
  have a2 := a1.2 (wrstS a t).toNat (by omega)
  rw [show (((wrstS a t).toNat : Nat) : Int) = wrstS a t by omega] at a2
  omega

theorem k_top9 {a : Ann} (h0 : annE a = 0) {t : List Int} (c : Ct a t) : iterF (fun q_ : Int × (Int × Unit) => (T_top_TopAnnealProved_l9 a ((t, ([], (0, ()))), ()) (wrR a t) q_.1 q_.2.1).run) FUEL (0, 0, ()) = some ((true, ()), ()) := by
  have h := an_of h0
  have hl := h.len
  have hn := c.len
  refine iter_eq (fun k y => y = (mxS a t k, (k : Int), ())) _ a.2.2.1.length (by omega) ?_ rfl
  rintro k y hk rfl
  dsimp only
  unfold T_top_TopAnnealProved_l9
  dsimp only
  by_cases e : k < a.2.2.1.length
  · left
    have m := c.mt_bd h (i := (k : Int)) (by omega) (by omega)
    have hb := hiA_bd h c (i := (k : Int)) (by omega) (by omega)
    have e1 : gi t ((k : Int) + 1) - gi t (k : Int) = mt t (k : Int) := rfl
    have hE : atE a (k : Int) = 0 := by unfold atE; rw [if_pos h0, if_pos (by omega)]
    have hs : strE a (k : Int) (mt t (k : Int)) = 0 := by unfold strE; rw [if_pos hE, if_pos (by omega)]
    have hv : (strV a (k : Int) (mt t (k : Int))).2 = hiA a t (k : Int) := by unfold strV; rw [if_pos hs]; rfl
    refine ⟨(mxS a t (k + 1), ((k + 1 : Nat) : Int), ()), ?_, e, rfl⟩
    refine (br_t (decide_eq_true (by omega))).trans ?_
    rw [w64' (x := (k : Int) + 1) (by omega) (by omega), e1, w64' (x := mt t (k : Int)) (by omega) (by omega)]
    refine (q_of (inB_t' (by omega) (by omega))).trans ?_
    refine (q_of (inB_t' (by omega) (by omega))).trans ?_
    refine (r_bs (k_StressOf a (k : Int) (mt t (k : Int)))).trans ?_
    refine (br_f (nd hs)).trans ?_
    refine (q_of (inB_t' (by omega) (by omega))).trans ?_
    dsimp only
    rw [hv]
    refine (br_f (decide_eq_false (by omega))).trans ?_
    exact r_ret _
  · right
    have e : k = a.2.2.1.length := by omega
    subst e
    refine (br_f (decide_eq_false (by omega))).trans ?_
    refine (r_ret _).trans ?_
    rw [mxS_eq h c]
    have : (wrR a t).1.2.1.2 = hiA a t (wrstS a t) := rfl
    rw [decide_eq_true this]

theorem k_TopAnnealProved {a : (Int × (Int × (List ((Int × (Int × Int))) × List ((Int × (Int × Int))))))} {times : List (Int)} {circle : List (Int)} (b0 : bulkT (.pair (.int .i64) (.pair (.int .i64) (.pair (.list (.pair (.int .i64) (.pair (.int .i64) (.int .i64)))) (.list (.pair (.int .i64) (.pair (.int .i64) (.int .i64))))))) a ≤ 1048576) (w0 : wfT (.pair (.int .i64) (.pair (.int .i64) (.pair (.list (.pair (.int .i64) (.pair (.int .i64) (.int .i64)))) (.list (.pair (.int .i64) (.pair (.int .i64) (.int .i64))))))) a) (b1 : bulkT (.list (.int .i64)) times ≤ 1048576) (w1 : wfT (.list (.int .i64)) times) (b2 : bulkT (.list (.int .i64)) circle ≤ 1048576) (w2 : wfT (.list (.int .i64)) circle) : top_TopAnnealProved a times circle = some ((true, ()), ()) := by
  simp only [top_TopAnnealProved, T_top_TopAnnealProved]
  rw [r_bind, cooled_ok, Option.bind_some]
  refine (br_f rfl).trans ?_
  obtain ⟨b, hf, hb⟩ := k_Light a
  refine (r_bs hf).trans ?_
  cases b with
  | false => exact (br_t rfl).trans (r_ret _)
  | true =>
    obtain ⟨l1, l2⟩ := hb rfl
    refine (br_f rfl).trans ?_
    by_cases h12 : 12 < times.length
    · exact (br_t (decide_eq_true (by omega))).trans (r_ret _)
    refine (br_f (decide_eq_false (by omega))).trans ?_
    by_cases h30 : 30 < circle.length
    · exact (br_t (decide_eq_true (by omega))).trans (r_ret _)
    refine (br_f (decide_eq_false (by omega))).trans ?_
    refine (r_bs (k_rCheckAnnealing a)).trans ?_
    by_cases h0 : annE a = 0
    · have h := an_of h0
      have hl := h.len
      refine (br_f (nd h0)).trans ?_
      obtain ⟨t, cc, er, k1, o1⟩ := k_Earliest h0
      refine (r_bs k1).trans ?_
      refine (r_bs (k_CheckTimes a times)).trans ?_
      refine (r_bs (k_CheckCircle a circle)).trans ?_
      rw [if_pos h0, if_pos h0]
      by_cases hc : (ctR a times).1.2.1 = 0
      · have F := ct_fs h (ct_of hc)
        refine (br_t (decide_eq_true hc)).trans ?_
        have n1 : ccE (sysL a) circle ≠ 0 := fun q => cc_none q F
        refine (br_f (decide_eq_false n1)).trans ?_
        rcases o1 with ⟨rfl, rfl, q1, q2, q3⟩ | ⟨_, _, q1⟩
        · refine (br_f rfl).trans ?_
          refine (br_f rfl).trans ?_
          have c := fs_ct h q1 q2 q3
          refine (r_bs (k_CheckTimes a t)).trans ?_
          rw [if_pos h0, ct_all c]
          refine (br_f rfl).trans ?_
          refine (br_f (decide_eq_false n1)).trans ?_
          rw [w64' (x := (a.2.2.1.length : Int) + 1) (by omega) (by omega)]
          refine (br_f (nd (by dsimp only; omega))).trans ?_
          refine (r_bs (k_Worst h0 c)).trans ?_
          refine (br_f rfl).trans ?_
          rw [r_iter]
          exact k_top9 h0 c
        · exact absurd (cc_none q1 F) id
      · refine (br_f (decide_eq_false hc)).trans ?_
        rcases o1 with ⟨rfl, rfl, q1, q2, q3⟩ | ⟨rfl, rfl, q1⟩
        · have n1 : ccE (sysL a) circle ≠ 0 := fun q => cc_none q q2
          refine (br_f rfl).trans ?_
          have c := fs_ct h q1 q2 q3
          refine (r_bs (k_CheckTimes a t)).trans ?_
          rw [if_pos h0, ct_all c]
          refine (br_f rfl).trans ?_
          refine (br_f (decide_eq_false n1)).trans ?_
          rw [w64' (x := (a.2.2.1.length : Int) + 1) (by omega) (by omega)]
          refine (br_f (nd (by dsimp only; omega))).trans ?_
          refine (r_bs (k_Worst h0 c)).trans ?_
          refine (br_f rfl).trans ?_
          rw [r_iter]
          exact k_top9 h0 c
        · refine (br_t rfl).trans ?_
          refine (r_bs (k_CheckCircle a cc)).trans ?_
          rw [if_pos h0]
          refine (br_t rfl).trans ?_
          refine (br_t rfl).trans ?_
          refine (br_t (decide_eq_true q1)).trans ?_
          refine (r_ret _).trans ?_
          have neg := (ccE_0 q1).2.2.2
          have e : (ccR (sysL a) cc).1.1 = ccSum (sysL a) cc cc.length := if_pos q1
          rw [decide_eq_true (show (ccR (sysL a) cc).1.1 < 0 by rw [e]; exact neg)]
    · exact (br_t (nd' h0)).trans (r_ret _)
end Go.Ab
