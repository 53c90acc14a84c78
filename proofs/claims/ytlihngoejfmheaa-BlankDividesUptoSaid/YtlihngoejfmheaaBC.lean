/- BlankDivides: a ring that is divided at a height, or by a diameter, has the same volume and centre; a part and the same part cut add nothing; the order of parts does not matter. It answers true for all blanks. -/
import Derived.Test.YtlihngoejfmheaaBB
namespace Go.Ab
open Go
set_option maxRecDepth 1000000
set_option maxHeartbeats 1000000
set_option linter.unusedVariables false
set_option linter.unusedSimpArgs false

theorem k_Mod (n : Int) {b : Int} (hb : 0 < b) (hb' : b ≤ 1000000) : base_Mod n b = some ((n % b, ()), ()) := by
  have h1 := Int.tmod_lt_of_pos n hb
  have h2 : -b < n.tmod b := by
    rcases Int.le_total 0 n with h | h
    · have := Int.tmod_nonneg b h; omega
    · have := Int.tmod_nonneg b (show 0 ≤ -n by omega)
      have h3 := Int.tmod_lt_of_pos (-n) hb
      rw [Int.neg_tmod] at this h3
      omega
  have h3 : n % b = _ := Int.emod_eq_tmod (a := n) (b := b)
  unfold base_Mod T_base_Mod
  refine (q_of (decide_eq_true (by omega))).trans ?_
  by_cases c : n.tmod b < 0
  · refine (br_t (decide_eq_true c)).trans ?_
    rw [w64' (x := n.tmod b + b) (by omega) (by omega)]
    have hn : ¬ (0 ≤ n) := fun h => by have := Int.tmod_nonneg b h; omega
    have hd : ¬ b ∣ n := fun h => by rw [Int.tmod_eq_zero_of_dvd h] at c; omega
    rw [if_neg (by rintro (h | h); exact hn h; exact hd h)] at h3
    have e : n % b = n.tmod b + b := by omega
    rw [e]; exact r_ret _
  · refine (br_f (decide_eq_false c)).trans ?_
    have e : n % b = n.tmod b := by
      by_cases h : 0 ≤ n ∨ b ∣ n
      · rw [if_pos h] at h3; omega
      · rw [if_neg h] at h3
        have h4 := Int.emod_lt_of_pos n hb
        omega
    rw [e]; exact r_ret _

theorem Gl.mem {g : Gla} (G : Gl g) {p : Prt} (hp : p ∈ g.2.2.1) : ptE g.2.1 p = 0 := by
  obtain ⟨i, hi, rfl⟩ := List.getElem_of_mem hp
  rw [← gi_nat hi]
  exact G.pt i hi
theorem lk_self {g : Gla} (hg : glE g = 0) : Lk g g.2.2.1 := ⟨(glE_0 hg).1.np, fun _ hp => (glE_0 hg).1.mem hp, rfl⟩
theorem lk_rev {g : Gla} (hg : glE g = 0) : Lk g g.2.2.1.reverse :=
  ⟨by rw [List.length_reverse]; exact (glE_0 hg).1.np, fun _ hp => (glE_0 hg).1.mem (List.mem_reverse.1 hp), totP_rev _⟩
theorem lk_set {d t : Int} {p p1 q : Prt} {r : List Prt} {cs : List Cap} (hg : glE (d, t, p :: r, cs) = 0) (hl : (p :: r).length ≤ 8) (h1 : ptE t p1 = 0) (h2 : ptE t q = 0)
    (hc1 : p1.2.2.2.2.2 = p.2.2.2.2.2) (hc2 : q.2.2.2.2.2 = p.2.2.2.2.2) (hV : pV p1 + pV q = pV p) (hM : pM p1 + pM q = pM p) : Lk (d, t, p :: r, cs) (List.set (p :: r) 0 p1 ++ [q]) := by
  refine ⟨by simp only [List.length_append, List.length_set, List.length_cons, List.length_nil] at hl ⊢; omega, fun x hx => ?_, tot_set hc1 hc2 hV hM⟩
  have hx : x ∈ (p1 :: r) ++ [q] := hx
  simp only [List.mem_append, List.mem_cons, List.not_mem_nil, or_false] at hx
  rcases hx with (rfl | hx) | rfl
  · exact h1
  · exact (glE_0 hg).1.mem (g := (d, t, p :: r, cs)) (List.mem_cons_of_mem _ hx)
  · exact h2
theorem lk_hi {g : Gla} (hg : glE g = 0) (h0 : 0 < g.2.2.1.length) (hl : g.2.2.1.length ≤ 8) {m : Int} (hm : 0 ≤ m) (hm2 : m < (gi g.2.2.1 0).2.2.2.1 - (gi g.2.2.1 0).2.2.1 - 1) : Lk g (hiP g m) := by
  obtain ⟨d, t, ps, cs⟩ := g
  cases ps with
  | nil => simp at h0
  | cons p r =>
    have hp : ptE t p = 0 := (glE_0 hg).1.mem (g := (d, t, p :: r, cs)) List.mem_cons_self
    have ht := (glE_0 hg).1.th
    obtain ⟨q1, q2, q3, q4, q5, q6, q7⟩ := ptE_0 hp
    have hm2 : m < p.2.2.2.1 - p.2.2.1 - 1 := hm2
    have ht : 1 ≤ t ∧ t ≤ 500 := ht
    have e : IntKind.i64.wrap (IntKind.i64.wrap (p.2.2.1 + 1) + m) = p.2.2.1 + 1 + m := by rw [w64' (x := p.2.2.1 + 1) (by omega) (by omega), w64' (by omega) (by omega)]
    obtain ⟨a1, a2, a3, a4⟩ := high_ok (c := p.2.2.1 + 1 + m) hp (by omega) (by omega)
    show Lk _ (List.set (p :: r) 0 (p.1, p.2.1, p.2.2.1, IntKind.i64.wrap (IntKind.i64.wrap (p.2.2.1 + 1) + m), p.2.2.2.2) ++ [(p.1, p.2.1, IntKind.i64.wrap (IntKind.i64.wrap (p.2.2.1 + 1) + m), p.2.2.2.1, p.2.2.2.2.1, p.2.2.2.2.2)])
    rw [e]
    exact lk_set hg hl a1 a2 rfl rfl a3 a4
theorem lk_wi {g : Gla} (hg : glE g = 0) (h0 : 0 < g.2.2.1.length) (hl : g.2.2.1.length ≤ 8) (hc : (gi g.2.2.1 0).2.2.2.2.1 = 0) {m : Int} (hm : 0 ≤ m) (hm2 : m < (gi g.2.2.1 0).1 - (gi g.2.2.1 0).2.1 - 1) : Lk g (wiP g m) := by
  obtain ⟨d, t, ps, cs⟩ := g
  cases ps with
  | nil => simp at h0
  | cons p r =>
    have hp : ptE t p = 0 := (glE_0 hg).1.mem (g := (d, t, p :: r, cs)) List.mem_cons_self
    obtain ⟨q1, q2, q3, q4, q5, q6, q7⟩ := ptE_0 hp
    have hm2 : m < p.1 - p.2.1 - 1 := hm2
    have hc : p.2.2.2.2.1 = 0 := hc
    have e : IntKind.i64.wrap (IntKind.i64.wrap (p.2.1 + 1) + m) = p.2.1 + 1 + m := by rw [w64' (x := p.2.1 + 1) (by omega) (by omega), w64' (by omega) (by omega)]
    obtain ⟨a1, a2, a3, a4⟩ := wide_ok (c := p.2.1 + 1 + m) hp hc (by omega) (by omega)
    show Lk _ (List.set (p :: r) 0 (p.1, IntKind.i64.wrap (IntKind.i64.wrap (p.2.1 + 1) + m), p.2.2) ++ [(IntKind.i64.wrap (IntKind.i64.wrap (p.2.1 + 1) + m), p.2.1, p.2.2.1, p.2.2.2.1, p.2.2.2.2.1, p.2.2.2.2.2)])
    rw [e]
    exact lk_set hg hl a1 a2 rfl rfl a3 a4
theorem lk_bo {g : Gla} (hg : glE g = 0) (h0 : 0 < g.2.2.1.length) (hl : g.2.2.1.length ≤ 8) : Lk g (boP g) := by
  obtain ⟨d, t, ps, cs⟩ := g
  cases ps with
  | nil => simp at h0
  | cons p r =>
    have hp : ptE t p = 0 := (glE_0 hg).1.mem (g := (d, t, p :: r, cs)) List.mem_cons_self
    show Lk _ ((p :: r) ++ [(p.1, p.2.1, p.2.2.1, p.2.2.2.1, p.2.2.2.2.1, !p.2.2.2.2.2), (p.1, p.2.1, p.2.2.1, p.2.2.2.1, p.2.2.2.2.1, p.2.2.2.2.2)])
    have hl : (p :: r).length ≤ 8 := hl
    refine ⟨by simp only [List.length_append, List.length_cons, List.length_nil] at hl ⊢; omega, fun x hx => ?_, tot_both⟩
    rw [List.mem_append] at hx
    rcases hx with hx | hx
    · exact (glE_0 hg).1.mem (g := (d, t, p :: r, cs)) hx
    · simp only [List.mem_cons, List.not_mem_nil, or_false] at hx
      rcases hx with rfl | rfl
      · exact hp
      · exact hp

theorem k_BlankDivides {g : (Int × (Int × (List ((Int × (Int × (Int × (Int × (Int × Bool)))))) × List ((Int × (Int × (Int × (Bool × Bool))))))))} {at_ : (Int × Int)} (b0 : bulkT (.pair (.int .i64) (.pair (.int .i64) (.pair (.list (.pair (.int .i64) (.pair (.int .i64) (.pair (.int .i64) (.pair (.int .i64) (.pair (.int .i64) .bool)))))) (.list (.pair (.int .i64) (.pair (.int .i64) (.pair (.int .i64) (.pair .bool .bool)))))))) g ≤ 1048576) (w0 : wfT (.pair (.int .i64) (.pair (.int .i64) (.pair (.list (.pair (.int .i64) (.pair (.int .i64) (.pair (.int .i64) (.pair (.int .i64) (.pair (.int .i64) .bool)))))) (.list (.pair (.int .i64) (.pair (.int .i64) (.pair (.int .i64) (.pair .bool .bool)))))))) g) (b1 : bulkT (.pair (.int .i64) (.int .i64)) at_ ≤ 1048576) (w1 : wfT (.pair (.int .i64) (.int .i64)) at_) : law03xBlankDivides g at_ = some ((true, ()), ()) := by
  show (T_law03xBlankDivides g at_).run = _
  unfold T_law03xBlankDivides
  rw [r_bind, awake_ok, Option.bind_some]
  refine (br_f rfl).trans ?_
  by_cases c1 : 8 < (g.2.2.1.length : Int)
  · exact (br_t (decide_eq_true c1)).trans (r_ret _)
  refine (br_f (decide_eq_false c1)).trans ?_
  by_cases c2 : (g.2.2.1.length : Int) = 0
  · exact (br_t (decide_eq_true c2)).trans (r_ret _)
  refine (br_f (decide_eq_false c2)).trans ?_
  by_cases c3 : 4 < (g.2.2.2.length : Int)
  · exact (br_t (decide_eq_true c3)).trans (r_ret _)
  refine (br_f (decide_eq_false c3)).trans ?_
  have h0 : 0 < g.2.2.1.length := by omega
  have hl : g.2.2.1.length ≤ 8 := by omega
  have hcp := k_copiedP (g := g) h0 (by omega) (by omega)
  have hc := k_copied (g := g) h0 (by omega) (by omega)
  refine (r_bs hcp).trans ?_
  by_cases hg : glE g = 0
  case neg =>
    refine (r_bs (k_Volume g)).trans ?_
    refine (r_bs hcp).trans ?_
    refine (r_bs (k_Centre g)).trans ?_
    exact (br_t (nd' hg)).trans (r_ret _)
  have hs := lk_self hg
  have hr := lk_rev hg
  have hb := lk_bo hg h0 hl
  obtain ⟨q1, q2, q3, q4, q5, q6, q7⟩ := ptE_0 ((glE_0 hg).1.pt 0 h0)
  have ht := (glE_0 hg).1.th
  have e0 : ((0 : Nat) : Int) = 0 := rfl
  rw [e0] at q1 q2 q3 q4 q5 q6 q7
  refine (r_bs (hs.V hg)).trans ?_
  refine (r_bs hcp).trans ?_
  refine (r_bs (hs.C hg)).trans ?_
  refine (br_f (nd rfl)).trans ?_
  refine (q_of (inB_t' (Int.le_refl _) (by omega))).trans ?_
  refine (r_bs hc).trans ?_
  refine (r_bs hc).trans ?_
  rw [w64' (x := (gi g.2.2.1 0).2.2.2.1 - (gi g.2.2.1 0).2.2.1) (by omega) (by omega), w64' (x := (gi g.2.2.1 0).1 - (gi g.2.2.1 0).2.1) (by omega) (by omega),
    w64' (x := (gi g.2.2.1 0).2.2.2.1 - (gi g.2.2.1 0).2.2.1 - 1) (by omega) (by omega), w64' (x := (gi g.2.2.1 0).1 - (gi g.2.2.1 0).2.1 - 1) (by omega) (by omega), w64' (x := (g.2.2.1.length : Int) - 1) (by omega) (by omega)]
  by_cases d1 : 1 < (gi g.2.2.1 0).2.2.2.1 - (gi g.2.2.1 0).2.2.1
  · refine (br_t (decide_eq_true d1)).trans ?_
    have hh := lk_hi hg h0 hl (m := at_.1 % ((gi g.2.2.1 0).2.2.2.1 - (gi g.2.2.1 0).2.2.1 - 1)) (Int.emod_nonneg _ (by omega)) (Int.emod_lt_of_pos _ (by omega))
    refine (r_bs (k_Mod at_.1 (b := (gi g.2.2.1 0).2.2.2.1 - (gi g.2.2.1 0).2.2.1 - 1) (by omega) (by omega))).trans ?_
    refine (q_of (inB_t' (Int.le_refl _) (by dsimp only; omega))).trans ?_
    refine (q_of (decide_eq_true (by simp))).trans ?_
    refine (q_of (decide_eq_true (by simp))).trans ?_
    refine (q_of (decide_eq_true (by simp))).trans ?_
    refine (q_of (decide_eq_true (by simp))).trans ?_
    refine (q_of (app_t' (by simp; omega) (by simp; omega))).trans ?_
    by_cases d2 : (gi g.2.2.1 0).2.2.2.2.1 = 0
    · refine (br_t (decide_eq_true d2)).trans ?_
      by_cases d3 : 1 < (gi g.2.2.1 0).1 - (gi g.2.2.1 0).2.1
      · refine (br_t (decide_eq_true d3)).trans ?_
        have hw := lk_wi hg h0 hl d2 (m := at_.2 % ((gi g.2.2.1 0).1 - (gi g.2.2.1 0).2.1 - 1)) (Int.emod_nonneg _ (by omega)) (Int.emod_lt_of_pos _ (by omega))
        refine (r_bs (k_Mod at_.2 (b := (gi g.2.2.1 0).1 - (gi g.2.2.1 0).2.1 - 1) (by omega) (by omega))).trans ?_
        refine (q_of (inB_t' (Int.le_refl _) (by dsimp only; omega))).trans ?_
        refine (q_of (decide_eq_true (by simp))).trans ?_
        refine (q_of (decide_eq_true (by simp))).trans ?_
        refine (q_of (decide_eq_true (by simp))).trans ?_
        refine (q_of (decide_eq_true (by simp))).trans ?_
        refine (q_of (app_t' (by simp; omega) (by simp; omega))).trans ?_
        refine (r_bs hc).trans ?_
        refine (q_of (decide_eq_true rfl)).trans ?_
        refine (q_of (decide_eq_true rfl)).trans ?_
        refine (q_of (inB_t' (Int.le_refl _) (by omega))).trans ?_
        refine (q_of (decide_eq_true rfl)).trans ?_
        refine (q_of (app_t' (by simp; omega) (by simp; omega))).trans ?_
        refine (q_of (app_t' (by omega) (by omega))).trans ?_
        refine (q_of (decide_eq_true rfl)).trans ?_
        refine (q_of (decide_eq_true rfl)).trans ?_
        rw [r_iter]
        exact lp10 hg hl hb hr hh hw
      · refine (br_f (decide_eq_false d3)).trans ?_
        refine (r_bs hc).trans ?_
        refine (q_of (decide_eq_true rfl)).trans ?_
        refine (q_of (decide_eq_true rfl)).trans ?_
        refine (q_of (inB_t' (Int.le_refl _) (by omega))).trans ?_
        refine (q_of (decide_eq_true rfl)).trans ?_
        refine (q_of (app_t' (by simp; omega) (by simp; omega))).trans ?_
        refine (q_of (app_t' (by omega) (by omega))).trans ?_
        refine (q_of (decide_eq_true rfl)).trans ?_
        refine (q_of (decide_eq_true rfl)).trans ?_
        rw [r_iter]
        exact lp20 hg hl hb hr hh hs
    · refine (br_f (decide_eq_false d2)).trans ?_
      refine (r_bs hc).trans ?_
      refine (q_of (decide_eq_true rfl)).trans ?_
      refine (q_of (decide_eq_true rfl)).trans ?_
      refine (q_of (inB_t' (Int.le_refl _) (by omega))).trans ?_
      refine (q_of (decide_eq_true rfl)).trans ?_
      refine (q_of (app_t' (by simp; omega) (by simp; omega))).trans ?_
      refine (q_of (app_t' (by omega) (by omega))).trans ?_
      refine (q_of (decide_eq_true rfl)).trans ?_
      refine (q_of (decide_eq_true rfl)).trans ?_
      rw [r_iter]
      exact lp20 hg hl hb hr hh hs
  · refine (br_f (decide_eq_false d1)).trans ?_
    by_cases d2 : (gi g.2.2.1 0).2.2.2.2.1 = 0
    · refine (br_t (decide_eq_true d2)).trans ?_
      by_cases d3 : 1 < (gi g.2.2.1 0).1 - (gi g.2.2.1 0).2.1
      · refine (br_t (decide_eq_true d3)).trans ?_
        have hw := lk_wi hg h0 hl d2 (m := at_.2 % ((gi g.2.2.1 0).1 - (gi g.2.2.1 0).2.1 - 1)) (Int.emod_nonneg _ (by omega)) (Int.emod_lt_of_pos _ (by omega))
        refine (r_bs (k_Mod at_.2 (b := (gi g.2.2.1 0).1 - (gi g.2.2.1 0).2.1 - 1) (by omega) (by omega))).trans ?_
        refine (q_of (inB_t' (Int.le_refl _) (by dsimp only; omega))).trans ?_
        refine (q_of (decide_eq_true (by simp))).trans ?_
        refine (q_of (decide_eq_true (by simp))).trans ?_
        refine (q_of (decide_eq_true (by simp))).trans ?_
        refine (q_of (decide_eq_true (by simp))).trans ?_
        refine (q_of (app_t' (by simp; omega) (by simp; omega))).trans ?_
        refine (r_bs hc).trans ?_
        refine (q_of (decide_eq_true rfl)).trans ?_
        refine (q_of (decide_eq_true rfl)).trans ?_
        refine (q_of (inB_t' (Int.le_refl _) (by omega))).trans ?_
        refine (q_of (decide_eq_true rfl)).trans ?_
        refine (q_of (app_t' (by simp; omega) (by simp; omega))).trans ?_
        refine (q_of (app_t' (by omega) (by omega))).trans ?_
        refine (q_of (decide_eq_true rfl)).trans ?_
        refine (q_of (decide_eq_true rfl)).trans ?_
        rw [r_iter]
        exact lp41 hg hl hb hr hw hs
      · refine (br_f (decide_eq_false d3)).trans ?_
        refine (r_bs hc).trans ?_
        refine (q_of (decide_eq_true rfl)).trans ?_
        refine (q_of (decide_eq_true rfl)).trans ?_
        refine (q_of (inB_t' (Int.le_refl _) (by omega))).trans ?_
        refine (q_of (decide_eq_true rfl)).trans ?_
        refine (q_of (app_t' (by simp; omega) (by simp; omega))).trans ?_
        refine (q_of (app_t' (by omega) (by omega))).trans ?_
        refine (q_of (decide_eq_true rfl)).trans ?_
        refine (q_of (decide_eq_true rfl)).trans ?_
        rw [r_iter]
        exact lp51 hg hl hb hr hs
    · refine (br_f (decide_eq_false d2)).trans ?_
      refine (r_bs hc).trans ?_
      refine (q_of (decide_eq_true rfl)).trans ?_
      refine (q_of (decide_eq_true rfl)).trans ?_
      refine (q_of (inB_t' (Int.le_refl _) (by omega))).trans ?_
      refine (q_of (decide_eq_true rfl)).trans ?_
      refine (q_of (app_t' (by simp; omega) (by simp; omega))).trans ?_
      refine (q_of (app_t' (by omega) (by omega))).trans ?_
      refine (q_of (decide_eq_true rfl)).trans ?_
      refine (q_of (decide_eq_true rfl)).trans ?_
      rw [r_iter]
      exact lp51 hg hl hb hr hs
end Go.Ab
