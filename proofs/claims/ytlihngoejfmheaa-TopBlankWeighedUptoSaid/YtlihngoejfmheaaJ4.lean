/- A blank is its parts; a blank that is promised is large enough: TopBlankWeighed. -/
import Derived.Test.YtlihngoejfmheaaC4
import Derived.Test.YtlihngoejfmheaaJ5
import Derived.Test.YtlihngoejfmheaaQLTopBlankWeighed
namespace Go.Ab
open Go
set_option maxRecDepth 1000000
set_option maxHeartbeats 1000000
set_option linter.unusedVariables false
set_option linter.unusedSimpArgs false
set_option linter.unusedSectionVars false

theorem cooled_ok : top_cooled = some ((true, ()), ()) := by kernel_rfl
theorem bulk_mem {a : Ty} {xs : List a.T} {x : a.T} (h : x ∈ xs) : bulkT a x ≤ bulkT (.list a) xs := by
  simp only [bulkT]
  induction xs with
  | nil => cases h
  | cons y xs ih =>
    simp only [List.map_cons, List.sum_cons]
    rcases List.mem_cons.1 h with e | e
    · subst e; omega
    · have := ih e; omega
/-! ### Single parts -/
def one (t : Int) (p : Prt) : Gla := (1, t, [(p.1, p.2.1, p.2.2.1, p.2.2.2.1, p.2.2.2.2.1, false)], [])
theorem one_wh (t : Int) (p : Prt) : wh (one t p) = (pV p, pM p) := by
  show ((0 : Int) + sg (pV (p.1, p.2.1, p.2.2.1, p.2.2.2.1, p.2.2.2.2.1, false)) false, (0 : Int) + sg (pM (p.1, p.2.1, p.2.2.1, p.2.2.2.1, p.2.2.2.2.1, false)) false) = _
  unfold sg
  rw [if_neg (by decide), if_neg (by decide), Int.zero_add, Int.zero_add]
  rfl
theorem one_E {t : Int} {p : Prt} (ht : 1 ≤ t ∧ t ≤ 500) (hp : ptE t p = 0) : glE (one t p) = 0 := by
  have hv := (pV_bd ht.2 hp).1
  have h1 : ptsE (one t p) = 0 := by
    show (if (0 : Int) ≠ 0 then (0 : Int) else ptE t (p.1, p.2.1, p.2.2.1, p.2.2.2.1, p.2.2.2.2.1, false)) = 0
    rw [if_neg (by decide)]
    exact hp
  unfold glE
  rw [if_pos (show 1 ≤ (one t p).1 ∧ (one t p).1 ≤ 10000 from by show (1 : Int) ≤ 1 ∧ (1 : Int) ≤ 10000; decide), if_pos (show 1 ≤ (one t p).2.1 ∧ (one t p).2.1 ≤ 500 from ht), if_neg (show ¬ 40 < (one t p).2.2.1.length from by show ¬ 40 < 1; decide), if_pos h1]
  unfold gl2
  rw [if_neg (show ¬ 4 < (one t p).2.2.2.length from by show ¬ 4 < 0; decide)]
  unfold gl3
  rw [if_pos (show cpsE (one t p) = 0 from rfl), one_wh, if_neg (by dsimp only; omega)]
theorem one_cen {t : Int} {p : Prt} (ht : 1 ≤ t ∧ t ≤ 500) (hp : ptE t p = 0) : cenV (one t p) = (500 * (p.2.2.1 + p.2.2.2.1), 500 * (p.2.2.1 + p.2.2.2.1)) := by
  have hv := (pV_bd ht.2 hp).1
  unfold cenV
  rw [if_pos (one_E ht hp), one_wh]
  unfold rnd
  have e : 1000 * pM p = 500 * (p.2.2.1 + p.2.2.2.1) * (2 * pV p) := by unfold pM; grind
  dsimp only
  rw [e, Int.mul_ediv_cancel _ (by omega), ← Int.neg_mul, Int.mul_ediv_cancel _ (by omega), Int.neg_neg]
theorem div_half {n b : Int} (hb : 0 < b) : 500 * n / b = 1000 * n / (2 * b) := by
  have : 1000 * n = 2 * (500 * n) := by omega
  rw [this, Int.mul_ediv_mul_of_pos _ _ (by decide)]
/-! ### A promise -/
theorem clone_nil : slices_Clone_api_GlassPromise [] = some (([], ()), ()) := by kernel_rfl
def oneP (x : List UInt8) : List Pro := [([109], x)]
theorem lfI_nil (s : List Bat) (x : List UInt8) : lfI s [] 0 x = (gi s (atB s x)).2.2.2 := by unfold lfI cntP; omega
theorem lfI_one (s : List Bat) (x y : List UInt8) : lfI s (oneP x) 1 y = (gi s (atB s y)).2.2.2 - if x = y then 1 else 0 := by
  unfold lfI
  show _ - (cntP (oneP x) y 0 + if ba (oneP x) 0 = y then 1 else 0) = _
  have : ba (oneP x) 0 = x := rfl
  rw [this, cntP]; omega
theorem prE_nil {s : List Bat} : prE s [] = bsE s := by
  unfold prE
  by_cases h : bsE s = 0
  · rw [if_pos h, if_neg (by decide), h]; rfl
  · rw [if_neg h]
theorem prE_one {s : List Bat} (h : bsE s = 0) {j : Nat} (hj : j < s.length) (hc : 1 ≤ (gi s (j : Int)).2.2.2) : prE s (oneP (nm s j)) = 0 := by
  have hB := bs_of h
  unfold prE
  rw [if_pos h, if_neg (show ¬ 200 < (oneP (nm s j)).length by show ¬ 200 < 1; decide)]
  show (if (0 : Int) ≠ 0 then (0 : Int) else pE s (oneP (nm s j)) 0) = 0
  rw [if_neg (by decide)]
  unfold pE
  rw [if_pos (show nameB (mi (oneP (nm s j)) 0) = true from by show nameB [109] = true; decide), if_neg (show ¬ seen (mi (oneP (nm s j))) (mi (oneP (nm s j)) 0) 0 = true from by show ¬ false = true; decide)]
  unfold rsE
  have e : ba (oneP (nm s j)) 0 = nm s j := rfl
  rw [e, atB_nm hB hj, if_neg (by omega), if_neg]
  have : lfI s (oneP (nm s j)) 0 (nm s j) = (gi s (j : Int)).2.2.2 := by unfold lfI cntP; rw [atB_nm hB hj]; omega
  omega
theorem bst_fits {s : List Bat} {l : List Pro} {want : Int × Int} : ∀ {n : Nat}, 0 ≤ bst s l want n → ∃ j : Nat, j < n ∧ bst s l want n = j ∧ fits s l want j
  | 0, h => by simp [bst] at h
  | n + 1, h => by
    rw [bst] at h ⊢
    split
    · rename_i hf
      rw [if_pos hf] at h
      split
      · exact ⟨n, by omega, rfl, hf⟩
      · rename_i h1
        rw [if_neg h1] at h
        split
        · exact ⟨n, by omega, rfl, hf⟩
        · obtain ⟨j, a, b, c⟩ := bst_fits (s := s) (l := l) (want := want) (n := n) (by omega)
          exact ⟨j, by omega, b, c⟩
    · rename_i hf
      rw [if_neg hf] at h
      obtain ⟨j, a, b, c⟩ := bst_fits h
      exact ⟨j, by omega, b, c⟩
theorem k_TopBlankWeighed {g : (Int × (Int × (List ((Int × (Int × (Int × (Int × (Int × Bool)))))) × List ((Int × (Int × (Int × (Bool × Bool))))))))} {s : List ((List UInt8 × (Int × (Int × Int))))} {want : (Int × Int)} (b0 : bulkT (.pair (.int .i64) (.pair (.int .i64) (.pair (.list (.pair (.int .i64) (.pair (.int .i64) (.pair (.int .i64) (.pair (.int .i64) (.pair (.int .i64) .bool)))))) (.list (.pair (.int .i64) (.pair (.int .i64) (.pair (.int .i64) (.pair .bool .bool)))))))) g ≤ 1048576) (w0 : wfT (.pair (.int .i64) (.pair (.int .i64) (.pair (.list (.pair (.int .i64) (.pair (.int .i64) (.pair (.int .i64) (.pair (.int .i64) (.pair (.int .i64) .bool)))))) (.list (.pair (.int .i64) (.pair (.int .i64) (.pair (.int .i64) (.pair .bool .bool)))))))) g) (b1 : bulkT (.list (.pair .str (.pair (.int .i64) (.pair (.int .i64) (.int .i64))))) s ≤ 1048576) (w1 : wfT (.list (.pair .str (.pair (.int .i64) (.pair (.int .i64) (.int .i64))))) s) (b2 : bulkT (.pair (.int .i64) (.int .i64)) want ≤ 1048576) (w2 : wfT (.pair (.int .i64) (.int .i64)) want) : top_TopBlankWeighed g s want = some ((true, ()), ()) := by
  have hs : s.length ≤ 1048576 := Nat.le_trans (bulk_len (a := .pair .str (.pair (.int .i64) (.pair (.int .i64) (.int .i64)))) (by decide)) b1
  have hn : Nms s := fun i hi => by
    have hm := gi_mem (l := s) (i := (i : Int)) (by omega) (by omega)
    have := bulk_mem (a := .pair .str (.pair (.int .i64) (.pair (.int .i64) (.int .i64)))) hm
    have e : bulkT (.pair .str (.pair (.int .i64) (.pair (.int .i64) (.int .i64)))) (gi s (i : Int)) = ((gi s (i : Int)).1.length + 1) + (1 + (1 + 1)) := rfl
    unfold nm
    omega
  show (T_top_TopBlankWeighed g s want).run = _
  unfold T_top_TopBlankWeighed
  rw [r_bind, cooled_ok, Option.bind_some]
  refine (br_f rfl).trans ?_
  by_cases c1 : 5 < (g.2.2.1.length : Int)
  · exact (br_t (decide_eq_true c1)).trans (r_ret _)
  refine (br_f (decide_eq_false c1)).trans ?_
  by_cases c2 : 0 < (g.2.2.2.length : Int)
  · exact (br_t (decide_eq_true c2)).trans (r_ret _)
  refine (br_f (decide_eq_false c2)).trans ?_
  by_cases c3 : 6 < (s.length : Int)
  · exact (br_t (decide_eq_true c3)).trans (r_ret _)
  refine (br_f (decide_eq_false c3)).trans ?_
  refine (r_bs (k_rCheckGlass g)).trans ?_
  by_cases hg : glE g = 0
  case neg => exact (br_t (nd' hg)).trans (r_ret _)
  refine (br_f (nd hg)).trans ?_
  obtain ⟨G, hpos⟩ := glE_0 hg
  have hwb := wh_bd G
  have hw : wh g = whP g g.2.2.1.length := by
    unfold wh
    have : g.2.2.2.length = 0 := by omega
    rw [this]; rfl
  refine (r_bs (k_Volume g)).trans ?_
  refine (r_bs (k_Centre g)).trans ?_
  rw [if_pos hg]
  refine (br_f (nd hg)).trans ?_
  refine (br_f (nd hg)).trans ?_
  rw [r_iter]
  refine iter_eq (fun i st => i ≤ g.2.2.1.length ∧ st = ((whP g i).1, 500 * (whP g i).2, 500 * (whP g i).2, (i : Int), ())) _ g.2.2.1.length (by omega) ?_ ⟨Nat.zero_le _, rfl⟩
  rintro i st hi ⟨_, rfl⟩
  have pb := whP_bd G i (by omega)
  simp only [T_top_TopBlankWeighed_l4]
  by_cases h0 : i < g.2.2.1.length
  · left
    have hp := G.pt i h0
    have hv := pV_bd G.th.2 hp
    have hin : inB (i : Int) g.2.2.1.length = true := inB_t' (by omega) (by omega)
    have p0 := ptE_0 hp
    have kv : blank_Volume (one g.2.1 (gi g.2.2.1 (i : Int))) = some ((pV (gi g.2.2.1 (i : Int)), (0, ())), ()) := by
      rw [k_Volume, if_pos (one_E G.th hp), one_E G.th hp, one_wh]
    have kc : blank_Centre (one g.2.1 (gi g.2.2.1 (i : Int))) = some (((500 * ((gi g.2.2.1 (i : Int)).2.2.1 + (gi g.2.2.1 (i : Int)).2.2.2.1), 500 * ((gi g.2.2.1 (i : Int)).2.2.1 + (gi g.2.2.1 (i : Int)).2.2.2.1)), (0, ())), ()) := by
      rw [k_Centre, one_E G.th hp, one_cen G.th hp]
    refine ⟨((whP g (i + 1)).1, 500 * (whP g (i + 1)).2, 500 * (whP g (i + 1)).2, ((i + 1 : Nat) : Int), ()), ?_, h0, h0, rfl⟩
    refine (br_t (decide_eq_true (by omega))).trans ?_
    refine (q_of hin).trans ?_
    generalize hgp : gi g.2.2.1 (i : Int) = p at *
    have hm : pV p * (500 * (p.2.2.1 + p.2.2.2.1)) = 500 * pM p := by unfold pM; grind
    have hm2 : -pV p * (500 * (p.2.2.1 + p.2.2.2.1)) = -(500 * pM p) := by rw [Int.neg_mul, hm]
    have e1 : (whP g (i + 1)).1 = (whP g i).1 + sg (pV p) p.2.2.2.2.2 := by simp only [whP, hgp]
    have e2 : (whP g (i + 1)).2 = (whP g i).2 + sg (pM p) p.2.2.2.2.2 := by simp only [whP, hgp]
    have hFT : ¬ 500000 < 500 * (p.2.2.1 + p.2.2.2.1) := by have := G.th; omega
    rw [e1, e2]
    unfold sg
    by_cases hcut : p.2.2.2.2.2 = true
    · rw [if_pos hcut, if_pos hcut]
      refine (br_t hcut).trans ?_
      refine (r_bs kv).trans ?_
      refine (r_bs kc).trans ?_
      refine (br_f rfl).trans ?_
      refine (br_f rfl).trans ?_
      refine (br_f (decide_eq_false hFT)).trans ?_
      refine (br_f (decide_eq_false (show ¬ 1000000000000 < pV p by omega))).trans ?_
      refine (r_ret _).trans ?_
      dsimp only
      have n1 : -1 * pV p = -pV p := by omega
      rw [n1, w64' (x := -pV p) (by omega) (by omega), hm2, w64' (x := -(500 * pM p)) (by omega) (by omega), w64' (x := (whP g i).1 + -pV p) (by omega) (by omega), w64' (x := 500 * (whP g i).2 + -(500 * pM p)) (by omega) (by omega), Go.Ab.w1 i (by omega)]
      have : 500 * (whP g i).2 + -(500 * pM p) = 500 * ((whP g i).2 + -pM p) := by omega
      rw [this]
    · rw [if_neg hcut, if_neg hcut]
      refine (br_f (by simpa using hcut)).trans ?_
      refine (r_bs kv).trans ?_
      refine (r_bs kc).trans ?_
      refine (br_f rfl).trans ?_
      refine (br_f rfl).trans ?_
      refine (br_f (decide_eq_false hFT)).trans ?_
      refine (br_f (decide_eq_false (show ¬ 1000000000000 < pV p by omega))).trans ?_
      refine (r_ret _).trans ?_
      dsimp only
      have n1 : 1 * pV p = pV p := by omega
      rw [n1, w64' (x := pV p) (by omega) (by omega), hm, w64' (x := 500 * pM p) (by omega) (by omega), w64' (x := (whP g i).1 + pV p) (by omega) (by omega), w64' (x := 500 * (whP g i).2 + 500 * pM p) (by omega) (by omega), Go.Ab.w1 i (by omega)]
      have : 500 * (whP g i).2 + 500 * pM p = 500 * ((whP g i).2 + pM p) := by omega
      rw [this]
  · right
    have : i = g.2.2.1.length := by omega
    subst this
    rw [← hw] at pb ⊢
    refine (br_f (decide_eq_false (by omega))).trans ?_
    refine (br_f (nd (p := (wh g).1 = (wh g).1) rfl)).trans ?_
    refine (br_f (nd trivial)).trans ?_
    have hcen : cenV g = (500 * (wh g).2 / (wh g).1, -(-(500 * (wh g).2) / (wh g).1)) := by
      unfold cenV
      rw [if_pos hg]
      unfold rnd
      rw [← div_half hpos]
      have : -(1000 * (wh g).2) = 1000 * -(wh g).2 := by omega
      rw [this, ← div_half hpos]
      have : 500 * -(wh g).2 = -(500 * (wh g).2) := by omega
      rw [this]
    rw [hcen]
    dsimp only
    have hle : 500 * (wh g).2 / (wh g).1 ≤ -(-(500 * (wh g).2) / (wh g).1) := by
      have h1 := Int.ediv_mul_le (500 * (wh g).2) (show (wh g).1 ≠ 0 by omega)
      have h2 := Int.ediv_mul_le (-(500 * (wh g).2)) (show (wh g).1 ≠ 0 by omega)
      generalize 500 * (wh g).2 / (wh g).1 = u at *
      generalize -(500 * (wh g).2) / (wh g).1 = v at *
      by_cases q : u ≤ -v
      · exact q
      · have := Int.mul_pos (show 0 < u + v by omega) hpos
        have e : (u + v) * (wh g).1 = u * (wh g).1 + v * (wh g).1 := Int.add_mul _ _ _
        omega
    refine (br_f (decide_eq_false (by omega))).trans ?_
    refine (r_bs (k_Floor (n := 500 * (wh g).2) (b := (wh g).1) hpos (by omega) (by omega) (by omega))).trans ?_
    refine (br_f (nd rfl)).trans ?_
    refine (r_bs (k_Ceil (n := 500 * (wh g).2) (b := (wh g).1) hpos (by omega) (by omega) (by omega))).trans ?_
    refine (br_f (nd rfl)).trans ?_
    -- the stock
    have hpn : Nmp [] := fun i hi => by simp at hi
    have hz : bsE s = prE s [] := prE_nil.symm
    refine (r_bs (k_FirstBatch hn hs hpn (by decide) want)).trans ?_
    by_cases q : prE s [] = 0
    case neg =>
      rw [if_neg q]
      exact (br_t (nd' q)).trans (r_ret _)
    rw [if_pos q]
    have hb0 : bsE s = 0 := hz.trans q
    have hB := bs_of hb0
    unfold fbV
    by_cases d1 : 1 ≤ want.1 ∧ want.1 ≤ 1000
    case neg => rw [if_neg d1]; exact (br_t rfl).trans (r_ret _)
    rw [if_pos d1]
    by_cases d2 : 1 ≤ want.2 ∧ want.2 ≤ 500
    case neg => rw [if_neg d2]; exact (br_t rfl).trans (r_ret _)
    rw [if_pos d2]
    by_cases d3 : bst s [] want s.length < 0
    · rw [if_pos d3]; exact (br_t rfl).trans (r_ret _)
    rw [if_neg d3]
    obtain ⟨j, j1, j2, j3⟩ := bst_fits (s := s) (l := []) (want := want) (n := s.length) (by omega)
    rw [j2]
    refine (br_f rfl).trans ?_
    have hc : (gi s (j : Int)).2.2.2 = lfI s [] 0 (nm s j) := by rw [lfI_nil, atB_nm hB j1]
    have hc1 : 1 ≤ (gi s (j : Int)).2.2.2 := by rw [hc]; have := j3.1; exact this
    have hpo : Nmp (oneP (nm s j)) := fun i hi => by
      have : i = 0 := by
        have e : (oneP (nm s j)).length = 1 := rfl
        omega
      subst this
      show ([109] : List UInt8).length ≤ 1048576
      decide
    have q1 := prE_one hb0 j1 hc1
    have ka : blank_AddPromise s [] ([109], (gi s (j : Int)).1) = some ((oneP (nm s j), (0, ())), ()) := by
      show (T_blank_AddPromise s [] ([109], (gi s (j : Int)).1)).run = _
      unfold T_blank_AddPromise
      refine (r_bs (k_CheckPromises hn hs hpn (by decide))).trans ?_
      refine (br_f (nd q)).trans ?_
      refine (r_bs clone_nil).trans ?_
      refine (q_of rfl).trans ?_
      refine (q_of rfl).trans ?_
      have kk := k_CheckPromises (l := oneP (nm s j)) hn hs hpo (by show (1 : Nat) ≤ 1048576; decide)
      refine (r_bs kk).trans ?_
      refine (br_f (nd q1)).trans ?_
      exact r_ret _
    refine (r_bs ka).trans ?_
    refine (r_bs (k_LeftOf (l := oneP (nm s j)) hn hs hpo (by show (1 : Nat) ≤ 1048576; decide))).trans ?_
    rw [if_pos q1, q1]
    refine (br_f rfl).trans ?_
    refine (br_f rfl).trans ?_
    have hlen : (lofV s (oneP (nm s j)) s.length).length = s.length := (lofV_get (i := 0) (by omega)).2
    refine (br_f (nd (show ((lofV s (oneP (nm s j)) s.length).length : Int) = (s.length : Int) by rw [hlen]))).trans ?_
    rw [r_iter]
    refine iter_eq (fun i st => i ≤ j ∧ st = ((i : Int), ())) _ j (by omega) ?_ ⟨Nat.zero_le _, rfl⟩
    rintro i st hi2 ⟨_, rfl⟩
    simp only [T_top_TopBlankWeighed_l14]
    have hin : inB (i : Int) s.length = true := inB_t' (by omega) (by omega)
    by_cases h3 : i < j
    · left
      refine ⟨_, ?_, h3, h3, rfl⟩
      rw [← Go.Ab.w1 i (by omega)]
      refine (br_t (decide_eq_true (by omega))).trans ?_
      refine (q_of hin).trans ?_
      have hne : ¬ (gi s (i : Int)).1 = (gi s (j : Int)).1 := fun e => by
        have := hB.dst i j (by omega) j1 e
        omega
      exact (br_f (decide_eq_false hne)).trans (r_ret _)
    · right
      have : i = j := by omega
      subst this
      refine (br_t (decide_eq_true (by omega))).trans ?_
      refine (q_of hin).trans ?_
      refine (br_t (decide_eq_true rfl)).trans ?_
      refine (q_of hin).trans ?_
      refine (br_t (decide_eq_true j3.2.1)).trans ?_
      refine (q_of hin).trans ?_
      refine (br_t (decide_eq_true j3.2.2)).trans ?_
      refine (q_of (inB_t' (by omega) (by rw [hlen]; omega))).trans ?_
      refine (q_of hin).trans ((r_ret _).trans ?_)
      have hgt := (lofV_get (s := s) (l := oneP (nm s i)) (n := s.length) j1).1
      have hrg := (hB.rg i j1).2.2
      rw [hgt, w64' (x := (gi s (i : Int)).2.2.2 - 1) (by omega) (by omega)]
      have e1 : lfI s (oneP (nm s i)) (oneP (nm s i)).length (nm s i) = (gi s (i : Int)).2.2.2 - 1 := by
        show lfI s (oneP (nm s i)) 1 (nm s i) = _
        rw [lfI_one, if_pos rfl, atB_nm hB j1]
      rw [e1, decide_eq_true rfl]
end Go.Ab
