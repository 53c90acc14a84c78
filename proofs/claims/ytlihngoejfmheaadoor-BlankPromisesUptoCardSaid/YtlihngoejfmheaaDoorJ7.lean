/- A promise is added as the document says, its text is written and read as the document says, and what is written is read again. -/
import Derived.Test.YtlihngoejfmheaaDoorJ6
import Derived.Test.YtlihngoejfmheaaDoorJ3
import Derived.Test.YtlihngoejfmheaaDoorQLBlankPromises
namespace Go.Ab
open Go
set_option maxRecDepth 1000000
set_option maxHeartbeats 1000000
set_option linter.unusedVariables false
set_option linter.unusedSimpArgs false

theorem r_amb {ρ ρ0 : Type} {q : EqP ρ0} {g : ρ0 → ρ} {t e : Tr ρ0} {x : ρ0} (h1 : t.run = some x) (h2 : e.run = some x) : (Tr.amb q g t e).run = some (g x) := by
  show both q g t.run e.run = _
  rw [h1, h2]
  exact both_eq x
theorem k_Clone {l : List Pro} (h : l.length ≤ 1048576) : slices_Clone_api_GlassPromise l = some ((l, ()), ()) := by
  show (T_slices_Clone_api_GlassPromise l).run = _
  unfold T_slices_Clone_api_GlassPromise
  have e : (Tr.req (okApp (List.length l) 32) (Tr.req (decide (List.length l = List.length l)) (Tr.ret (((l, ()), ()) : (List Pro × Unit) × Unit)))).run = some ((l, ()), ()) := by
    refine (q_of (app_t' (by omega) (by omega))).trans ?_
    exact (q_of (decide_eq_true rfl)).trans (r_ret _)
  by_cases h0 : l.length = 0
  · have hn := List.eq_nil_of_length_eq_zero h0
    subst hn
    refine (br_t (decide_eq_true h0)).trans ?_
    exact r_amb ((q_of rfl).trans (r_ret _)) e
  · exact (br_f (decide_eq_false h0)).trans e
def adV (s : List Bat) (l : List Pro) (p : Pro) : List Pro × Int × Unit :=
  if prE s l = 0 then (if prE s (l ++ [p]) = 0 then (l ++ [p], 0, ()) else ([], prE s (l ++ [p]), ())) else ([], prE s l, ())
theorem nmp_plus {l : List Pro} {p : Pro} (hp : Nmp l) (h : p.1.length ≤ 1048576) : Nmp (l ++ [p]) := fun i hi => by
  unfold mi
  by_cases e : i < l.length
  · have h1 : gi (l ++ [p]) (i : Int) = gi l (i : Int) := by rw [gi_nat hi, gi_nat e, List.getElem_append_left e]
    rw [h1]; exact hp i e
  · have e2 : i = l.length := by simp at hi; omega
    subst e2
    have h1 : gi (l ++ [p]) (l.length : Int) = p := by rw [gi_nat hi]; simp
    rw [h1]; exact h
theorem k_AddPromise {s : List Bat} {l : List Pro} {p : Pro} (hn : Nms s) (hs : s.length ≤ 1048576) (hp : Nmp l) (hl : l.length ≤ 1000) (h1 : p.1.length ≤ 1048576) : blank_AddPromise s l p = some (adV s l p, ()) := by
  show (T_blank_AddPromise s l p).run = _
  unfold T_blank_AddPromise adV
  refine (r_bs (k_CheckPromises hn hs hp (by omega))).trans ?_
  by_cases q : prE s l = 0
  · rw [if_pos q]
    refine (br_f (nd q)).trans ?_
    refine (r_bs (k_Clone (by omega))).trans ?_
    refine (q_of (decide_eq_true rfl)).trans ?_
    refine (q_of (app_t' (by simp; omega) (by simp; omega))).trans ?_
    refine (r_bs (k_CheckPromises hn hs (nmp_plus hp h1) (by simp; omega))).trans ?_
    by_cases q2 : prE s (l ++ [p]) = 0
    · rw [if_pos q2]
      exact (br_f (nd q2)).trans (r_ret _)
    · rw [if_neg q2]
      exact (br_t (nd' q2)).trans (r_ret _)
  · rw [if_neg q]
    exact (br_t (nd' q)).trans (r_ret _)
theorem k_rAddPromise {s : List Bat} {l : List Pro} {p : Pro} (hn : Nms s) (hs : s.length ≤ 1048576) (hp : Nmp l) (hl : l.length ≤ 1000) (h1 : p.1.length ≤ 1048576) : ref03xAddPromise s l p = some (adV s l p, ()) := by
  show (T_ref03xAddPromise s l p).run = _
  unfold T_ref03xAddPromise adV
  refine (r_bs (k_rCheckPromises hn hs hp (by omega))).trans ?_
  by_cases q : prE s l = 0
  · rw [if_pos q]
    refine (br_f (nd q)).trans ?_
    refine (q_of (app_t' (by omega) (by omega))).trans ?_
    refine (q_of (decide_eq_true rfl)).trans ?_
    refine (q_of (app_t' (by simp; omega) (by simp; omega))).trans ?_
    refine (r_bs (k_rCheckPromises hn hs (nmp_plus hp h1) (by simp; omega))).trans ?_
    by_cases q2 : prE s (l ++ [p]) = 0
    · rw [if_pos q2]
      exact (br_f (nd q2)).trans (r_ret _)
    · rw [if_neg q2]
      exact (br_t (nd' q2)).trans (r_ret _)
  · rw [if_neg q]
    exact (br_t (nd' q)).trans (r_ret _)
theorem adV_len (s : List Bat) (l : List Pro) (p : Pro) : (adV s l p).1.length ≤ l.length + 1 := by
  unfold adV
  split
  · split
    · simp
    · simp
  · simp
/-- A name holds no blank. -/
theorem name_blank {s : List UInt8} (h : nameB s = true) : ∀ k : Nat, s[k]? ≠ some 32 := fun k hk => by
  unfold nameB at h
  simp only [Bool.and_eq_true] at h
  obtain ⟨hlt, he⟩ := List.getElem?_eq_some_iff.1 hk
  have h1 := allB'_at h.2 k hlt
  have h2 : byt s k = 32 := by
    unfold byt
    rw [gi_nat hlt, he]
    rfl
  rw [h2] at h1
  unfold okB letB at h1
  omega

theorem k_BlankPromises {s : List ((List UInt8 × (Int × (Int × Int))))} {l : List ((List UInt8 × List UInt8))} {x : ((List UInt8 × List UInt8) × List UInt8)} (b0 : bulkT (.list (.pair .str (.pair (.int .i64) (.pair (.int .i64) (.int .i64))))) s ≤ 1048576) (w0 : wfT (.list (.pair .str (.pair (.int .i64) (.pair (.int .i64) (.int .i64))))) s) (b1 : bulkT (.list (.pair .str .str)) l ≤ 1048576) (w1 : wfT (.list (.pair .str .str)) l) (b2 : bulkT (.pair (.pair .str .str) .str) x ≤ 1048576) (w2 : wfT (.pair (.pair .str .str) .str) x) : law03xBlankPromises s l x = some ((true, ()), ()) := by
  have hs : s.length ≤ 1048576 := Nat.le_trans (bulk_len (a := .pair .str (.pair (.int .i64) (.pair (.int .i64) (.int .i64)))) (by decide)) b0
  have hl : l.length ≤ 1048576 := Nat.le_trans (bulk_len (a := .pair .str .str) (by decide)) b1
  show (T_law03xBlankPromises s l x).run = _
  unfold T_law03xBlankPromises
  rw [r_bind, awake_ok, Option.bind_some]
  refine (br_f rfl).trans ?_
  obtain ⟨b, kb, hb⟩ := k_short s l
  refine (r_bs kb).trans ?_
  cases b with
  | false => exact (br_t rfl).trans (r_ret _)
  | true =>
    obtain ⟨hn, hp, l1, l2⟩ := hb rfl
    refine (br_f rfl).trans ?_
    by_cases c1 : (30 : Int) < (x.1.1.length : Int)
    · exact (br_t (decide_eq_true c1)).trans (r_ret _)
    refine (br_f (decide_eq_false c1)).trans ?_
    by_cases c2 : (30 : Int) < (x.1.2.length : Int)
    · exact (br_t (decide_eq_true c2)).trans (r_ret _)
    refine (br_f (decide_eq_false c2)).trans ?_
    by_cases c3 : (100 : Int) < (x.2.length : Int)
    · exact (br_t (decide_eq_true c3)).trans (r_ret _)
    refine (br_f (decide_eq_false c3)).trans ?_
    refine (r_bs (k_stock hs)).trans ?_
    refine (r_bs (k_promises hl)).trans ?_
    refine (r_bs (k_AddPromise (p := x.1) hn hs hp (by omega) (by omega))).trans ?_
    refine (r_bs (k_rAddPromise (p := x.1) hn hs hp (by omega) (by omega))).trans ?_
    refine (br_f (nd rfl)).trans ?_
    refine (br_f (nd rfl)).trans ?_
    rw [r_iter]
    have hv := adV_len s l x.1
    refine iter_eq (fun i (st : Int × Unit) => st = ((i : Int), ())) _ (adV s l x.1).1.length (by omega) ?_ rfl
    rintro i st hi rfl
    show (∃ x', (T_law03xBlankPromises_l6 x (adV s l x.1, ()) (adV s l x.1, ()) (i : Int)).run = _ ∧ _) ∨ (T_law03xBlankPromises_l6 x (adV s l x.1, ()) (adV s l x.1, ()) (i : Int)).run = _
    unfold T_law03xBlankPromises_l6
    by_cases hlt : i < (adV s l x.1).1.length
    · left
      refine ⟨(((i + 1 : Nat) : Int), ()), ?_, hlt, rfl⟩
      rw [← wrap1 i (by omega)]
      refine (br_t (decide_eq_true (by show (i : Int) < ((adV s l x.1).1.length : Int); omega))).trans ?_
      refine (q_of (inB_t' (by omega) (by show (i : Int) < ((adV s l x.1).1.length : Int); omega))).trans ?_
      refine (q_of (inB_t' (by omega) (by show (i : Int) < ((adV s l x.1).1.length : Int); omega))).trans ?_
      exact (br_f (by simp)).trans (r_ret _)
    · right
      refine (br_f (decide_eq_false (by show ¬ (i : Int) < ((adV s l x.1).1.length : Int); omega))).trans ?_
      refine (r_bs (k_ParsePromise (by omega))).trans ?_
      refine (r_bs (k_rParsePromise (by omega))).trans ?_
      refine (r_bs (k_FormatPromise (p := x.1) (by omega) (by omega))).trans ?_
      refine (br_f (nd rfl)).trans ?_
      refine (br_f (by simp)).trans ?_
      refine (r_bs (k_rFormatPromise (p := x.1) (by omega) (by omega))).trans ?_
      refine (br_f (nd rfl)).trans ?_
      refine (r_bs (k_ParsePromise (by simp; omega))).trans ?_
      refine (r_bs (k_rIsName (by omega))).trans ?_
      by_cases n1 : nameB x.1.1 = true
      · refine (br_f (by simp [n1])).trans ?_
        refine (r_bs (k_rIsName (by omega))).trans ?_
        by_cases n2 : nameB x.1.2 = true
        · refine (br_f (by simp [n2])).trans ?_
          have hbk := ppV_back (name_blank n1) (name_blank n2)
          refine (br_t (decide_eq_true (by show (ppV (x.1.1 ++ [32] ++ x.1.2)).2.1 = 0; rw [hbk]))).trans ((r_ret _).trans ?_)
          have e1 : (ppV (x.1.1 ++ [32] ++ x.1.2)).1.1 = x.1.1 := by rw [hbk]
          have e2 : (ppV (x.1.1 ++ [32] ++ x.1.2)).1.2 = x.1.2 := by rw [hbk]
          show some (Sum.inr ((decide ((ppV (x.1.1 ++ [32] ++ x.1.2)).1.1 = x.1.1) && decide ((ppV (x.1.1 ++ [32] ++ x.1.2)).1.2 = x.1.2), ()), ())) = _
          rw [e1, e2]
          simp
        · exact (br_t (by simp [n2])).trans (r_ret _)
      · exact (br_t (by simp [n1])).trans (r_ret _)
end Go.Ab
