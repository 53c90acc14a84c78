/- CoatNext answers true. -/
import Derived.Test.YtpnpehoebfdcoaaKH
import Derived.Test.YtpnpehoebfdcoaaQLCoatNext
namespace Go.Ab
open Go
set_option maxRecDepth 1000000
set_option maxHeartbeats 1000000
set_option linter.unusedVariables false
set_option linter.unusedSimpArgs false

theorem r_amb {ρ ρ0 : Type} {q : EqP ρ0} {g : ρ0 → ρ} {t e : Tr ρ0} {x : ρ0} (h1 : t.run = some x) (h2 : e.run = some x) : (Tr.amb q g t e).run = some (g x) := by
  show both q g t.run e.run = _
  rw [h1, h2]
  exact both_eq x
theorem ndN {p : Prop} [Decidable p] (h : p) : (!decide p) = false := by simp [h]
theorem ndN' {p : Prop} [Decidable p] (h : ¬ p) : (!decide p) = true := by simp [h]
theorem k_Clone {l : List Ev} (h : l.length ≤ 1048576) : slices_Clone_api_CoatEvent l = some ((l, ()), ()) := by
  show (T_slices_Clone_api_CoatEvent l).run = _
  unfold T_slices_Clone_api_CoatEvent
  have e : (Tr.req (okApp (List.length l) 32) (Tr.req (decide (List.length l = List.length l)) (Tr.ret (((l, ()), ()) : (List Ev × Unit) × Unit)))).run = some ((l, ()), ()) := by
    refine (q_of (app_t' (by omega) (by omega))).trans ?_
    exact (q_of (decide_eq_true rfl)).trans (r_ret _)
  by_cases h0 : l.length = 0
  · have hn := List.eq_nil_of_length_eq_zero h0
    subst hn
    refine (br_t (decide_eq_true h0)).trans ?_
    exact r_amb ((q_of rfl).trans (r_ret _)) e
  · exact (br_f (decide_eq_false h0)).trans e

/-- A history with one event more. -/
abbrev plus1 (l : List Ev) (x : Ev) : List Ev := l ++ [x]
def nxE (a : Ag) (l : List Ev) (x : Ev) : Int := folE a (plus1 l x)
def nxV (a : Ag) (l : List Ev) (x : Ev) : List Ev := if nxE a l x = 0 then plus1 l x else []
theorem evok_plus {l : List Ev} {x : Ev} (hw : EvOk l) (hx : x.1.length ≤ 1048576) : EvOk (plus1 l x) := fun i hi => by
  have hl : (plus1 l x).length = l.length + 1 := by simp
  by_cases e : i < l.length
  · rw [gi_app_l e]; exact hw i e
  · have : i = l.length := by omega
    subst this
    rw [gi_app_r]; exact hx
theorem k_Next {a : Ag} {l : List Ev} {x : Ev} (hl : l.length ≤ 1000000) (hw : EvOk l) (hx : x.1.length ≤ 1048576) : coat_Next a l x = some ((nxV a l x, (nxE a l x, ())), ()) := by
  have hl2 : (plus1 l x).length = l.length + 1 := by simp
  show (T_coat_Next a l x).run = _
  unfold T_coat_Next
  refine (r_bs (k_Clone (by omega))).trans ?_
  refine (q_of (decide_eq_true rfl)).trans ?_
  refine (q_of (app_t' (by simp only [List.length_cons, List.length_nil]; omega) (by simp only [List.length_cons, List.length_nil]; omega))).trans ?_
  refine (r_bs (k_CheckHistory (a := a) (l := plus1 l x) (by omega) (evok_plus hw hx))).trans ?_
  by_cases h : nxE a l x = 0
  · refine (br_f (ndN h)).trans ?_
    refine (r_ret _).trans ?_
    unfold nxV
    rw [if_pos h, h]
  · refine (br_t (ndN' h)).trans ?_
    refine (r_ret _).trans ?_
    unfold nxV
    rw [if_neg h]
    rfl
theorem k_rNext {a : Ag} {l : List Ev} {x : Ev} (ha : agE a = 0) (hl : l.length ≤ 1000000) (hw : EvOk l) (hx : x.1.length ≤ 1048576) : ref08xNext a l x = some ((nxV a l x, (nxE a l x, ())), ()) := by
  have hl2 : (plus1 l x).length = l.length + 1 := by simp
  have e : nxE a l x = hisE a (plus1 l x) := if_pos ha
  show (T_ref08xNext a l x).run = _
  unfold T_ref08xNext
  refine (q_of (app_t' (by omega) (by omega))).trans ?_
  refine (q_of (decide_eq_true rfl)).trans ?_
  refine (q_of (app_t' (by simp only [List.length_cons, List.length_nil]; omega) (by simp only [List.length_cons, List.length_nil]; omega))).trans ?_
  refine (r_bs (k_rCheckHistory (a := a) (l := plus1 l x) ha (by omega) (evok_plus hw hx))).trans ?_
  by_cases h : nxE a l x = 0
  · refine (br_f (ndN (e.symm.trans h))).trans ?_
    refine (r_ret _).trans ?_
    unfold nxV
    rw [if_pos h, h]
  · refine (br_t (ndN' (fun q => h (e.trans q)))).trans ?_
    refine (r_ret _).trans ?_
    unfold nxV
    rw [if_neg h, e]

/-- A wrong history stays wrong in the same way. -/
theorem nxE_bad {a : Ag} {l : List Ev} {x : Ev} (h10 : l.length ≤ 10 ∨ 40 < l.length) (h : folE a l ≠ 0) : nxE a l x = folE a l := by
  have hl2 : (plus1 l x).length = l.length + 1 := by simp
  unfold nxE folE at *
  by_cases ha : agE a = 0
  · rw [if_pos ha] at h ⊢
    rw [if_pos ha]
    unfold hisE at h ⊢
    by_cases h40 : (40 : Int) < l.length
    · rw [if_pos (by omega), if_pos h40]
    · rw [if_neg h40] at h
      rw [if_neg (by omega), if_neg h40, hl2]
      have c : firstErr (hsE a (plus1 l x)) l.length = firstErr (hsE a l) l.length := firstErr_congr fun j hj => hsE_congr (fun k hk => gi_app_l hk) hj
      show (if firstErr (hsE a (plus1 l x)) l.length ≠ 0 then firstErr (hsE a (plus1 l x)) l.length else hsE a (plus1 l x) l.length) = _
      rw [c, if_pos h]
  · rw [if_neg ha, if_neg ha]
theorem k_Same {l : List Ev} (h : l.length ≤ 1048576) : law08xSame l l = some ((true, ()), ()) := by
  show (T_law08xSame l l).run = _
  unfold T_law08xSame
  refine (br_f (ndN rfl)).trans ?_
  rw [r_iter]
  refine iter_eq (fun k y => y = ((k : Int), ())) _ l.length (by omega) ?_ rfl
  rintro k y hk rfl
  dsimp only
  unfold T_law08xSame_l0
  by_cases e : k < l.length
  · left
    refine ⟨(((k + 1 : Nat) : Int), ()), ?_, e, rfl⟩
    refine (br_t (decide_eq_true (by omega))).trans ?_
    refine (q_of (inB_t' (by omega) (by omega))).trans ?_
    refine (q_of (inB_t' (by omega) (by omega))).trans ?_
    refine (br_f (by simp)).trans ?_
    rw [w64' (x := (k : Int) + 1) (by omega) (by omega)]
    exact r_ret _
  · right
    refine (br_f (decide_eq_false (by omega))).trans ?_
    exact r_ret _
theorem k_PastN {l : List Ev} (h : l.length ≤ 1048576) : ∃ b : Bool, law08xPast l = some ((b, ()), ()) ∧ (b = true → l.length ≤ 10 ∨ 40 < l.length ∧ l.length ≤ 43) := by
  obtain ⟨b, hb⟩ := k_Past_l0 h
  show ∃ b : Bool, (T_law08xPast l).run = _ ∧ _
  unfold T_law08xPast
  by_cases h1 : 10 < l.length
  · by_cases h2 : l.length ≤ 40
    · exact ⟨false, (br_t (decide_eq_true (by omega))).trans ((br_t (decide_eq_true (by omega))).trans (r_ret _)), fun q => by cases q⟩
    · by_cases h3 : 43 < l.length
      · exact ⟨false, (br_t (decide_eq_true (by omega))).trans ((br_f (decide_eq_false (by omega))).trans ((br_t (decide_eq_true (by omega))).trans (r_ret _))), fun q => by cases q⟩
      · refine ⟨b, (br_t (decide_eq_true (by omega))).trans ((br_f (decide_eq_false (by omega))).trans ((br_f (decide_eq_false (by omega))).trans ?_)), fun q => by omega⟩
        rw [r_iter]; exact hb
  · refine ⟨b, (br_f (decide_eq_false (by omega))).trans ((br_f (decide_eq_false (by omega))).trans ?_), fun q => by omega⟩
    rw [r_iter]; exact hb

theorem k_CoatNext {a : ((Int × Int) × ((Int × Int) × ((Int × Int) × Int)))} {l : List ((List UInt8 × (Int × Int)))} {x : (List UInt8 × (Int × Int))} (b0 : bulkT (.pair (.pair (.int .i64) (.int .i64)) (.pair (.pair (.int .i64) (.int .i64)) (.pair (.pair (.int .i64) (.int .i64)) (.int .i64)))) a ≤ 1048576) (w0 : wfT (.pair (.pair (.int .i64) (.int .i64)) (.pair (.pair (.int .i64) (.int .i64)) (.pair (.pair (.int .i64) (.int .i64)) (.int .i64)))) a) (b1 : bulkT (.list (.pair .str (.pair (.int .i64) (.int .i64)))) l ≤ 1048576) (w1 : wfT (.list (.pair .str (.pair (.int .i64) (.int .i64)))) l) (b2 : bulkT (.pair .str (.pair (.int .i64) (.int .i64))) x ≤ 1048576) (w2 : wfT (.pair .str (.pair (.int .i64) (.int .i64))) x) : law08xCoatNext a l x = some ((true, ()), ()) := by
  obtain ⟨hl, hw⟩ := evs_in b1
  show (T_law08xCoatNext a l x).run = _
  unfold T_law08xCoatNext
  rw [r_bind, awake_ok, Option.bind_some]
  refine (br_f rfl).trans ?_
  obtain ⟨b, hf, hb⟩ := k_PastN hl
  refine (r_bs hf).trans ?_
  cases b with
  | false => exact (br_t rfl).trans (r_ret _)
  | true =>
    have h10 := hb rfl
    refine (br_f rfl).trans ?_
    by_cases h20 : 20 < x.1.length
    · exact (br_t (decide_eq_true (by omega))).trans (r_ret _)
    · refine (br_f (decide_eq_false (by omega))).trans ?_
      refine (r_bs (k_events hl)).trans ?_
      refine (r_bs (k_Next (a := a) (l := l) (x := x) (by omega) hw (by omega))).trans ?_
      refine (r_bs (k_past (a := a) (l := l) hl hw)).trans ?_
      by_cases h : folE a l = 0
      · have ha := (folE_inv h).1
        refine (br_f (ndN h)).trans ?_
        refine (r_bs (k_rNext (a := a) (l := l) (x := x) ha (by omega) hw (by omega))).trans ?_
        refine (br_t (decide_eq_true rfl)).trans ?_
        have hv : (nxV a l x).length ≤ 1048576 := by unfold nxV; split <;> simp; omega
        refine (r_bs (k_Same hv)).trans ?_
        exact r_ret _
      · have e := nxE_bad (x := x) (by omega) h
        refine (br_t (ndN' h)).trans ?_
        refine (br_t (decide_eq_true e)).trans ?_
        refine (r_ret _).trans ?_
        have : nxV a l x = [] := by unfold nxV; rw [if_neg (by rw [e]; exact h)]
        rw [this]; rfl
end Go.Ab
