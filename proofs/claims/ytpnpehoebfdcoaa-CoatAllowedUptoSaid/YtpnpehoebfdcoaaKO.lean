/- CoatAllowed answers true. -/
import Derived.Test.YtpnpehoebfdcoaaKN
import Derived.Test.YtpnpehoebfdcoaaQLCoatAllowed
namespace Go.Ab
open Go
set_option maxRecDepth 1000000
set_option maxHeartbeats 1000000
set_option linter.unusedVariables false
set_option linter.unusedSimpArgs false

/-- The kinds of event that are possible on a day, of the first ones. -/
def alK (a : Ag) (l : List Ev) (m : List UInt8) (day : Int) : Nat → List Int
  | 0 => []
  | k + 1 => if nxE a l (m, day, (k : Int)) = 0 then alK a l m day k ++ [(k : Int)] else alK a l m day k
theorem alK_len (a : Ag) (l : List Ev) (m : List UInt8) (day : Int) : ∀ k, (alK a l m day k).length ≤ k
  | 0 => Nat.le_refl _
  | k + 1 => by
    have := alK_len a l m day k
    simp only [alK]
    split
    · simp; omega
    · omega
theorem alK_mem {a : Ag} {l : List Ev} {m : List UInt8} {day : Int} {z : Int} : ∀ {k : Nat}, z ∈ alK a l m day k ↔ ∃ j : Nat, j < k ∧ z = (j : Int) ∧ nxE a l (m, day, (j : Int)) = 0
  | 0 => by simp [alK]
  | k + 1 => by
    have ih := alK_mem (a := a) (l := l) (m := m) (day := day) (z := z) (k := k)
    simp only [alK]
    split
    · rename_i h
      rw [List.mem_append, ih, List.mem_singleton]
      constructor
      · rintro (⟨j, h1, h2⟩ | h1)
        · exact ⟨j, by omega, h2⟩
        · exact ⟨k, by omega, h1, h⟩
      · rintro ⟨j, h1, h2, h3⟩
        by_cases e : j = k
        · subst e; exact .inr h2
        · exact .inl ⟨j, by omega, h2, h3⟩
    · rename_i h
      rw [ih]
      constructor
      · rintro ⟨j, h1, h2⟩; exact ⟨j, by omega, h2⟩
      · rintro ⟨j, h1, h2, h3⟩
        by_cases e : j = k
        · subst e; exact absurd h3 h
        · exact ⟨j, by omega, h2, h3⟩

theorem k_al1 {a : Ag} {l : List Ev} (hl : l.length ≤ 1000000) (hw : EvOk l) (h0 : 0 < l.length) (day : Int) : iterF (fun q_ : List Int × (Int × Unit) => (T_coat_Allowed_l1 a l day q_.1 q_.2.1).run) FUEL ([], 0, ()) = some ((alK a l (gi l 0).1 day 3, (0, ())), ()) := by
  refine iter_eq (fun k y => y = (alK a l (gi l 0).1 day k, (k : Int), ())) _ 3 (by omega) ?_ rfl
  rintro k y hk rfl
  dsimp only
  unfold T_coat_Allowed_l1
  have ln := alK_len a l (gi l 0).1 day k
  by_cases e : k < 3
  · left
    refine ⟨(alK a l (gi l 0).1 day (k + 1), ((k + 1 : Nat) : Int), ()), ?_, e, rfl⟩
    refine (br_t (decide_eq_true (by omega))).trans ?_
    refine (r_bs (k_Next (a := a) (l := l) (x := ((gi l 0).1, day, (k : Int))) hl hw (hw 0 h0))).trans ?_
    rw [w64' (x := (k : Int) + 1) (by omega) (by omega)]
    by_cases q : nxE a l ((gi l 0).1, day, (k : Int)) = 0
    · refine (br_t (decide_eq_true q)).trans ?_
      rw [show alK a l (gi l 0).1 day (k + 1) = alK a l (gi l 0).1 day k ++ [(k : Int)] from if_pos q]
      refine (q_of (decide_eq_true rfl)).trans ?_
      refine (q_of (app_t' (by simp only [List.length_cons, List.length_nil]; omega) (by simp only [List.length_cons, List.length_nil]; omega))).trans ?_
      refine (q_of (decide_eq_true (by simp))).trans ?_
      exact r_ret _
    · refine (br_f (decide_eq_false q)).trans ?_
      rw [show alK a l (gi l 0).1 day (k + 1) = alK a l (gi l 0).1 day k from if_neg q]
      refine (q_of (decide_eq_true rfl)).trans ?_
      exact r_ret _
  · right
    have e : k = 3 := by omega
    subst e
    refine (br_f (decide_eq_false (by omega))).trans ?_
    exact r_ret _
theorem k_al3 {a : Ag} {l : List Ev} (hl : l.length ≤ 1000000) (hw : EvOk l) (day : Int) : iterF (fun q_ : List Int × (Int × Unit) => (T_coat_Allowed_l3 a l day q_.1 q_.2.1).run) FUEL ([], 0, ()) = some ((alK a l [109] day 3, (0, ())), ()) := by
  refine iter_eq (fun k y => y = (alK a l [109] day k, (k : Int), ())) _ 3 (by omega) ?_ rfl
  rintro k y hk rfl
  dsimp only
  unfold T_coat_Allowed_l3
  have ln := alK_len a l [109] day k
  by_cases e : k < 3
  · left
    refine ⟨(alK a l [109] day (k + 1), ((k + 1 : Nat) : Int), ()), ?_, e, rfl⟩
    refine (br_t (decide_eq_true (by omega))).trans ?_
    refine (r_bs (k_Next (a := a) (l := l) (x := ([109], day, (k : Int))) hl hw (by simp))).trans ?_
    rw [w64' (x := (k : Int) + 1) (by omega) (by omega)]
    by_cases q : nxE a l ([109], day, (k : Int)) = 0
    · refine (br_t (decide_eq_true q)).trans ?_
      rw [show alK a l [109] day (k + 1) = alK a l [109] day k ++ [(k : Int)] from if_pos q]
      refine (q_of (decide_eq_true rfl)).trans ?_
      refine (q_of (app_t' (by simp only [List.length_cons, List.length_nil]; omega) (by simp only [List.length_cons, List.length_nil]; omega))).trans ?_
      refine (q_of (decide_eq_true (by simp))).trans ?_
      exact r_ret _
    · refine (br_f (decide_eq_false q)).trans ?_
      rw [show alK a l [109] day (k + 1) = alK a l [109] day k from if_neg q]
      refine (q_of (decide_eq_true rfl)).trans ?_
      exact r_ret _
  · right
    have e : k = 3 := by omega
    subst e
    refine (br_f (decide_eq_false (by omega))).trans ?_
    exact r_ret _
theorem k_ral0 {a : Ag} {l : List Ev} (ha : agE a = 0) (hl : l.length ≤ 1000000) (hw : EvOk l) (h0 : 0 < l.length) (day : Int) : iterF (fun q_ : List Int × (Int × Unit) => (T_ref08xAllowed_l0 a l day q_.1 q_.2.1).run) FUEL ([], 0, ()) = some ((alK a l (gi l 0).1 day 3, ()), ()) := by
  refine iter_eq (fun k y => y = (alK a l (gi l 0).1 day k, (k : Int), ())) _ 3 (by omega) ?_ rfl
  rintro k y hk rfl
  dsimp only
  unfold T_ref08xAllowed_l0
  have ln := alK_len a l (gi l 0).1 day k
  by_cases e : k < 3
  · left
    refine ⟨(alK a l (gi l 0).1 day (k + 1), ((k + 1 : Nat) : Int), ()), ?_, e, rfl⟩
    refine (br_t (decide_eq_true (by omega))).trans ?_
    refine (r_bs (k_rNext (a := a) (l := l) (x := ((gi l 0).1, day, (k : Int))) ha hl hw (hw 0 h0))).trans ?_
    rw [w64' (x := (k : Int) + 1) (by omega) (by omega)]
    by_cases q : nxE a l ((gi l 0).1, day, (k : Int)) = 0
    · refine (br_t (decide_eq_true q)).trans ?_
      rw [show alK a l (gi l 0).1 day (k + 1) = alK a l (gi l 0).1 day k ++ [(k : Int)] from if_pos q]
      refine (q_of (decide_eq_true rfl)).trans ?_
      refine (q_of (app_t' (by simp only [List.length_cons, List.length_nil]; omega) (by simp only [List.length_cons, List.length_nil]; omega))).trans ?_
      refine (q_of (decide_eq_true (by simp))).trans ?_
      exact r_ret _
    · refine (br_f (decide_eq_false q)).trans ?_
      rw [show alK a l (gi l 0).1 day (k + 1) = alK a l (gi l 0).1 day k from if_neg q]
      refine (q_of (decide_eq_true rfl)).trans ?_
      exact r_ret _
  · right
    have e : k = 3 := by omega
    subst e
    refine (br_f (decide_eq_false (by omega))).trans ?_
    exact r_ret _
theorem k_ral2 {a : Ag} {l : List Ev} (ha : agE a = 0) (hl : l.length ≤ 1000000) (hw : EvOk l) (day : Int) : iterF (fun q_ : List Int × (Int × Unit) => (T_ref08xAllowed_l2 a l day q_.1 q_.2.1).run) FUEL ([], 0, ()) = some ((alK a l [97] day 3, ()), ()) := by
  refine iter_eq (fun k y => y = (alK a l [97] day k, (k : Int), ())) _ 3 (by omega) ?_ rfl
  rintro k y hk rfl
  dsimp only
  unfold T_ref08xAllowed_l2
  have ln := alK_len a l [97] day k
  by_cases e : k < 3
  · left
    refine ⟨(alK a l [97] day (k + 1), ((k + 1 : Nat) : Int), ()), ?_, e, rfl⟩
    refine (br_t (decide_eq_true (by omega))).trans ?_
    refine (r_bs (k_rNext (a := a) (l := l) (x := ([97], day, (k : Int))) ha hl hw (by simp))).trans ?_
    rw [w64' (x := (k : Int) + 1) (by omega) (by omega)]
    by_cases q : nxE a l ([97], day, (k : Int)) = 0
    · refine (br_t (decide_eq_true q)).trans ?_
      rw [show alK a l [97] day (k + 1) = alK a l [97] day k ++ [(k : Int)] from if_pos q]
      refine (q_of (decide_eq_true rfl)).trans ?_
      refine (q_of (app_t' (by simp only [List.length_cons, List.length_nil]; omega) (by simp only [List.length_cons, List.length_nil]; omega))).trans ?_
      refine (q_of (decide_eq_true (by simp))).trans ?_
      exact r_ret _
    · refine (br_f (decide_eq_false q)).trans ?_
      rw [show alK a l [97] day (k + 1) = alK a l [97] day k from if_neg q]
      refine (q_of (decide_eq_true rfl)).trans ?_
      exact r_ret _
  · right
    have e : k = 3 := by omega
    subst e
    refine (br_f (decide_eq_false (by omega))).trans ?_
    exact r_ret _
/-- The first event's name does not matter, if it is one. -/
theorem nxE_name (a : Ag) (day k : Int) : nxE a [] ([109], day, k) = nxE a [] ([97], day, k) := by
  have n1 : isNm [109] := by decide
  have n2 : isNm [97] := by decide
  have e : ∀ m : List UInt8, hsE a [(m, day, k)] 0 = if evE (m, day, k) = 0 then posE a.2.2.2 sf0 k else evE (m, day, k) := fun m => by
    have g : gi [((m, day, k) : Ev)] ((0 : Nat) : Int) = (m, day, k) := rfl
    have g' : gi [((m, day, k) : Ev)] 0 = (m, day, k) := rfl
    have f0 : flm a [((m, day, k) : Ev)] 0 = sf0 := rfl
    unfold hsE
    rw [g, g', f0]
    by_cases c : evE (m, day, k) = 0
    · rw [if_pos c, if_pos c, if_pos rfl, if_neg (fun q => absurd q.1 (Nat.lt_irrefl 0))]
    · rw [if_neg c, if_neg c]
  have v : evE ([109], day, k) = evE ([97], day, k) := by
    unfold evE
    rw [if_pos n1, if_pos n2]
  have f : ∀ m : List UInt8, hisE a [(m, day, k)] = hsE a [(m, day, k)] 0 := fun m => by
    unfold hisE
    rw [if_neg (by show ¬ (40 : Int) < 1; decide)]
    show (if (0 : Int) ≠ 0 then (0 : Int) else hsE a [(m, day, k)] 0) = _
    rw [if_neg (by omega)]
  show folE a [([109], day, k)] = folE a [([97], day, k)]
  unfold folE
  rw [f, f, e, e, v]
theorem alK_name (a : Ag) (day : Int) : ∀ k, alK a [] [109] day k = alK a [] [97] day k
  | 0 => rfl
  | k + 1 => by simp only [alK]; rw [nxE_name, alK_name a day k]

def alM (l : List Ev) : List UInt8 := if 0 < l.length then (gi l 0).1 else [109]
def alV (a : Ag) (l : List Ev) (day : Int) : List Int := if rdE a l day = 0 then alK a l (alM l) day 3 else []
theorem k_Allowed {a : Ag} {l : List Ev} (hl : l.length ≤ 1000000) (hw : EvOk l) (day : Int) : coat_Allowed a l day = some ((alV a l day, (rdE a l day, ())), ()) := by
  show (T_coat_Allowed a l day).run = _
  unfold T_coat_Allowed
  refine (r_bs (k_read (a := a) (l := l) (by omega) hw day)).trans ?_
  unfold alV
  by_cases h : rdE a l day = 0
  · rw [if_pos h]
    refine (br_t (decide_eq_true h)).trans ?_
    refine (br_f (ndN h)).trans ?_
    unfold alM
    by_cases h0 : 0 < l.length
    · refine (br_t (decide_eq_true (by omega))).trans ?_
      refine (q_of (inB_t' (by omega) (by omega))).trans ?_
      refine (q_of rfl).trans ?_
      rw [if_pos h0, r_iter, h]
      exact k_al1 hl hw h0 day
    · refine (br_f (decide_eq_false (by omega))).trans ?_
      refine (q_of rfl).trans ?_
      rw [if_neg h0, r_iter, h]
      exact k_al3 hl hw day
  · rw [if_neg h]
    refine (br_f (decide_eq_false h)).trans ?_
    refine (br_t (ndN' h)).trans ?_
    exact r_ret _
theorem k_rAllowed {a : Ag} {l : List Ev} (ha : agE a = 0) (hl : l.length ≤ 1000000) (hw : EvOk l) (day : Int) : ref08xAllowed a l day = some ((alK a l (alM l) day 3, ()), ()) := by
  show (T_ref08xAllowed a l day).run = _
  unfold T_ref08xAllowed alM
  by_cases h0 : 0 < l.length
  · refine (br_t (decide_eq_true (by omega))).trans ?_
    refine (q_of (inB_t' (by omega) (by omega))).trans ?_
    refine (q_of rfl).trans ?_
    rw [if_pos h0, r_iter]
    exact k_ral0 ha hl hw h0 day
  · have hn : l = [] := List.eq_nil_of_length_eq_zero (by omega)
    subst hn
    refine (br_f (decide_eq_false (by decide))).trans ?_
    refine (q_of rfl).trans ?_
    rw [if_neg h0, r_iter, alK_name]
    exact k_ral2 ha hl hw day
def stV (a : Ag) (l : List Ev) (day : Int) : Int := if rdE a l day = 0 then sta a.2.2.2 l (cnt l day l.length) else 0
theorem k_pStateOn {a : Ag} {l : List Ev} (hl : l.length ≤ 1000000) (hw : EvOk l) (day : Int) : coat_StateOn a l day = some ((stV a l day, (rdE a l day, ())), ()) := by
  show (T_coat_StateOn a l day).run = _
  unfold T_coat_StateOn
  refine (r_bs (k_read (a := a) (l := l) (by omega) hw day)).trans ?_
  unfold stV
  by_cases h : rdE a l day = 0
  · obtain ⟨f0, d1, d2⟩ := rdE_inv h
    obtain ⟨ha, _, _, hp⟩ := folE_inv f0
    have hv : rdV a l day = (a, thn a l day l.length) := if_pos h
    have so := thn_ok ha hp day
    have g := (agE_0 ha).2.2.2
    have st := sta_flm ha (i := cnt l day l.length) (fun j hj => hp j (by have := cnt_le l day l.length; omega))
    rw [← thn_cnt] at st
    rw [if_pos h, hv]
    refine (br_t (decide_eq_true h)).trans ?_
    refine (br_f (ndN h)).trans ?_
    rcases st with ⟨s1, s2⟩ | ⟨s1, s2⟩
    · refine (br_f (by dsimp only; rw [s1]; rfl)).trans ?_
      dsimp only
      have b := so.1
      rw [w64' (x := a.2.2.2 - (thn a l day l.length).2.1) (by omega) (by omega), s2, h]
      exact r_ret _
    · refine (br_t (by dsimp only; rw [s1]; rfl)).trans ?_
      rw [s2, h]
      exact r_ret _
  · rw [if_neg h]
    refine (br_f (decide_eq_false h)).trans ?_
    refine (br_t (ndN' h)).trans ?_
    exact r_ret _
theorem k_Has {l : List Int} (h : l.length ≤ 1000000) (z : Int) : base_Has l z = some ((decide (z ∈ l), ()), ()) := by
  show (T_base_Has l z).run = _
  unfold T_base_Has
  rw [r_iter]
  refine iter_eq (fun k y => y = ((k : Int), ()) ∧ ∀ j : Nat, j < k → gi l (j : Int) ≠ z) _ l.length (by omega) ?_ ⟨rfl, fun j hj => by omega⟩
  rintro k y hk ⟨rfl, hp⟩
  dsimp only
  unfold T_base_Has_l0
  by_cases e : k < l.length
  · by_cases q : gi l (k : Int) = z
    · right
      refine (br_t (decide_eq_true (by omega))).trans ?_
      refine (q_of (inB_t' (by omega) (by omega))).trans ?_
      refine (br_t (decide_eq_true q)).trans ?_
      refine (r_ret _).trans ?_
      rw [decide_eq_true (by rw [← q]; exact giM e)]
    · left
      refine ⟨(((k + 1 : Nat) : Int), ()), ?_, e, rfl, fun j hj => ?_⟩
      · refine (br_t (decide_eq_true (by omega))).trans ?_
        refine (q_of (inB_t' (by omega) (by omega))).trans ?_
        refine (br_f (decide_eq_false q)).trans ?_
        rw [w64' (x := (k : Int) + 1) (by omega) (by omega)]
        exact r_ret _
      · by_cases ej : j = k
        · subst ej; exact q
        · exact hp j (by omega)
  · right
    have e : k = l.length := by omega
    subst e
    refine (br_f (decide_eq_false (by omega))).trans ?_
    refine (r_ret _).trans ?_
    rw [decide_eq_false]
    intro hm
    obtain ⟨j, hj, ej⟩ := List.getElem_of_mem hm
    exact hp j hj (by rw [gi_nat hj]; exact ej)
theorem k_l11 {a : Ag} {l : List Ev} (hl : l.length ≤ 1000000) (hw : EvOk l) (day : Int) (e : Int) : iterF (fun q_ : Int × Unit => (T_law08xCoatAllowed_l11 a l day ((alK a l (alM l) day 3, (e, ())), ()) q_.1).run) FUEL (0, ()) = some ((true, ()), ()) := by
  refine iter_eq (fun k y => y = ((k : Int), ())) _ 3 (by omega) ?_ rfl
  rintro k y hk rfl
  dsimp only
  unfold T_law08xCoatAllowed_l11
  by_cases e3 : k < 3
  · by_cases h0 : 0 < l.length
    · left
      refine ⟨(((k + 1 : Nat) : Int), ()), ?_, e3, rfl⟩
      refine (br_t (decide_eq_true (by omega))).trans ?_
      refine (br_t (decide_eq_true (by omega))).trans ?_
      refine (r_bs (k_events (by omega))).trans ?_
      refine (q_of (inB_t' (by omega) (by omega))).trans ?_
      refine (r_bs (k_Next (a := a) (l := l) (x := ((gi l 0).1, day, (k : Int))) hl hw (hw 0 h0))).trans ?_
      have ln := alK_len a l (alM l) day 3
      refine (r_bs (k_Has (l := alK a l (alM l) day 3) (by omega) (k : Int))).trans ?_
      rw [w64' (x := (k : Int) + 1) (by omega) (by omega)]
      have iff : (nxE a l ((gi l 0).1, day, (k : Int)) = 0) ↔ (k : Int) ∈ alK a l (alM l) day 3 := by
        rw [alK_mem]
        unfold alM
        rw [if_pos h0]
        constructor
        · exact fun h => ⟨k, e3, rfl, h⟩
        · rintro ⟨j, j1, j2, j3⟩
          have : j = k := by omega
          subst this; exact j3
      refine (br_f ?_).trans (r_ret _)
      dsimp only
      by_cases q : nxE a l ((gi l 0).1, day, (k : Int)) = 0
      · rw [decide_eq_true q, decide_eq_true (iff.1 q)]; rfl
      · rw [decide_eq_false q, decide_eq_false (fun z => q (iff.2 z))]; rfl
    · right
      refine (br_t (decide_eq_true (by omega))).trans ?_
      refine (br_f (decide_eq_false (by omega))).trans ?_
      exact r_ret _
  · right
    refine (br_f (decide_eq_false (by omega))).trans ?_
    exact r_ret _

theorem k_CoatAllowed {a : ((Int × Int) × ((Int × Int) × ((Int × Int) × Int)))} {l : List ((List UInt8 × (Int × Int)))} {day : Int} (b0 : bulkT (.pair (.pair (.int .i64) (.int .i64)) (.pair (.pair (.int .i64) (.int .i64)) (.pair (.pair (.int .i64) (.int .i64)) (.int .i64)))) a ≤ 1048576) (w0 : wfT (.pair (.pair (.int .i64) (.int .i64)) (.pair (.pair (.int .i64) (.int .i64)) (.pair (.pair (.int .i64) (.int .i64)) (.int .i64)))) a) (b1 : bulkT (.list (.pair .str (.pair (.int .i64) (.int .i64)))) l ≤ 1048576) (w1 : wfT (.list (.pair .str (.pair (.int .i64) (.int .i64)))) l) (b2 : bulkT (.int .i64) day ≤ 1048576) (w2 : wfT (.int .i64) day) : law08xCoatAllowed a l day = some ((true, ()), ()) := by
  obtain ⟨hl, hw⟩ := evs_in b1
  show (T_law08xCoatAllowed a l day).run = _
  unfold T_law08xCoatAllowed
  rw [r_bind, awake_ok, Option.bind_some]
  refine (br_f rfl).trans ?_
  obtain ⟨b, hf, hb⟩ := k_PastN hl
  refine (r_bs hf).trans ?_
  cases b with
  | false => exact (br_t rfl).trans (r_ret _)
  | true =>
    have h10 := hb rfl
    refine (br_f rfl).trans ?_
    refine (r_bs (k_events hl)).trans ?_
    refine (r_bs (k_Allowed (a := a) (l := l) (by omega) hw day)).trans ?_
    refine (r_bs (k_events hl)).trans ?_
    refine (r_bs (k_pStateOn (a := a) (l := l) (by omega) hw day)).trans ?_
    refine (r_bs (k_past (a := a) (l := l) hl hw)).trans ?_
    by_cases h : folE a l = 0
    · obtain ⟨ha, _, _, hp⟩ := folE_inv h
      refine (br_t (decide_eq_true h)).trans ?_
      refine (r_bs (k_Within _ _ _)).trans ?_
      by_cases hd : 0 ≤ day ∧ day ≤ 100000
      · have hr : rdE a l day = 0 := by unfold rdE; rw [if_pos h, if_pos hd]
        have hv : alV a l day = alK a l (alM l) day 3 := if_pos hr
        have hs : stV a l day = sta a.2.2.2 l (cnt l day l.length) := if_pos hr
        have ln := alK_len a l (alM l) day 3
        refine (br_f (ndN hd)).trans ?_
        refine (br_f (ndN h)).trans ?_
        refine (br_f (ndN hr)).trans ?_
        refine (br_f (ndN hr)).trans ?_
        refine (r_bs (k_rAllowed (a := a) (l := l) ha (by omega) hw day)).trans ?_
        rw [hv]
        refine (r_bs (k_Ints (a := alK a l (alM l) day 3) (b := alK a l (alM l) day 3) (by omega))).trans ?_
        refine (br_f (by simp)).trans ?_
        refine (r_bs (k_StateOn (a := a) (l := l) ha hp hl day)).trans ?_
        refine (br_f (ndN hs)).trans ?_
        rw [r_iter]
        exact k_l11 (by omega) hw day _
      · have hr : rdE a l day = 2 := by unfold rdE; rw [if_pos h, if_neg hd]
        have hv : alV a l day = [] := by unfold alV; rw [hr]; rfl
        have hs : stV a l day = 0 := by unfold stV; rw [hr]; rfl
        refine (br_t (ndN' hd)).trans ?_
        refine (br_t rfl).trans ?_
        refine (br_t (decide_eq_true hr)).trans ?_
        refine (br_t (decide_eq_true hr)).trans ?_
        refine (br_t (by dsimp only; rw [hv]; rfl)).trans ?_
        refine (r_ret _).trans ?_
        rw [hs]; rfl
    · have hr : rdE a l day = folE a l := if_neg h
      have hv : alV a l day = [] := by unfold alV; rw [hr, if_neg h]
      have hs : stV a l day = 0 := by unfold stV; rw [hr, if_neg h]
      refine (br_f (decide_eq_false h)).trans ?_
      refine (br_t (ndN' h)).trans ?_
      refine (br_t (decide_eq_true hr)).trans ?_
      refine (br_t (decide_eq_true hr)).trans ?_
      refine (br_t (by dsimp only; rw [hv]; rfl)).trans ?_
      refine (r_ret _).trans ?_
      rw [hs]; rfl
end Go.Ab
