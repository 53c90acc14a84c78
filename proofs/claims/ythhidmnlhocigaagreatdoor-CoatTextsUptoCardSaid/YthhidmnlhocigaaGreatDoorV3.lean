/- Layers: the reference's Parse, Print, and what is written is read again. -/
import Derived.Test.YthhidmnlhocigaaGreatDoorV2
namespace Go.Ab
open Go Go.Proofs
set_option maxRecDepth 1000000
set_option maxHeartbeats 4000000
set_option linter.unusedVariables false
set_option linter.unusedSimpArgs false

theorem ref_it {L : List (List UInt8)} (hl : L.length ≤ 60001) (hw : ∀ w ∈ L, w.length ≤ 60000) : ∀ (n : Nat) (out : List Lay), L.length - out.length < n → out.length < L.length → (∀ x ∈ out, x.1.length ≤ 60000) →
    iterF (fun q_ : List Lay × Int × Unit => (T_ref08xParse_l1 ((L, ()), ()) q_.1 q_.2.1).run) n (out, (out.length : Int), ()) = some (parL out (L.drop out.length), ())
  | 0, out, h, _, _ => absurd h (by omega)
  | n + 1, out, hn, hi, ho => by
    have hwl : IntKind.i64.wrap ((L.length : Int) - 1) = ((L.length - 1 : Nat) : Int) := by rw [w64' (by omega) (by omega)]; omega
    have hw1 : IntKind.i64.wrap ((out.length : Int) + 1) = (out.length : Int) + 1 := w64' (by omega) (by omega)
    have hgi : gi L (out.length : Int) = L[out.length] := gi_nat hi
    have ha := hw _ (List.getElem_mem hi)
    have hc : base_Cut (gi L (out.length : Int)) 32 = some ((cutL 32 L[out.length], ()), ()) := by rw [hgi]; exact k_Cut (c := 32) rfl (by omega)
    have hlt : decide ((out.length : Int) < (L.length : Int)) = true := decide_eq_true (by omega)
    have hib : inB (out.length : Int) L.length = true := inB_t' (by omega) (by omega)
    by_cases he : out.length + 1 = L.length
    · have hd : L.drop out.length = [L[out.length]] := by rw [List.drop_eq_getElem_cons hi, List.drop_of_length_le (by omega)]
      have hlast : decide ((out.length : Int) = IntKind.i64.wrap ((L.length : Int) - 1)) = true := decide_eq_true (by rw [hwl]; omega)
      rw [hd, parL_end]
      by_cases hx : L[out.length] = []
      · rw [if_pos hx]
        have hb : (T_ref08xParse_l1 ((L, ()), ()) out (out.length : Int)).run = some (.inr (endS out, ())) := by
          unfold T_ref08xParse_l1
          refine (br_t hlt).trans ?_
          refine (br_t hlast).trans ?_
          refine (q_of hib).trans ?_
          refine (br_t (decide_eq_true (show gi L (out.length : Int) = [] from hgi.trans hx))).trans ?_
          refine (r_bs (k_rCheckPrinted (l := out) (by omega) (fun x hx => by have := ho x hx; omega))).trans ?_
          unfold endS
          by_cases hg : layE out = 0
          · refine (br_f (nd hg)).trans ?_
            rw [if_pos hg]
            exact r_ret _
          · refine (br_t (nd' hg)).trans ?_
            rw [if_neg hg]
            exact r_ret _
        exact iter_r (by exact hb)
      · rw [if_neg hx]
        have hb : (T_ref08xParse_l1 ((L, ()), ()) out (out.length : Int)).run = some (.inr (([], (out.length : Int) + 1, 7, ()), ())) := by
          unfold T_ref08xParse_l1
          refine (br_t hlt).trans ?_
          refine (br_t hlast).trans ?_
          refine (q_of hib).trans ?_
          refine (br_f (decide_eq_false (show ¬ gi L (out.length : Int) = [] from fun h => hx (hgi.symm.trans h)))).trans ?_
          refine (q_of hib).trans ?_
          refine (r_bs hc).trans ?_
          refine (br_t hlast).trans ?_
          rw [hw1]
          exact r_ret _
        exact iter_r (by exact hb)
    · have hd : L.drop out.length = L[out.length] :: L.drop (out.length + 1) := List.drop_eq_getElem_cons hi
      have hne : L.drop (out.length + 1) ≠ [] := by intro h; have := congrArg List.length h; simp at this; omega
      have hlast : decide ((out.length : Int) = IntKind.i64.wrap ((L.length : Int) - 1)) = false := decide_eq_false (by rw [hwl]; omega)
      have hm := cutL_mem 32 L[out.length]
      rw [hd, parL_go hne]
      have start : ∀ (R : Option ((List Lay × Int × Unit) ⊕ ((List Lay × Int × Int × Unit) × Unit))),
          ((T_ref08xParse_l1 ((L, ()), ()) out (out.length : Int)).run = R → True) := fun _ _ => trivial
      by_cases h3 : (cutL 32 L[out.length]).length = 3
      · obtain ⟨w0, x1, x2, e⟩ := three h3
        have l2 := hm x2 (by rw [e]; simp)
        rw [e] at hc ⊢
        by_cases h0 : w0 = wLayer
        · obtain ⟨k, b, g, G⟩ := k_Number (s := x2) (by omega)
          cases q : numS x2 with
          | none =>
            have hbb := got_no G q
            subst hbb
            simp only [lnW, if_pos h0, q]
            have hb : (T_ref08xParse_l1 ((L, ()), ()) out (out.length : Int)).run = some (.inr (([], (out.length : Int) + 1, 7, ()), ())) := by
              unfold T_ref08xParse_l1
              refine (br_t hlt).trans ?_
              refine (br_f hlast).trans ?_
              refine (q_of hib).trans ?_
              refine (r_bs hc).trans ?_
              refine (br_f hlast).trans ?_
              refine (br_f rfl).trans ?_
              refine (q_of rfl).trans ?_
              refine (br_f (nd (show w0 = wLayer from h0))).trans ?_
              refine (q_of rfl).trans ?_
              refine (r_bs g).trans ?_
              refine (br_t rfl).trans ?_
              rw [hw1]
              exact r_ret _
            exact iter_r (by exact hb)
          | some v =>
            obtain ⟨rfl, rfl⟩ := got_one G q
            simp only [lnW, if_pos h0, q]
            have hb : (T_ref08xParse_l1 ((L, ()), ()) out (out.length : Int)).run = some (.inl (out ++ [(x1, k)], (out.length : Int) + 1, ())) := by
              unfold T_ref08xParse_l1
              refine (br_t hlt).trans ?_
              refine (br_f hlast).trans ?_
              refine (q_of hib).trans ?_
              refine (r_bs hc).trans ?_
              refine (br_f hlast).trans ?_
              refine (br_f rfl).trans ?_
              refine (q_of rfl).trans ?_
              refine (br_f (nd (show w0 = wLayer from h0))).trans ?_
              refine (q_of rfl).trans ?_
              refine (r_bs g).trans ?_
              refine (br_f rfl).trans ?_
              refine (q_of rfl).trans ?_
              refine (q_of (decide_eq_true rfl)).trans ?_
              refine (q_of (app_t' (by simp; omega) (by simp; omega))).trans ?_
              refine (q_of (decide_eq_true (by simp))).trans ?_
              rw [hw1]
              exact r_ret _
            refine (iter_l (by exact hb)).trans ?_
            have hx1 := hm x1 (by rw [e]; simp)
            have := ref_it hl hw n (out ++ [(x1, k)]) (by simp; omega) (by simp; omega) (nml_snoc ho (by show x1.length ≤ _; omega))
            simp only [List.length_append, List.length_singleton] at this
            rw [show ((out.length + 1 : Nat) : Int) = (out.length : Int) + 1 by omega] at this
            exact this
        · simp only [lnW, if_neg h0]
          have hb : (T_ref08xParse_l1 ((L, ()), ()) out (out.length : Int)).run = some (.inr (([], (out.length : Int) + 1, 7, ()), ())) := by
            unfold T_ref08xParse_l1
            refine (br_t hlt).trans ?_
            refine (br_f hlast).trans ?_
            refine (q_of hib).trans ?_
            refine (r_bs hc).trans ?_
            refine (br_f hlast).trans ?_
            refine (br_f rfl).trans ?_
            refine (q_of rfl).trans ?_
            refine (br_t (nd' (show ¬ w0 = wLayer from h0))).trans ?_
            rw [hw1]
            exact r_ret _
          exact iter_r (by exact hb)
      · rw [lnW_no h3]
        have hb : (T_ref08xParse_l1 ((L, ()), ()) out (out.length : Int)).run = some (.inr (([], (out.length : Int) + 1, 7, ()), ())) := by
          unfold T_ref08xParse_l1
          refine (br_t hlt).trans ?_
          refine (br_f hlast).trans ?_
          refine (q_of hib).trans ?_
          refine (r_bs hc).trans ?_
          refine (br_f hlast).trans ?_
          refine (br_t (nd' (show ¬ ((cutL 32 L[out.length]).length : Int) = 3 by omega))).trans ?_
          rw [hw1]
          exact r_ret _
        exact iter_r (by exact hb)

theorem k_rParse (s : List UInt8) (hs : s.length ≤ 1048576) : ref08xParse s = some (parS s, ()) := by
  show (T_ref08xParse s).run = _
  unfold T_ref08xParse parS
  by_cases h : 60000 < s.length
  · refine (br_t (decide_eq_true (by omega))).trans ?_
    rw [if_pos h]
    exact r_ret _
  · refine (br_f (decide_eq_false (by omega))).trans ?_
    rw [if_neg h]
    refine (r_bs (k_Cut (c := 10) rfl hs)).trans ?_
    refine (q_of (decide_eq_true rfl)).trans ?_
    rw [r_iter]
    obtain ⟨w, r, e⟩ := cutL_cons 10 s
    have hl := cutL_len 10 s
    exact ref_it (by omega) (fun w hw => by have := cutL_mem 10 s w hw; omega) FUEL [] (by have := fuel_big; simp; omega) (by rw [e]; simp) (by simp)

theorem k_same (a : List Lay) (h1 : a.length ≤ 1048576) : law08xsame a a = some ((true, ()), ()) := by
  show (T_law08xsame a a).run = _
  unfold T_law08xsame
  refine (br_f (nd rfl)).trans ?_
  rw [r_iter]
  refine iter_eq (fun k y => y = ((k : Int), ())) _ a.length (by omega) ?_ rfl
  rintro k y hk rfl
  dsimp only
  unfold T_law08xsame_l0
  by_cases e : k < a.length
  · left
    refine ⟨(((k + 1 : Nat) : Int), ()), ?_, e, rfl⟩
    refine (br_t (decide_eq_true (by omega))).trans ?_
    refine (q_of (inB_t' (by omega) (by omega))).trans ?_
    refine (q_of (inB_t' (by omega) (by omega))).trans ?_
    refine (br_f (by simp)).trans ?_
    rw [w1 k (by omega)]
    exact r_ret _
  · right
    refine (br_f (decide_eq_false (by omega))).trans ?_
    exact r_ret _
theorem k_layers {r : List Lay} (h : r.length ≤ 1048576) : law08xlayers r = some ((r, ()), ()) := by
  show (T_law08xlayers r).run = _
  unfold T_law08xlayers
  refine (q_of (app_t' (by omega) (by omega))).trans ?_
  exact r_ret _

/-! ### A right list -/
structure OkL (l : List Lay) : Prop where
  n : l.length ≤ 40
  nm : ∀ x ∈ l, isNm x.1
  ct : ∀ x ∈ l, 1 ≤ x.2 ∧ x.2 ≤ 100000
theorem okL {l : List Lay} (h : layE l = 0) : OkL l := by
  unfold layE at h
  split at h
  · cases h
  · rename_i hn
    have key : ∀ x ∈ l, lyE x = 0 := fun x hx => by
      obtain ⟨i, hi, rfl⟩ := List.getElem_of_mem hx
      have := firstErr_eq0 h i hi
      rw [gi_nat hi] at this
      exact this
    refine ⟨by omega, fun x hx => ?_, fun x hx => ?_⟩
    · have := key x hx
      unfold lyE at this
      split at this
      · assumption
      · cases this
    · have := key x hx
      unfold lyE at this
      split at this
      · split at this
        · assumption
        · cases this
      · cases this
theorem itoa_len {n : Int} (h1 : -10000000 < n) (h2 : n < 10000000) : (Lib.itoa n).length ≤ 8 := by
  unfold Lib.itoa
  split
  · rw [List.length_cons, Lib.decDigits_length]
    have := nDigits_le8 (u := n.natAbs) (by omega)
    omega
  · rw [Lib.decDigits_length]
    have := nDigits_le8 (u := n.toNat) (by omega)
    omega
theorem layT_len {x : Lay} (h : x.1.length ≤ 12) (h1 : 1 ≤ x.2) (h2 : x.2 ≤ 100000) : (layT x).length ≤ 30 := by
  have := itoa_len (n := x.2) (by omega) (by omega)
  unfold layT
  simp only [List.length_append, List.length_cons, List.length_nil]
  omega
theorem layTs_len : ∀ {l : List Lay}, (∀ x ∈ l, (layT x).length ≤ 30) → (layTs l).length ≤ 30 * l.length
  | [], _ => by simp [layTs]
  | x :: r, h => by
    have ih := layTs_len (l := r) (fun y hy => h y (by simp [hy]))
    have := h x (by simp)
    unfold layTs at *
    simp only [List.map_cons, List.flatten_cons, List.length_append, List.length_cons]
    omega
theorem OkL.tlen {l : List Lay} (h : OkL l) : ∀ x ∈ l, (layT x).length ≤ 30 := fun x hx => layT_len (h.nm x hx).2.1 (h.ct x hx).1 (h.ct x hx).2
theorem OkL.len {l : List Lay} (h : OkL l) : (layTs l).length ≤ 1200 := by
  have := layTs_len h.tlen
  have := h.n
  omega
theorem k_Print {l : List Lay} (hg : layE l = 0) : coat_Print l = some ((layTs l, (0 : Int), ()), ()) := by
  have O := okL hg
  have := O.n
  have hc := k_checkLayers (l := l) (by omega) (fun x hx => by have := (O.nm x hx).2.1; omega)
  unfold coat_Print
  rw [hc]
  dsimp only
  rw [if_pos hg, if_pos]
  refine ⟨by omega, by have := O.len; omega, List.all_eq_true.2 fun x hx => ?_⟩
  have := O.ct x hx
  unfold prI64
  rw [decide_eq_true (by omega), decide_eq_true (by omega)]
  rfl
theorem k_Print_err {l : List Lay} (hl : l.length ≤ 1048576) (hn : NmL l) (hg : layE l ≠ 0) : coat_Print l = some (([], layE l, ()), ()) := by
  have hc := k_checkLayers hl hn
  unfold coat_Print
  rw [hc]
  dsimp only
  rw [if_neg hg]
theorem k_rPrint {l : List Lay} (hg : layE l = 0) : ref08xPrint l = some ((layTs l, ()), ()) := by
  have O := okL hg
  have hn := O.n
  show (T_ref08xPrint l).run = _
  unfold T_ref08xPrint
  rw [r_iter]
  refine iter_eq (fun k y => y = (layTs (l.take k), (k : Int), ())) _ l.length (by omega) ?_ rfl
  rintro k y hk rfl
  dsimp only
  unfold T_ref08xPrint_l0
  by_cases e : k < l.length
  · left
    have hx := List.getElem_mem e
    have b1 := (O.nm _ hx).2.1
    have b2 := O.ct _ hx
    have b3 := itoa_len (n := l[k].2) (by omega) (by omega)
    have ha := layTs_len (l := l.take k) (fun x hx => O.tlen x (List.mem_of_mem_take hx))
    rw [List.length_take] at ha
    have es : layTs (l.take (k + 1)) = layTs (l.take k) ++ layT l[k] := by
      rw [List.take_succ_eq_append_getElem e]; unfold layTs; rw [List.map_append, List.flatten_append]; simp
    refine ⟨(layTs (l.take (k + 1)), ((k + 1 : Nat) : Int), ()), ?_, e, rfl⟩
    rw [es]
    generalize layTs (l.take k) = acc at ha ⊢
    refine (br_t (decide_eq_true (by omega))).trans ?_
    refine (q_of (str_t' (by omega))).trans ?_
    refine (q_of (inB_t' (by omega) (by omega))).trans ?_
    rw [gi_nat e]
    refine (q_of (str_t' (by first | omega | (simp only [List.length_append, List.length_cons, List.length_nil]; omega)))).trans ?_
    refine (q_of (str_t' (by first | omega | (simp only [List.length_append, List.length_cons, List.length_nil]; omega)))).trans ?_
    refine (q_of (inB_t' (by omega) (by omega))).trans ?_
    refine (r_bs (k_Decimal (n := l[k].2) (by omega) (by omega))).trans ?_
    refine (q_of (str_t' (by first | omega | (simp only [List.length_append, List.length_cons, List.length_nil]; omega)))).trans ?_
    refine (q_of (str_t' (by first | omega | (simp only [List.length_append, List.length_cons, List.length_nil]; omega)))).trans ?_
    rw [w1 k (by omega)]
    refine (r_ret _).trans ?_
    unfold layT
    simp only [List.append_assoc]
  · right
    have e1 : k = l.length := by omega
    subst e1
    rw [List.take_length]
    refine (br_f (decide_eq_false (by omega))).trans ?_
    exact r_ret _

/-! ### Read again -/
theorem itoa_bytes (n : Int) : ∀ c ∈ Lib.itoa n, isDg c ∨ c = 45 := by
  intro c hc
  unfold Lib.itoa at hc
  split at hc
  · rcases List.mem_cons.1 hc with h | h
    · exact .inr h
    · exact .inl (dec_dg _ c h)
  · exact .inl (dec_dg _ c hc)
theorem cutL_app (c : UInt8) : ∀ (t r : List UInt8), c ∉ t → cutL c (t ++ c :: r) = t :: cutL c r
  | [], r, _ => by rw [List.nil_append, cutL_hit]
  | b :: t, r, h => by
    have hb : b ≠ c := fun e => h (by simp [e])
    rw [List.cons_append]
    exact cutL_ne hb (cutL_app c t r (fun hm => h (by simp [hm])))
theorem cutL_one (c : UInt8) {t : List UInt8} (h : c ∉ t) : cutL c t = [t] := cutL_none (fun k hk => h (List.mem_of_getElem? hk))

theorem itoa_no (n : Int) {c : UInt8} (h : c = 32 ∨ c = 10) : c ∉ Lib.itoa n := fun hm => by
  rcases itoa_bytes n c hm with h' | h'
  · unfold isDg at h'
    rcases h with rfl | rfl <;> exact absurd h' (by decide)
  · rcases h with rfl | rfl <;> exact absurd h' (by decide)
theorem nm_no {s : List UInt8} (h : isNm s) {c : UInt8} (hc : c = 32 ∨ c = 10) : c ∉ s := fun hm => by
  obtain ⟨i, hi, e⟩ := List.getElem_of_mem hm
  have := h.2.2 i hi
  unfold nmAt at this
  rw [gi_nat hi, e] at this
  rcases hc with rfl | rfl
  · rcases this with h | ⟨_, h | h⟩ <;> revert h <;> decide
  · rcases this with h | ⟨_, h | h⟩ <;> revert h <;> decide
theorem evE_all {x : Ev} (h : evE x = 0) : isNm x.1 ∧ (0 ≤ x.2.1 ∧ x.2.1 ≤ 100000) ∧ (0 ≤ x.2.2 ∧ x.2.2 ≤ 2) := by
  unfold evE at h
  split at h
  · split at h
    · split at h
      · exact ⟨by assumption, by assumption, by assumption⟩
      · cases h
    · cases h
  · cases h
theorem pcS_back {x : Ev} (h : evE x = 0) : pcS (fcT x) = (x, 0, ()) := by
  obtain ⟨h1, h2, h3⟩ := evE_all h
  obtain ⟨a, d, k⟩ := x
  have e : fcT (a, d, k) = a ++ 32 :: (Lib.itoa d ++ 32 :: Lib.itoa k) := by simp [fcT]
  unfold pcS
  rw [e, cutL_app 32 _ _ (nm_no h1 (.inl rfl)), cutL_app 32 _ _ (itoa_no d (.inl rfl)), cutL_one 32 (itoa_no k (.inl rfl))]
  unfold pcW
  dsimp only at h2 h3 ⊢
  rw [numS_of (n := d) (by omega) (by omega), numS_of (n := k) (by omega) (by omega)]
  dsimp only
  rw [if_pos h]
theorem fcT_len {x : Ev} (h : evE x = 0) : (fcT x).length ≤ 1048576 := by
  obtain ⟨h1, h2, h3⟩ := evE_all h
  have := h1.2.1
  have := itoa_len (n := x.2.1) (by omega) (by omega)
  have := itoa_len (n := x.2.2) (by omega) (by omega)
  unfold fcT
  simp only [List.length_append, List.length_cons, List.length_nil]
  omega
theorem lay_line {x : Lay} (h1 : isNm x.1) (h2 : 1 ≤ x.2 ∧ x.2 ≤ 100000) : lnW (cutL 32 (wLayer ++ 32 :: (x.1 ++ 32 :: Lib.itoa x.2))) = some x := by
  rw [cutL_app 32 _ _ (by decide), cutL_app 32 _ _ (nm_no h1 (.inl rfl)), cutL_one 32 (itoa_no x.2 (.inl rfl))]
  unfold lnW
  dsimp only
  rw [if_pos rfl, numS_of (n := x.2) (by omega) (by omega)]
theorem lay_cut {x : Lay} (h1 : isNm x.1) (r : List UInt8) : cutL 10 (layT x ++ r) = (wLayer ++ 32 :: (x.1 ++ 32 :: Lib.itoa x.2)) :: cutL 10 r := by
  have e : layT x ++ r = (wLayer ++ 32 :: (x.1 ++ 32 :: Lib.itoa x.2)) ++ 10 :: r := by simp [layT, wLayer]
  rw [e]
  refine cutL_app 10 _ _ (fun hm => ?_)
  rcases List.mem_append.1 hm with hm | hm
  · revert hm; decide
  rcases List.mem_cons.1 hm with hm | hm
  · revert hm; decide
  rcases List.mem_append.1 hm with hm | hm
  · exact nm_no h1 (.inr rfl) hm
  rcases List.mem_cons.1 hm with hm | hm
  · revert hm; decide
  · exact itoa_no x.2 (.inr rfl) hm
theorem parL_back : ∀ (r out : List Lay), (∀ x ∈ r, isNm x.1) → (∀ x ∈ r, 1 ≤ x.2 ∧ x.2 ≤ 100000) → parL out (cutL 10 (layTs r)) = endS (out ++ r)
  | [], out, _, _ => by
    show parL out [[]] = _
    rw [parL_end, if_pos rfl, List.append_nil]
  | x :: r, out, h1, h2 => by
    have e : layTs (x :: r) = layT x ++ layTs r := by simp [layTs]
    rw [e, lay_cut (h1 x (by simp))]
    obtain ⟨v, w, hv⟩ := cutL_cons 10 (layTs r)
    rw [parL_go (by rw [hv]; simp), lay_line (h1 x (by simp)) (h2 x (by simp))]
    show parL (out ++ [x]) (cutL 10 (layTs r)) = _
    rw [parL_back r (out ++ [x]) (fun y hy => h1 y (by simp [hy])) (fun y hy => h2 y (by simp [hy]))]
    simp
theorem parS_back {l : List Lay} (hg : layE l = 0) : parS (layTs l) = (l, 0, 0, ()) := by
  have O := okL hg
  have := O.len
  unfold parS
  rw [if_neg (by omega), parL_back l [] O.nm O.ct, List.nil_append]
  unfold endS
  rw [if_pos hg]
theorem endS_ok (out : List Lay) : (endS out).1.length ≤ 40 := by
  unfold endS
  split
  · rename_i h; exact (okL h).n
  · simp
theorem parL_ok : ∀ (L : List (List UInt8)) (out : List Lay), (parL out L).1.length ≤ 40
  | [], out => by simp [parL]
  | [x], out => by
    rw [parL_end]
    split
    · exact endS_ok out
    · simp
  | x :: y :: r, out => by
    rw [parL_go (by simp)]
    split
    · simp
    · exact parL_ok (y :: r) _
theorem parS_len (s : List UInt8) : (parS s).1.length ≤ 40 := by
  unfold parS
  split
  · simp
  · exact parL_ok _ _
end Go.Ab
