/- The program's reader of pairs. -/
import Derived.Test.YtpghhfnlfmlakaaGreatDoorN7
namespace Go.Ab
open Go
set_option maxRecDepth 1000000
set_option maxHeartbeats 4000000
set_option linter.unusedVariables false
set_option linter.unusedSimpArgs false

theorem k_at_in {ln : Int} {ws : List Wd} {i : Nat} (h : i < ws.length) : optics_row_at (ln, ws) (i : Int) = some (((ln, ws[i].2), ()), ()) := by
  show (T_optics_row_at (ln, ws) i).run = _
  unfold T_optics_row_at
  have e : gi ws (i : Int) = ws[i] := gi_nat h
  simp only [e]
  refine (br_t (decide_eq_true (by omega))).trans ?_
  refine (q_of (inB_t' (by omega) (by omega))).trans ?_
  exact r_ret _
theorem k_at_end {ln : Int} {ws : List Wd} {i : Nat} (hw : WB ws) (h0 : 0 < ws.length) (h : ¬ i < ws.length) : optics_row_at (ln, ws) (i : Int) = some (((ln, endS ws), ()), ()) := by
  show (T_optics_row_at (ln, ws) i).run = _
  unfold T_optics_row_at
  have hlen := hw.1
  have e1 : IntKind.i64.wrap ((ws.length : Int) - 1) = ((ws.length - 1 : Nat) : Int) := by rw [w64' (by omega) (by omega)]; omega
  have e : gi ws ((ws.length - 1 : Nat) : Int) = ws[ws.length - 1] := gi_nat (by omega)
  simp only [e1, e]
  have hb := hw.2 ws[ws.length - 1] (List.getElem_mem (by omega))
  refine (br_f (decide_eq_false (by omega))).trans ?_
  refine (q_of (inB_t' (by omega) (by omega))).trans ?_
  refine (r_ret _).trans ?_
  rw [endS_at h0, w64' (by omega) (by omega)]
theorem k_text_in {ln : Int} {ws : List Wd} {i : Nat} (h : i < ws.length) : optics_row_text (ln, ws) (i : Int) = some ((ws[i].1, ()), ()) := by
  show (T_optics_row_text (ln, ws) i).run = _
  unfold T_optics_row_text
  have e : gi ws (i : Int) = ws[i] := gi_nat h
  simp only [e]
  refine (br_t (decide_eq_true (by omega))).trans ?_
  refine (q_of (inB_t' (by omega) (by omega))).trans ?_
  exact r_ret _
/-- A key's value is set. -/
theorem k_set {key v : List UInt8} {s : Srf} {n : Nat} (hk : keyS key = some n) (hv : v.length ≤ 1048576) : ∃ b s', optics_set key v s = some ((b, ()), (s', ())) ∧ Got (putS n v s) s' b := by
  show ∃ b s', (T_optics_set key v s).run = _ ∧ _
  unfold T_optics_set
  have gmap : ∀ {α : Type} {o : Option α} {w : α} {b : Bool} (f : α → Srf), Got o w b → Got (o.map f) (f w) b := fun {α o w b} f h => by
    obtain ⟨h1, h2⟩ := h
    refine ⟨by rw [h1]; cases o <;> rfl, fun v hv => ?_⟩
    cases o with
    | none => cases hv
    | some x => injection hv with hv; rw [← hv, h2 x rfl]
  rcases keyS_at hk with ⟨rfl, rfl⟩ | ⟨rfl, rfl⟩ | ⟨rfl, rfl⟩ | ⟨rfl, rfl⟩
  · obtain ⟨w, b, k1, g1⟩ := k_length hv
    refine ⟨b, (s.1, ((w, s.2.1.2), s.2.2)), ?_, gmap (fun x => (s.1, ((x, s.2.1.2), s.2.2))) g1⟩
    refine (br_t rfl).trans ?_
    refine (r_bs k1).trans ?_
    exact r_ret _
  · obtain ⟨w, b, k1, g1⟩ := k_conic hv
    refine ⟨b, (s.1, ((s.2.1.1, w), s.2.2)), ?_, gmap (fun x => (s.1, ((s.2.1.1, x), s.2.2))) g1⟩
    refine (br_f rfl).trans ?_
    refine (br_t rfl).trans ?_
    refine (r_bs k1).trans ?_
    exact r_ret _
  · obtain ⟨w, b, k1, g1⟩ := k_length hv
    refine ⟨b, (s.1, (s.2.1, (w, s.2.2.2))), ?_, gmap (fun x => (s.1, (s.2.1, (x, s.2.2.2)))) g1⟩
    refine (br_f rfl).trans ?_
    refine (br_f rfl).trans ?_
    refine (br_t rfl).trans ?_
    refine (r_bs k1).trans ?_
    exact r_ret _
  · obtain ⟨w, b, k1, g1⟩ := k_length hv
    refine ⟨b, (s.1, (s.2.1, (s.2.2.1, w))), ?_, gmap (fun x => (s.1, (s.2.1, (s.2.2.1, x)))) g1⟩
    refine (br_f rfl).trans ?_
    refine (br_f rfl).trans ?_
    refine (br_f rfl).trans ?_
    refine (br_t rfl).trans ?_
    refine (r_bs k1).trans ?_
    exact r_ret _
theorem mget_cons (c : List (List UInt8 × Bool)) (k l : List UInt8) (v : Bool) : mget Ty.bool ((k, v) :: c) l false = if l = k then v else mget Ty.bool c l false := by
  unfold mget
  rw [List.lookup_cons]
  by_cases h : l = k
  · subst h; simp
  · have : (l == k) = false := by simpa using h
    rw [this, if_neg h]
theorem mget_keys (k : List UInt8) : mget Ty.bool [(bApart, true), (bConic, true), (bDiameter, true), (bRadius, true)] k false = (keyS k).isSome := by
  rw [mget_cons, mget_cons, mget_cons, mget_cons]
  unfold keyS
  by_cases h1 : k = bRadius
  · subst h1; rfl
  · by_cases h2 : k = bConic
    · subst h2; rfl
    · by_cases h3 : k = bDiameter
      · subst h3; rfl
      · by_cases h4 : k = bApart
        · subst h4; rfl
        · simp only [if_neg h1, if_neg h2, if_neg h3, if_neg h4]; rfl
/-- The keys that were seen. -/
def SeenOk (c : List (List UInt8 × Bool)) (h : Had) : Prop := ∀ k n, keyS k = some n → mget Ty.bool c k false = hadG h n
theorem SeenOk.nil : SeenOk [] (false, false, false, false) := fun k n hk => by
  rcases keyS_at hk with ⟨rfl, _⟩ | ⟨rfl, _⟩ | ⟨rfl, _⟩ | ⟨rfl, _⟩ <;> rfl
theorem SeenOk.put {c : List (List UInt8 × Bool)} {h : Had} {key : List UInt8} {m : Nat} (hs : SeenOk c h) (hm : keyS key = some m) : SeenOk ((key, true) :: c) (hadP h m) := fun k n hk => by
  rw [mget_cons, hs k n hk]
  rcases keyS_at hk with ⟨rfl, rfl⟩ | ⟨rfl, rfl⟩ | ⟨rfl, rfl⟩ | ⟨rfl, rfl⟩ <;> rcases keyS_at hm with ⟨rfl, rfl⟩ | ⟨rfl, rfl⟩ | ⟨rfl, rfl⟩ | ⟨rfl, rfl⟩ <;> rfl
/-- What comes of the program's reader of pairs. -/
def PostP (ln : Int) (o : (Int × Int) ⊕ Srf) (f : Bool × ((Int × Int) × Int)) (s : Srf) : Prop := match o with
  | .inl (c, e) => f = (true, ((ln, c), e))
  | .inr s' => f.1 = false ∧ s = s'
theorem k_pairs {ln : Int} {ws : List Wd} {s0 : Srf} (hw : WB ws) (h0 : 0 < ws.length) : ∃ f s', optics_row_pairs (ln, ws) s0 = some ((f, ()), (s', ())) ∧ PostP ln (pairsS (endS ws) (false, false, false, false) s0 (ws.drop 2)) f s' := by
  show ∃ f s', (T_optics_row_pairs (ln, ws) s0).run = _ ∧ _
  unfold T_optics_row_pairs
  have hlen := hw.1
  generalize hO : pairsS (endS ws) (false, false, false, false) s0 (ws.drop 2) = O
  obtain ⟨r, q1, f, s', q2, q3⟩ := iter_post (b := fun q_ : Int × Srf × List (List UInt8 × Bool) × Unit => (T_optics_row_pairs_l0 (ln, ws) q_.1 q_.2.1 q_.2.2.1).run)
    (fun i (st : Int × Srf × List (List UInt8 × Bool) × Unit) => ∃ s c h, st = (((2 + 2 * i : Nat) : Int), (s, (c, ()))) ∧ SeenOk c h ∧ pairsS (endS ws) h s (ws.drop (2 + 2 * i)) = O ∧ i ≤ ws.length)
    (fun r : ((Bool × ((Int × Int) × Int)) × Unit) × (Srf × Unit) => ∃ f s', r = ((f, ()), (s', ())) ∧ PostP ln O f s') ws.length (by omega)
    (x0 := ((2 : Int), (s0, ([], ())))) (by
      rintro i st hi ⟨s, c, h, rfl, hc, hp, hil⟩
      obtain ⟨j, hj⟩ : ∃ j, j = 2 + 2 * i := ⟨_, rfl⟩
      rw [← hj] at hp ⊢
      show (∃ x', (T_optics_row_pairs_l0 (ln, ws) (j : Int) s c).run = _ ∧ _) ∨ (∃ r, (T_optics_row_pairs_l0 (ln, ws) (j : Int) s c).run = _ ∧ _)
      by_cases hjl : j < ws.length
      case neg =>
        right
        rw [List.drop_of_length_le (by omega), pairsS] at hp
        have g0 : mget Ty.bool c [114, 97, 100, 105, 117, 115] false = h.1 := hc bRadius 0 rfl
        have g2 : mget Ty.bool c [100, 105, 97, 109, 101, 116, 101, 114] false = h.2.2.1 := hc bDiameter 2 rfl
        have ka := k_at_end (ln := ln) (i := ws.length) hw h0 (by omega)
        unfold T_optics_row_pairs_l0
        cases e0 : h.1 with
        | false =>
          rw [e0] at hp
          refine ⟨(((true, ((ln, endS ws), 6)), ()), (s, ())), ?_, _, s, rfl, by rw [← hp]; rfl⟩
          refine (br_f (decide_eq_false (by show ¬ ((j : Int) < (ws.length : Int)); omega))).trans ?_
          refine (br_t (by rw [g0, e0]; rfl)).trans ?_
          refine (r_bs ka).trans ?_
          exact r_ret _
        | true =>
          cases e2 : h.2.2.1 with
          | false =>
            rw [e0, e2] at hp
            refine ⟨(((true, ((ln, endS ws), 6)), ()), (s, ())), ?_, _, s, rfl, by rw [← hp]; rfl⟩
            refine (br_f (decide_eq_false (by show ¬ ((j : Int) < (ws.length : Int)); omega))).trans ?_
            refine (br_f (by rw [g0, e0]; rfl)).trans ?_
            refine (br_t (by rw [g2, e2]; rfl)).trans ?_
            refine (r_bs ka).trans ?_
            exact r_ret _
          | true =>
            rw [e0, e2] at hp
            refine ⟨(((false, (((Ty.int .i64).pair (Ty.int .i64)).pair (Ty.int .i64)).d), ()), (s, ())), ?_, _, s, rfl, by rw [← hp]; exact ⟨rfl, rfl⟩⟩
            refine (br_f (decide_eq_false (by show ¬ ((j : Int) < (ws.length : Int)); omega))).trans ?_
            refine (br_f (by rw [g0, e0]; rfl)).trans ?_
            refine (br_f (by rw [g2, e2]; rfl)).trans ?_
            exact r_ret _
      have hlt : decide ((j : Int) < (ws.length : Int)) = true := decide_eq_true (by omega)
      have kt := k_text_in (ln := ln) hjl
      have ka := k_at_in (ln := ln) hjl
      have w1j := w1 j (by omega)
      cases hk : keyS ws[j].1 with
      | none =>
        right
        have hO' : O = .inl (ws[j].2, 7) := by
          rw [← hp]
          by_cases hj1 : j + 1 < ws.length
          · rw [drop_two hj1, pairsS, hk]
          · rw [drop_one (by omega : j + 1 = ws.length), pairsS, hk]
        refine ⟨(((true, ((ln, ws[j].2), 7)), ()), (s, ())), ?_, _, s, rfl, by rw [hO']; rfl⟩
        unfold T_optics_row_pairs_l0
        refine (br_t hlt).trans ?_
        refine (r_bs kt).trans ?_
        refine (br_t (by rw [mget_keys, hk]; rfl)).trans ?_
        refine (r_bs ka).trans ?_
        exact r_ret _
      | some n =>
        have hm : (!mget Ty.bool [(bApart, true), (bConic, true), (bDiameter, true), (bRadius, true)] ws[j].1 false) = false := by rw [mget_keys, hk]; rfl
        have hsn := hc _ _ hk
        cases hh : hadG h n with
        | true =>
          right
          have hO' : O = .inl (ws[j].2, 5) := by
            rw [← hp]
            by_cases hj1 : j + 1 < ws.length
            · rw [drop_two hj1, pairsS, hk]; simp only; rw [hh, if_pos rfl]
            · rw [drop_one (by omega : j + 1 = ws.length), pairsS, hk]; simp only; rw [hh, if_pos rfl]
          refine ⟨(((true, ((ln, ws[j].2), 5)), ()), (s, ())), ?_, _, s, rfl, by rw [hO']; rfl⟩
          unfold T_optics_row_pairs_l0
          refine (br_t hlt).trans ?_
          refine (r_bs kt).trans ?_
          refine (br_f hm).trans ?_
          refine (br_t (hsn.trans hh)).trans ?_
          refine (r_bs ka).trans ?_
          exact r_ret _
        | false =>
          by_cases hj1 : j + 1 < ws.length
          · rw [drop_two hj1, pairsS, hk] at hp
            simp only at hp
            rw [hh, if_neg (by decide)] at hp
            have kt1 := k_text_in (ln := ln) hj1
            have ka1 := k_at_in (ln := ln) hj1
            obtain ⟨b, s2, ks, gs⟩ := k_set (s := s) hk (hw.2 ws[j + 1] (List.getElem_mem hj1)).2
            have hne : decide (((j + 1 : Nat) : Int) = (ws.length : Int)) = false := decide_eq_false (by omega)
            obtain ⟨hb, hs2⟩ := gs
            cases hq : putS n ws[j + 1].1 s with
            | none =>
              right
              rw [hq] at hp hb
              refine ⟨(((true, ((ln, ws[j + 1].2), 7)), ()), (s2, ())), ?_, _, s2, rfl, by rw [← hp]; rfl⟩
              unfold T_optics_row_pairs_l0
              rw [w1j]
              refine (br_t hlt).trans ?_
              refine (r_bs kt).trans ?_
              refine (br_f hm).trans ?_
              refine (br_f (hsn.trans hh)).trans ?_
              refine (br_f hne).trans ?_
              refine (r_bs kt1).trans ?_
              refine (r_bs ks).trans ?_
              refine (br_t (by rw [hb]; rfl)).trans ?_
              refine (r_bs ka1).trans ?_
              exact r_ret _
            | some s1 =>
              left
              rw [hq] at hp hb
              have e2 := hs2 s1 hq
              subst e2
              refine ⟨(((j + 2 : Nat) : Int), (s2, ((ws[j].1, true) :: c, ()))), ?_, by omega, s2, _, hadP h n, ?_, hc.put hk, ?_, by omega⟩
              · unfold T_optics_row_pairs_l0
                rw [w1j, ← wrap2 j (by omega)]
                refine (br_t hlt).trans ?_
                refine (r_bs kt).trans ?_
                refine (br_f hm).trans ?_
                refine (br_f (hsn.trans hh)).trans ?_
                refine (br_f hne).trans ?_
                refine (r_bs kt1).trans ?_
                refine (r_bs ks).trans ?_
                refine (br_f (by rw [hb]; rfl)).trans ?_
                exact r_ret _
              · rw [show j + 2 = 2 + 2 * (i + 1) by omega]
              · rw [show 2 + 2 * (i + 1) = j + 2 by omega]; exact hp
          · right
            have hend : j + 1 = ws.length := by omega
            rw [drop_one hend, pairsS, hk] at hp
            simp only at hp
            rw [hh, if_neg (by decide)] at hp
            have kae := k_at_end (ln := ln) (i := j + 1) hw h0 (by omega)
            refine ⟨(((true, ((ln, endS ws), 6)), ()), (s, ())), ?_, _, s, rfl, by rw [← hp]; rfl⟩
            unfold T_optics_row_pairs_l0
            rw [w1j]
            refine (br_t hlt).trans ?_
            refine (r_bs kt).trans ?_
            refine (br_f hm).trans ?_
            refine (br_f (hsn.trans hh)).trans ?_
            refine (br_t (decide_eq_true (by show ((j + 1 : Nat) : Int) = (ws.length : Int); omega))).trans ?_
            refine (r_bs kae).trans ?_
            exact r_ret _)
    ⟨s0, [], _, rfl, SeenOk.nil, hO, Nat.zero_le _⟩
  refine ⟨f, s', ?_, q3⟩
  rw [← q2, r_iter]
  exact q1
end Go.Ab
