/- Events and layers read from texts, as the program and the reference do it. -/
import Derived.Test.YthhidmnlhocigaaGreatDoorV1
namespace Go.Ab
open Go Go.Proofs
set_option maxRecDepth 1000000
set_option maxHeartbeats 4000000
set_option linter.unusedVariables false
set_option linter.unusedSimpArgs false

theorem cutL_cons (c : UInt8) : ∀ s : List UInt8, ∃ w r, cutL c s = w :: r
  | [] => ⟨[], [], rfl⟩
  | b :: s => by
    obtain ⟨w, r, h⟩ := cutL_cons c s
    by_cases e : b = c
    · exact ⟨[], cutL c s, by rw [e, cutL_hit]⟩
    · exact ⟨b :: w, r, cutL_ne e h⟩
theorem cut_first : ∀ t : List UInt8, t ≠ [] → (∃ a, firstL t = a ++ [10] ∧ cutL 10 t = a :: cutL 10 (restL t) ∧ a.length + 1 + (restL t).length = t.length) ∨ (firstL t = t ∧ restL t = [] ∧ cutL 10 t = [t] ∧ (10 : UInt8) ∉ t)
  | [], h => absurd rfl h
  | c :: r, _ => by
    by_cases e : c = 10
    · subst e
      refine .inl ⟨[], ?_, ?_, ?_⟩
      · simp [firstL]
      · rw [cutL_hit]; simp [restL]
      · simp [restL]; omega
    · have ef : firstL (c :: r) = c :: firstL r := by rw [firstL, if_neg e]
      have er : restL (c :: r) = restL r := by rw [restL, if_neg e]
      by_cases hr : r = []
      · subst hr
        refine .inr ⟨ef, er, cutL_ne e rfl, ?_⟩
        simp; exact fun h => e h.symm
      · rcases cut_first r hr with ⟨a, h1, h2, h3⟩ | ⟨h1, h2, h3, h4⟩
        · refine .inl ⟨c :: a, by rw [ef, h1]; rfl, by rw [er]; exact cutL_ne e h2, by rw [er]; simp; omega⟩
        · refine .inr ⟨by rw [ef, h1], by rw [er, h2], cutL_ne e h3, ?_⟩
          simp; exact ⟨fun h => e h.symm, h4⟩
theorem suf_yes (a : List UInt8) : Lib.hasSuffix (a ++ [10]) [10] = true := by
  unfold Lib.hasSuffix; rw [List.isSuffixOf_iff_suffix]; exact ⟨a, rfl⟩
theorem suf_no {t : List UInt8} (h : (10 : UInt8) ∉ t) : Lib.hasSuffix t [10] = false := by
  cases hb : Lib.hasSuffix t [10] with
  | false => rfl
  | true =>
    unfold Lib.hasSuffix at hb
    rw [List.isSuffixOf_iff_suffix] at hb
    obtain ⟨a, e⟩ := hb
    exact absurd (by rw [← e]; simp) h
theorem trim_yes (a : List UInt8) : Lib.trimSuffix (a ++ [10]) [10] = a := by
  rw [trim_suf (suf_yes a)]; simp

theorem iter_l {σ ρ : Type} {body : σ → Option (σ ⊕ ρ)} {n : Nat} {x x' : σ} (h : body x = some (.inl x')) : iterF body (n + 1) x = iterF body n x' := by rw [iterF, h]
theorem iter_r {σ ρ : Type} {body : σ → Option (σ ⊕ ρ)} {n : Nat} {x : σ} {r : ρ} (h : body x = some (.inr r)) : iterF body (n + 1) x = some r := by rw [iterF, h]

theorem got_one {o : Option Int} {w : Int} {v : Int} {b : Bool} (h : Got o w b) (e : o = some v) : w = v ∧ b = true := ⟨h.2 v e, by rw [h.1, e]; rfl⟩
theorem got_no {o : Option Int} {w : Int} {b : Bool} (h : Got o w b) (e : o = none) : b = false := by rw [h.1, e]; rfl
theorem three {l : List (List UInt8)} (h : l.length = 3) : ∃ a b c, l = [a, b, c] := match l, h with | [a, b, c], _ => ⟨a, b, c, rfl⟩
abbrev pcR := Ev × Int × Unit
def pcW (l : List (List UInt8)) : pcR := match l with
  | [w0, w1, w2] => match numS w1, numS w2 with
    | some d, some k => if evE (w0, d, k) = 0 then ((w0, d, k), 0, ()) else (([], 0, 0), evE (w0, d, k), ())
    | _, _ => (([], 0, 0), 7, ())
  | _ => (([], 0, 0), 7, ())
theorem pcW_no {l : List (List UInt8)} (h : l.length ≠ 3) : pcW l = (([], 0, 0), 7, ()) := by
  unfold pcW
  split
  · exact absurd rfl h
  · rfl
def pcS (s : List UInt8) : pcR := pcW (cutL 32 s)
theorem k_ParseCoating {s : List UInt8} (hs : s.length ≤ 1048576) : coat_ParseCoating s = some (pcS s, ()) := by
  show (T_coat_ParseCoating s).run = _
  unfold T_coat_ParseCoating pcS
  have hm := cutL_mem 32 s
  refine (r_bs (k_split (c := 32) hs)).trans ?_
  by_cases h3 : (cutL 32 s).length = 3
  · refine (br_f (nd (show ((cutL 32 s).length : Int) = 3 by omega))).trans ?_
    obtain ⟨a, b, c, e⟩ := three h3
    rw [e] at hm ⊢
    have la := hm a (by simp)
    have lb := hm b (by simp)
    have lc := hm c (by simp)
    obtain ⟨w1, b1, g1, G1⟩ := k_count (s := b) (by omega)
    obtain ⟨w2, b2, g2, G2⟩ := k_count (s := c) (by omega)
    refine (q_of rfl).trans ?_
    refine (r_bs g1).trans ?_
    refine (q_of rfl).trans ?_
    refine (r_bs g2).trans ?_
    unfold pcW
    dsimp only
    cases q1 : numS b with
    | none =>
      have hb := got_no G1 q1
      subst hb
      exact (br_t rfl).trans (r_ret _)
    | some d =>
      obtain ⟨rfl, rfl⟩ := got_one G1 q1
      refine (br_f rfl).trans ?_
      cases q2 : numS c with
      | none =>
        have hb := got_no G2 q2
        subst hb
        exact (br_t rfl).trans (r_ret _)
      | some k =>
        obtain ⟨rfl, rfl⟩ := got_one G2 q2
        refine (br_f rfl).trans ?_
        refine (q_of rfl).trans ?_
        refine (r_bs (k_checkEvent (x := (a, w1, w2)) (by show a.length ≤ _; omega))).trans ?_
        by_cases he : evE (a, w1, w2) = 0
        · refine (br_f (nd he)).trans ?_
          dsimp only
          rw [if_pos he]
          exact r_ret _
        · refine (br_t (nd' he)).trans ?_
          dsimp only
          rw [if_neg he]
          exact r_ret _
  · refine (br_t (nd' (show ¬ ((cutL 32 s).length : Int) = 3 by omega))).trans ?_
    rw [pcW_no h3]
    exact r_ret _
theorem k_rParseCoating {s : List UInt8} (hs : s.length ≤ 1048576) : ref08xParseCoating s = some (pcS s, ()) := by
  show (T_ref08xParseCoating s).run = _
  unfold T_ref08xParseCoating pcS
  have hm := cutL_mem 32 s
  refine (r_bs (k_Cut (c := 32) rfl hs)).trans ?_
  by_cases h3 : (cutL 32 s).length = 3
  · refine (br_f (nd (show ((cutL 32 s).length : Int) = 3 by omega))).trans ?_
    obtain ⟨a, b, c, e⟩ := three h3
    rw [e] at hm ⊢
    have la := hm a (by simp)
    have lb := hm b (by simp)
    have lc := hm c (by simp)
    obtain ⟨w1, b1, g1, G1⟩ := k_Number (s := b) (by omega)
    obtain ⟨w2, b2, g2, G2⟩ := k_Number (s := c) (by omega)
    refine (q_of rfl).trans ?_
    refine (r_bs g1).trans ?_
    refine (q_of rfl).trans ?_
    refine (r_bs g2).trans ?_
    unfold pcW
    dsimp only
    cases q1 : numS b with
    | none =>
      have hb := got_no G1 q1
      subst hb
      exact (br_t rfl).trans (r_ret _)
    | some d =>
      obtain ⟨rfl, rfl⟩ := got_one G1 q1
      refine (br_f rfl).trans ?_
      cases q2 : numS c with
      | none =>
        have hb := got_no G2 q2
        subst hb
        exact (br_t rfl).trans (r_ret _)
      | some k =>
        obtain ⟨rfl, rfl⟩ := got_one G2 q2
        refine (br_f rfl).trans ?_
        refine (q_of rfl).trans ?_
        refine (r_bs (k_rCheckEvent (x := (a, w1, w2)) (by show a.length ≤ _; omega))).trans ?_
        by_cases he : evE (a, w1, w2) = 0
        · refine (br_f (nd he)).trans ?_
          dsimp only
          rw [if_pos he]
          exact r_ret _
        · refine (br_t (nd' he)).trans ?_
          dsimp only
          rw [if_neg he]
          exact r_ret _
  · refine (br_t (nd' (show ¬ ((cutL 32 s).length : Int) = 3 by omega))).trans ?_
    rw [pcW_no h3]
    exact r_ret _

def fcT (x : Ev) : List UInt8 := x.1 ++ [32] ++ Lib.itoa x.2.1 ++ [32] ++ Lib.itoa x.2.2
theorem itoa_le {n : Int} (h1 : -9223372036854775808 ≤ n) (h2 : n ≤ 9223372036854775807) : (Lib.itoa n).length ≤ 1000000000000000003 := by
  unfold Lib.itoa
  split
  · rw [List.length_cons, Lib.decDigits_length]
    have := nDigits_le2 n.natAbs
    omega
  · rw [Lib.decDigits_length]
    have := nDigits_le2 n.toNat
    omega
theorem k_FormatCoating {x : Ev} (hl : x.1.length ≤ 1048576) (h1 : -9223372036854775808 ≤ x.2.1 ∧ x.2.1 ≤ 9223372036854775807) (h2 : -9223372036854775808 ≤ x.2.2 ∧ x.2.2 ≤ 9223372036854775807) : coat_FormatCoating x = some ((fcT x, ()), ()) := by
  show (T_coat_FormatCoating x).run = _
  unfold T_coat_FormatCoating
  have b1 := itoa_le h1.1 h1.2
  have b2 := itoa_le h2.1 h2.2
  refine (q_of (str_t' (by omega))).trans ?_
  refine (r_bs (k_Itoa (n := x.2.1) ⟨h1.1, h1.2⟩)).trans ?_
  refine (q_of (str_t' (by first | omega | (simp only [List.length_append, List.length_cons, List.length_nil]; omega)))).trans ?_
  refine (q_of (str_t' (by first | omega | (simp only [List.length_append, List.length_cons, List.length_nil]; omega)))).trans ?_
  refine (r_bs (k_Itoa (n := x.2.2) ⟨h2.1, h2.2⟩)).trans ?_
  refine (q_of (str_t' (by first | omega | (simp only [List.length_append, List.length_cons, List.length_nil]; omega)))).trans ?_
  exact r_ret _
theorem k_rFormatCoating {x : Ev} (hl : x.1.length ≤ 1048576) (h1 : -9223372036854775808 ≤ x.2.1 ∧ x.2.1 ≤ 9223372036854775807) (h2 : -9223372036854775808 ≤ x.2.2 ∧ x.2.2 ≤ 9223372036854775807) : ref08xFormatCoating x = some ((fcT x, ()), ()) := by
  show (T_ref08xFormatCoating x).run = _
  unfold T_ref08xFormatCoating
  have b1 := itoa_le h1.1 h1.2
  have b2 := itoa_le h2.1 h2.2
  refine (q_of (str_t' (by omega))).trans ?_
  refine (r_bs (k_Decimal (n := x.2.1) h1.1 h1.2)).trans ?_
  refine (q_of (str_t' (by first | omega | (simp only [List.length_append, List.length_cons, List.length_nil]; omega)))).trans ?_
  refine (q_of (str_t' (by first | omega | (simp only [List.length_append, List.length_cons, List.length_nil]; omega)))).trans ?_
  refine (r_bs (k_Decimal (n := x.2.2) h2.1 h2.2)).trans ?_
  refine (q_of (str_t' (by first | omega | (simp only [List.length_append, List.length_cons, List.length_nil]; omega)))).trans ?_
  exact r_ret _

/-! ### Layers -/
def wLayer : List UInt8 := [108, 97, 121, 101, 114]
def lnW (l : List (List UInt8)) : Option Lay := match l with
  | [w0, w1, w2] => if w0 = wLayer then (match numS w2 with | some n => some (w1, n) | none => none) else none
  | _ => none
theorem lnW_no {l : List (List UInt8)} (h : l.length ≠ 3) : lnW l = none := by
  unfold lnW
  split
  · exact absurd rfl h
  · rfl
abbrev plR := List Lay × Int × Int × Unit
def endS (out : List Lay) : plR := if layE out = 0 then (out, 0, 0, ()) else ([], 0, layE out, ())
def parL : List Lay → List (List UInt8) → plR
  | out, [] => ([], (out.length : Int) + 1, 7, ())
  | out, x :: r => match r with
    | [] => if x = [] then endS out else ([], (out.length : Int) + 1, 7, ())
    | _ :: _ => match lnW (cutL 32 x) with
      | none => ([], (out.length : Int) + 1, 7, ())
      | some p => parL (out ++ [p]) r
def parS (s : List UInt8) : plR := if 60000 < s.length then ([], 0, 8, ()) else parL [] (cutL 10 s)
theorem parL_go {out : List Lay} {x : List UInt8} {r : List (List UInt8)} (h : r ≠ []) : parL out (x :: r) = match lnW (cutL 32 x) with
      | none => ([], (out.length : Int) + 1, 7, ())
      | some p => parL (out ++ [p]) r := by
  cases r with
  | nil => exact absurd rfl h
  | cons y r => rfl
theorem parL_end {out : List Lay} {x : List UInt8} : parL out [x] = if x = [] then endS out else ([], (out.length : Int) + 1, 7, ()) := rfl

abbrev Bx := Unit × List Lay × Unit
/-- A line of the program's loop. -/
theorem p_line {t a : List UInt8} {out : List Lay} (ht : t ≠ []) (hs : strings_CutSuffix (firstL t) [10] = some ((a, true, ()), ())) (ha : a.length ≤ 60000) (ho : out.length ≤ 60000) :
    (lnW (cutL 32 a) = none → (T_coat_Parse_l1 t ((), [], ()) 0 0 ((), out, ())).run = some (.inr (([], (out.length : Int) + 1, 7, ()), ()))) ∧
    ∀ p, lnW (cutL 32 a) = some p → (T_coat_Parse_l1 t ((), [], ()) 0 0 ((), out, ())).run = some (.inl (restL t, ((), [], ()), 0, 0, ((), out ++ [p], ()), ())) := by
  have hw1 : IntKind.i64.wrap ((out.length : Int) + 1) = (out.length : Int) + 1 := w64' (by omega) (by omega)
  have hm := cutL_mem 32 a
  by_cases h3 : (cutL 32 a).length = 3
  · have h3' : ((cutL 32 a).length : Int) = 3 := by omega
    obtain ⟨w0, x1, x2, e⟩ := three h3
    have l2 := hm x2 (by rw [e]; simp)
    have hsp : strings_Split a [32] = some (([w0, x1, x2], ()), ()) := by rw [k_split (by omega), e]
    rw [e]
    by_cases h0 : w0 = wLayer
    · obtain ⟨n, b, g, G⟩ := k_count (s := x2) (by omega)
      cases q : numS x2 with
      | none =>
        have hb := got_no G q
        subst hb
        refine ⟨fun _ => ?_, fun p hp => ?_⟩
        · unfold T_coat_Parse_l1
          refine (br_f (decide_eq_false ht)).trans ?_
          refine (r_bs hs).trans ?_
          refine (r_bs hsp).trans ?_
          refine (br_f rfl).trans ?_
          refine (br_f rfl).trans ?_
          refine (q_of rfl).trans ?_
          refine (br_f (nd (show w0 = wLayer from h0))).trans ?_
          refine (q_of rfl).trans ?_
          refine (r_bs g).trans ?_
          refine (br_t rfl).trans ?_
          dsimp only
          rw [hw1]
          exact r_ret _
        · simp only [lnW, if_pos h0, q] at hp
          cases hp
      | some v =>
        obtain ⟨rfl, rfl⟩ := got_one G q
        refine ⟨fun hp => ?_, fun p hp => ?_⟩
        · simp only [lnW, if_pos h0, q] at hp
          cases hp
        · simp only [lnW, if_pos h0, q] at hp
          injection hp with hp
          subst hp
          unfold T_coat_Parse_l1
          refine (br_f (decide_eq_false ht)).trans ?_
          refine (r_bs hs).trans ?_
          refine (r_bs hsp).trans ?_
          refine (br_f rfl).trans ?_
          refine (br_f rfl).trans ?_
          refine (q_of rfl).trans ?_
          refine (br_f (nd (show w0 = wLayer from h0))).trans ?_
          refine (q_of rfl).trans ?_
          refine (r_bs g).trans ?_
          refine (br_f rfl).trans ?_
          refine (q_of rfl).trans ?_
          refine (q_of (decide_eq_true rfl)).trans ?_
          refine (q_of (app_t' (by simp; omega) (by simp; omega))).trans ?_
          refine (q_of (decide_eq_true rfl)).trans ?_
          refine (q_of (decide_eq_true (by simp))).trans ?_
          refine (q_of (decide_eq_true rfl)).trans ?_
          exact r_ret _
    · refine ⟨fun _ => ?_, fun p hp => ?_⟩
      · unfold T_coat_Parse_l1
        refine (br_f (decide_eq_false ht)).trans ?_
        refine (r_bs hs).trans ?_
        refine (r_bs hsp).trans ?_
        refine (br_f rfl).trans ?_
        refine (br_f rfl).trans ?_
        refine (q_of rfl).trans ?_
        refine (br_t (nd' (show ¬ w0 = wLayer from h0))).trans ?_
        dsimp only
        rw [hw1]
        exact r_ret _
      · simp only [lnW, if_neg h0] at hp
        cases hp
  · have hsp : strings_Split a [32] = some ((cutL 32 a, ()), ()) := k_split (by omega)
    refine ⟨fun _ => ?_, fun p hp => ?_⟩
    · unfold T_coat_Parse_l1
      refine (br_f (decide_eq_false ht)).trans ?_
      refine (r_bs hs).trans ?_
      refine (r_bs hsp).trans ?_
      refine (br_f rfl).trans ?_
      refine (br_t (nd' (show ¬ ((cutL 32 a).length : Int) = 3 by omega))).trans ?_
      dsimp only
      rw [hw1]
      exact r_ret _
    · rw [lnW_no h3] at hp
      cases hp
theorem lnW_len {a : List UInt8} {p : Lay} (h : lnW (cutL 32 a) = some p) : p.1.length ≤ a.length := by
  unfold lnW at h
  split at h
  · rename_i w0 w1 w2 e
    split at h
    · split at h
      · injection h with h; subst h
        exact cutL_mem 32 a w1 (by rw [e]; simp)
      · cases h
    · cases h
  · cases h
theorem nml_snoc {out : List Lay} {p : Lay} {n : Nat} (h : ∀ x ∈ out, x.1.length ≤ n) (hp : p.1.length ≤ n) : ∀ x ∈ out ++ [p], x.1.length ≤ n := fun x hx => by
  rcases List.mem_append.1 hx with hx | hx
  · exact h x hx
  · rw [List.mem_singleton.1 hx]; exact hp

theorem parse_it : ∀ (n : Nat) (t : List UInt8) (out : List Lay), t.length < n → out.length + t.length ≤ 60000 → (∀ x ∈ out, x.1.length ≤ 60000) →
    iterF (fun q_ : List UInt8 × Bx × Int × Int × Bx × Unit => (T_coat_Parse_l1 q_.1 q_.2.1 q_.2.2.1 q_.2.2.2.1 q_.2.2.2.2.1).run) n (t, ((), [], ()), 0, 0, ((), out, ()), ()) = some (parL out (cutL 10 t), ())
  | 0, t, out, h, _, _ => absurd h (by omega)
  | n + 1, t, out, hn, hi, ho => by
    by_cases ht : t = []
    · subst ht
      have hb : (T_coat_Parse_l1 [] ((), [], ()) 0 0 ((), out, ())).run = some (.inr (parL out (cutL 10 []), ())) := by
        unfold T_coat_Parse_l1
        refine (br_t rfl).trans ?_
        show _ = some (Sum.inr (parL out [[]], ()))
        rw [parL_end, if_pos rfl]
        refine (r_bs (k_checkLayers (l := out) (by omega) (fun x hx => by have := ho x hx; omega))).trans ?_
        unfold endS
        by_cases hg : layE out = 0
        · refine (br_f (nd hg)).trans ?_
          rw [if_pos hg]
          exact r_ret _
        · refine (br_t (nd' hg)).trans ?_
          rw [if_neg hg]
          exact r_ret _
      exact iter_r (by exact hb)
    · rcases cut_first t ht with ⟨a, h1, h2, h3⟩ | ⟨h1, h2, h3, h4⟩
      · have hs : strings_CutSuffix (firstL t) [10] = some ((a, true, ()), ()) := by
          rw [h1, k_suffix (by simp; omega), suf_yes, trim_yes]
        obtain ⟨q1, q2⟩ := p_line (out := out) ht hs (by omega) (by omega)
        obtain ⟨v, r, hv⟩ := cutL_cons 10 (restL t)
        rw [h2, parL_go (by rw [hv]; simp)]
        cases hq : lnW (cutL 32 a) with
        | none => exact iter_r (by exact q1 hq)
        | some p =>
          refine (iter_l (by exact q2 p hq)).trans ?_
          have hp := lnW_len hq
          exact parse_it n (restL t) (out ++ [p]) (by omega) (by simp; omega) (nml_snoc ho (by omega))
      · have hw1 : IntKind.i64.wrap ((out.length : Int) + 1) = (out.length : Int) + 1 := w64' (by omega) (by omega)
        have hs : strings_CutSuffix (firstL t) [10] = some ((Lib.trimSuffix t [10], false, ()), ()) := by
          rw [h1, k_suffix (by omega), suf_no h4]
        have htl : (Lib.trimSuffix t [10]).length ≤ 1048576 := by
          unfold Lib.trimSuffix
          split
          · simp; omega
          · omega
        have hb : (T_coat_Parse_l1 t ((), [], ()) 0 0 ((), out, ())).run = some (.inr (([], (out.length : Int) + 1, 7, ()), ())) := by
          unfold T_coat_Parse_l1
          refine (br_f (decide_eq_false ht)).trans ?_
          refine (r_bs hs).trans ?_
          refine (r_bs (k_split (c := 32) htl)).trans ?_
          refine (br_t rfl).trans ?_
          dsimp only
          rw [hw1]
          exact r_ret _
        rw [h3, parL_end, if_neg ht]
        exact iter_r (by exact hb)

theorem k_Parse (s : List UInt8) (hs : s.length ≤ 1048576) : coat_Parse s = some (parS s, ()) := by
  show (T_coat_Parse s).run = _
  unfold T_coat_Parse parS
  by_cases h : 60000 < s.length
  · refine (br_t (decide_eq_true (by omega))).trans ?_
    rw [if_pos h]
    exact r_ret _
  · refine (br_f (decide_eq_false (by omega))).trans ?_
    rw [if_neg h]
    refine (r_bs (show strings_Lines s = some ((s, ()), ()) from rfl)).trans ?_
    refine (q_of (decide_eq_true rfl)).trans ?_
    refine (q_of (decide_eq_true rfl)).trans ?_
    refine (q_of (by unfold okTxt; exact decide_eq_true (by show s.length ≤ _; omega))).trans ?_
    rw [r_iter]
    exact parse_it FUEL s [] (by have := fuel_big; omega) (by simp; omega) (by simp)
end Go.Ab
