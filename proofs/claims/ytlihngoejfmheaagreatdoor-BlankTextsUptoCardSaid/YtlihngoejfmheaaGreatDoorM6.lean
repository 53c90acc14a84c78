/- Reading a blank's whole text. -/
import Derived.Test.YtlihngoejfmheaaGreatDoorM5
namespace Go.Ab
open Go
set_option maxRecDepth 1000000
set_option maxHeartbeats 4000000
set_option linter.unusedVariables false
set_option linter.unusedSimpArgs false

abbrev PRes := Gla × Int × Int × Unit
def zG : Gla := (0, 0, [], [])
def lineS (first : Bool) (g : Gla) (x : List UInt8) : Option Gla := match cutL 32 x with
  | w0 :: rest => lineW first g w0 rest
  | [] => none
def endS (g : Gla) : PRes := if glE g = 0 then (g, 0, 0, ()) else (zG, 0, glE g, ())
def parL : Nat → Gla → List (List UInt8) → PRes
  | i, g, [] => (zG, (i : Int) + 1, 7, ())
  | i, g, x :: r => match r with
    | [] => if x = [] ∧ i ≠ 0 then endS g else (zG, (i : Int) + 1, 7, ())
    | _ :: _ => match lineS (decide (i = 0)) g x with
      | none => (zG, (i : Int) + 1, 7, ())
      | some g' => parL (i + 1) g' r
def parS (s : List UInt8) : PRes := if 60000 < s.length then (zG, 0, 8, ()) else parL 0 zG (cutL 10 s)

theorem cutL_cons (c : UInt8) : ∀ s : List UInt8, ∃ w r, cutL c s = w :: r
  | [] => ⟨[], [], rfl⟩
  | b :: s => by
    obtain ⟨w, r, h⟩ := cutL_cons c s
    by_cases e : b = c
    · exact ⟨[], cutL c s, by rw [e, cutL_hit]⟩
    · exact ⟨b :: w, r, cutL_ne e h⟩
theorem parL_go {i : Nat} {g : Gla} {x : List UInt8} {r : List (List UInt8)} (h : r ≠ []) : parL i g (x :: r) = match lineS (decide (i = 0)) g x with
      | none => (zG, (i : Int) + 1, 7, ())
      | some g' => parL (i + 1) g' r := by
  cases r with
  | nil => exact absurd rfl h
  | cons y r => rfl
theorem parL_end {i : Nat} {g : Gla} {x : List UInt8} : parL i g [x] = if x = [] ∧ i ≠ 0 then endS g else (zG, (i : Int) + 1, 7, ()) := rfl
theorem cut_first : ∀ t : List UInt8, t ≠ [] → (∃ a, firstL t = a ++ [10] ∧ cutL 10 t = a :: cutL 10 (restL t) ∧ a.length + 1 + (restL t).length = t.length) ∨ (firstL t = t ∧ restL t = [] ∧ cutL 10 t = [t] ∧ (10 : UInt8) ∉ t)
  | [], h => absurd rfl h
  | c :: r, _ => by
    by_cases e : c = 10
    · subst e
      refine .inl ⟨[], ?_, ?_, ?_⟩
      · simp [firstL]
      · rw [cutL_hit]; simp [restL]
      · simp [restL]; omega
    · have ef : firstL (c :: r) = c :: firstL r := by rw [firstL, if_neg e]
      have er : restL (c :: r) = restL r := by rw [restL, if_neg e]
      by_cases hr : r = []
      · subst hr
        refine .inr ⟨ef, er, cutL_ne e rfl, ?_⟩
        simp; exact fun h => e h.symm
      · rcases cut_first r hr with ⟨a, h1, h2, h3⟩ | ⟨h1, h2, h3, h4⟩
        · refine .inl ⟨c :: a, by rw [ef, h1]; rfl, by rw [er]; exact cutL_ne e h2, by rw [er]; simp; omega⟩
        · refine .inr ⟨by rw [ef, h1], by rw [er, h2], cutL_ne e h3, ?_⟩
          simp; exact ⟨fun h => e h.symm, h4⟩
theorem suf_yes (a : List UInt8) : Lib.hasSuffix (a ++ [10]) [10] = true := by
  unfold Lib.hasSuffix; rw [List.isSuffixOf_iff_suffix]; exact ⟨a, rfl⟩
theorem suf_no {t : List UInt8} (h : (10 : UInt8) ∉ t) : Lib.hasSuffix t [10] = false := by
  cases hb : Lib.hasSuffix t [10] with
  | false => rfl
  | true =>
    unfold Lib.hasSuffix at hb
    rw [List.isSuffixOf_iff_suffix] at hb
    obtain ⟨a, e⟩ := hb
    exact absurd (by rw [← e]; simp) h
theorem trim_yes (a : List UInt8) : Lib.trimSuffix (a ++ [10]) [10] = a := by
  rw [trim_suf (suf_yes a)]; simp

theorem lineW_len {f : Bool} {g g' : Gla} {w0 : List UInt8} {rest : List (List UInt8)} (h : lineW f g w0 rest = some g') : g'.2.2.1.length ≤ g.2.2.1.length + 1 ∧ g'.2.2.2.length ≤ g.2.2.2.length + 1 := by
  have pG : ∀ {g' : Gla}, lnGlass g rest = some g' → g'.2.2.1.length ≤ g.2.2.1.length + 1 ∧ g'.2.2.2.length ≤ g.2.2.2.length + 1 := by
    intro g' h
    unfold lnGlass at h
    split at h
    · injection h with h; subst h; exact ⟨by simp, by simp⟩
    · cases h
  have pP : ∀ {b : Bool} {g' : Gla}, lnPart g b rest = some g' → g'.2.2.1.length ≤ g.2.2.1.length + 1 ∧ g'.2.2.2.length ≤ g.2.2.2.length + 1 := by
    intro b g' h
    unfold lnPart at h
    split at h
    · split at h
      · injection h with h; subst h; exact ⟨by simp, by simp⟩
      · cases h
    · cases h
  have pC : ∀ {b : Bool} {g' : Gla}, lnCap g b rest = some g' → g'.2.2.1.length ≤ g.2.2.1.length + 1 ∧ g'.2.2.2.length ≤ g.2.2.2.length + 1 := by
    intro b g' h
    unfold lnCap at h
    split at h
    · split at h
      · split at h
        · injection h with h; subst h; exact ⟨by simp, by simp⟩
        · cases h
      · cases h
    · cases h
  unfold lineW at h
  repeat' split at h
  all_goals first
    | exact pG h
    | exact pP h
    | exact pC h
    | cases h

theorem iter_l {σ ρ : Type} {body : σ → Option (σ ⊕ ρ)} {n : Nat} {x x' : σ} (h : body x = some (.inl x')) : iterF body (n + 1) x = iterF body n x' := by rw [iterF, h]
theorem iter_r {σ ρ : Type} {body : σ → Option (σ ⊕ ρ)} {n : Nat} {x : σ} {r : ρ} (h : body x = some (.inr r)) : iterF body (n + 1) x = some r := by rw [iterF, h]
abbrev BG (g : Gla) : (Int × Int) × List Prt × List Cap × Unit := ((g.1, g.2.1), g.2.2.1, g.2.2.2, ())
abbrev BZ : (Int × Int) × List Prt × List Cap × Unit := ((0, 0), [], [], ())

theorem parse_it : ∀ (n : Nat) (t : List UInt8) (i : Nat) (g : Gla), t.length < n → i + t.length ≤ 60000 → g.2.2.1.length ≤ i → g.2.2.2.length ≤ i →
    iterF (fun q_ : List UInt8 × Int × ((Int × Int) × List Prt × List Cap × Unit) × ((Int × Int) × List Prt × List Cap × Unit) × Int × Int × Unit => (T_blank_Parse_l1 q_.1 q_.2.1 q_.2.2.1 q_.2.2.2.1 q_.2.2.2.2.1 q_.2.2.2.2.2.1).run) n (t, (i : Int), BG g, BZ, 0, 0, ()) = some (parL i g (cutL 10 t), ())
  | 0, t, i, g, h, _, _, _ => absurd h (by omega)
  | n + 1, t, i, g, hn, hi, hp, hc => by
    by_cases ht : t = []
    · subst ht
      have hb : (T_blank_Parse_l1 [] (i : Int) (BG g) BZ 0 0).run = some (.inr (parL i g (cutL 10 []), ())) := by
        unfold T_blank_Parse_l1
        refine (br_t rfl).trans ?_
        show _ = some (Sum.inr (parL i g [[]], ()))
        rw [parL_end]
        by_cases h0 : i = 0
        · refine (br_t (decide_eq_true (by omega))).trans ?_
          rw [if_neg (by rintro ⟨_, h⟩; exact h h0), h0]
          exact r_ret _
        · refine (br_f (decide_eq_false (by omega))).trans ?_
          rw [if_pos ⟨rfl, h0⟩]
          refine (r_bs (k_CheckGlass g)).trans ?_
          unfold endS
          by_cases hg : glE g = 0
          · refine (br_f (nd hg)).trans ?_
            rw [if_pos hg]
            exact r_ret _
          · refine (br_t (nd' hg)).trans ?_
            rw [if_neg hg]
            exact r_ret _
      refine (iter_r (by exact hb)).trans ?_
      rfl
    · have hw1 : IntKind.i64.wrap ((i : Int) + 1) = (i : Int) + 1 := w64' (by omega) (by omega)
      rcases cut_first t ht with ⟨a, h1, h2, h3⟩ | ⟨h1, h2, h3, h4⟩
      · have hs : strings_CutSuffix (firstL t) [10] = some ((a, true, ()), ()) := by
          rw [h1, k_suffix (by simp; omega), suf_yes, trim_yes]
        obtain ⟨w0, rest, hc2⟩ := cutL_cons 32 a
        have hsp : strings_Split a [32] = some ((w0 :: rest, ()), ()) := by rw [k_split (by omega), hc2]
        have hl := cutL_len 32 a
        rw [hc2, List.length_cons] at hl
        have hrd := k_read (g := g) (num := (i : Int) + 1) hsp (by omega) (fun w hw => by have := cutL_mem 32 a w (by rw [hc2]; exact List.mem_cons_of_mem _ hw); omega) (by omega) (by omega)
        have e1 : decide ((i : Int) + 1 = 1) = decide (i = 0) := decide_eq_decide.2 (by omega)
        rw [e1] at hrd
        have e2 : lineS (decide (i = 0)) g a = lineW (decide (i = 0)) g w0 rest := by unfold lineS; rw [hc2]
        obtain ⟨v, r, hv⟩ := cutL_cons 10 (restL t)
        rw [h2, parL_go (by rw [hv]; simp), e2]
        cases hq : lineW (decide (i = 0)) g w0 rest with
        | none =>
          rw [hq] at hrd
          obtain ⟨y, hy⟩ := hrd
          have hb : (T_blank_Parse_l1 t (i : Int) (BG g) BZ 0 0).run = some (.inr ((zG, (i : Int) + 1, 7, ()), ())) := by
            unfold T_blank_Parse_l1
            refine (br_f (decide_eq_false ht)).trans ?_
            refine (r_bs hs).trans ?_
            refine (br_f rfl).trans ?_
            rw [hw1]
            refine (r_bs hy).trans ?_
            refine (br_t rfl).trans ?_
            exact r_ret _
          refine (iter_r (by exact hb)).trans ?_
          rfl
        | some g' =>
          rw [hq] at hrd
          have hy : blank_read a ((i : Int) + 1) (BG g) (g.2.2.1.length : Int) (g.2.2.2.length : Int) = some ((true, ()), outB g') := hrd
          have hb : (T_blank_Parse_l1 t (i : Int) (BG g) BZ 0 0).run = some (.inl (restL t, (i : Int) + 1, BG g', BZ, 0, 0, ())) := by
            unfold T_blank_Parse_l1
            refine (br_f (decide_eq_false ht)).trans ?_
            refine (r_bs hs).trans ?_
            refine (br_f rfl).trans ?_
            rw [hw1]
            refine (r_bs hy).trans ?_
            refine (br_f rfl).trans ?_
            refine (q_of (decide_eq_true rfl)).trans ?_
            refine (q_of (decide_eq_true rfl)).trans ?_
            refine (q_of (decide_eq_true rfl)).trans ?_
            refine (q_of (decide_eq_true rfl)).trans ?_
            refine (q_of (decide_eq_true rfl)).trans ?_
            exact r_ret _
          obtain ⟨b1, b2⟩ := lineW_len hq
          refine (iter_l (by exact hb)).trans ?_
          have := parse_it n (restL t) (i + 1) g' (by omega) (by omega) (by omega) (by omega)
          rw [show ((i + 1 : Nat) : Int) = (i : Int) + 1 by omega] at this
          exact this
      · have hs : strings_CutSuffix (firstL t) [10] = some ((Lib.trimSuffix t [10], false, ()), ()) := by
          rw [h1, k_suffix (by omega), suf_no h4]
        have hb : (T_blank_Parse_l1 t (i : Int) (BG g) BZ 0 0).run = some (.inr ((zG, (i : Int) + 1, 7, ()), ())) := by
          unfold T_blank_Parse_l1
          refine (br_f (decide_eq_false ht)).trans ?_
          refine (r_bs hs).trans ?_
          refine (br_t rfl).trans ?_
          rw [hw1]
          exact r_ret _
        refine (iter_r (by exact hb)).trans ?_
        rw [h3, parL_end, if_neg (by rintro ⟨h, _⟩; exact ht h)]

theorem k_Parse (s : List UInt8) (hs : s.length ≤ 1048576) : blank_Parse s = some (parS s, ()) := by
  show (T_blank_Parse s).run = _
  unfold T_blank_Parse parS
  by_cases h : 60000 < s.length
  · refine (br_t (decide_eq_true (by omega))).trans ?_
    rw [if_pos h]
    exact r_ret _
  · refine (br_f (decide_eq_false (by omega))).trans ?_
    rw [if_neg h]
    refine (r_bs (show strings_Lines s = some ((s, ()), ()) from rfl)).trans ?_
    refine (q_of (decide_eq_true rfl)).trans ?_
    refine (q_of (decide_eq_true rfl)).trans ?_
    refine (q_of (decide_eq_true rfl)).trans ?_
    refine (q_of (decide_eq_true rfl)).trans ?_
    refine (q_of (by unfold okTxt; exact decide_eq_true (by show s.length ≤ _; omega))).trans ?_
    rw [r_iter]
    exact parse_it FUEL s 0 zG (by have := fuel_big; omega) (by omega) (by simp [zG]) (by simp [zG])

theorem ref_it {L : List (List UInt8)} (hL : L ≠ []) (hl : L.length ≤ 60001) (hw : ∀ w ∈ L, w.length ≤ 60000) : ∀ (n : Nat) (i : Nat) (g : Gla), L.length - i < n → i < L.length → g.2.2.1.length ≤ i → g.2.2.2.length ≤ i →
    iterF (fun q_ : Int × ((Int × Int) × List Prt × List Cap × Unit) × ((Int × Int) × List Prt × List Cap × Unit) × Unit => (T_ref03xParse_l1 ((L, ()), ()) q_.1 q_.2.1 q_.2.2.1).run) n ((i : Int), BG g, BZ, ()) = some (parL i g (L.drop i), ())
  | 0, i, g, h, _, _, _ => absurd h (by omega)
  | n + 1, i, g, hn, hi, hp, hc => by
    have hwl : IntKind.i64.wrap ((L.length : Int) - 1) = ((L.length - 1 : Nat) : Int) := by rw [w64' (by omega) (by omega)]; omega
    have hw1 : IntKind.i64.wrap ((i : Int) + 1) = (i : Int) + 1 := w64' (by omega) (by omega)
    by_cases he : i + 1 = L.length
    · have hd : L.drop i = [L[i]] := by rw [List.drop_eq_getElem_cons hi, List.drop_of_length_le (by omega)]
      have hgi : gi L (IntKind.i64.wrap ((L.length : Int) - 1)) = L[i] := by
        rw [hwl, gi_nat (by omega)]
        have : L.length - 1 = i := by omega
        simp only [this]
      have hb : (T_ref03xParse_l1 ((L, ()), ()) (i : Int) (BG g) BZ).run = some (.inr (parL i g (L.drop i), ())) := by
        unfold T_ref03xParse_l1
        refine (br_f (decide_eq_false (by show ¬ (i : Int) < IntKind.i64.wrap ((L.length : Int) - 1); rw [hwl]; omega))).trans ?_
        refine (q_of (by show inB (IntKind.i64.wrap ((L.length : Int) - 1)) L.length = true; rw [hwl]; exact inB_t' (by omega) (by omega))).trans ?_
        rw [hd, parL_end]
        by_cases hx : L[i] = []
        · refine (br_f (nd (show gi L (IntKind.i64.wrap ((L.length : Int) - 1)) = [] from hgi.trans hx))).trans ?_
          by_cases h0 : i = 0
          · refine (br_t (decide_eq_true (show (L.length : Int) = 1 by omega))).trans ?_
            rw [if_neg (by rintro ⟨_, h⟩; exact h h0)]
            refine (r_ret _).trans ?_
            show some (Sum.inr ((zG, (L.length : Int), 7, ()), ())) = _
            rw [← he]
            rfl
          · refine (br_f (decide_eq_false (show ¬ (L.length : Int) = 1 by omega))).trans ?_
            rw [if_pos ⟨hx, h0⟩]
            refine (r_bs (k_rCheckGlass g)).trans ?_
            unfold endS
            by_cases hg : glE g = 0
            · refine (br_f (nd hg)).trans ?_
              rw [if_pos hg]
              exact r_ret _
            · refine (br_t (nd' hg)).trans ?_
              rw [if_neg hg]
              exact r_ret _
        · refine (br_t (nd' (show ¬ gi L (IntKind.i64.wrap ((L.length : Int) - 1)) = [] from fun h => hx (hgi.symm.trans h)))).trans ?_
          rw [if_neg (by rintro ⟨h, _⟩; exact hx h)]
          refine (r_ret _).trans ?_
          show some (Sum.inr ((zG, (L.length : Int), 7, ()), ())) = _
          rw [← he]
          rfl
      refine (iter_r (by exact hb)).trans ?_
      rfl
    · have hd : L.drop i = L[i] :: L.drop (i + 1) := List.drop_eq_getElem_cons hi
      have hne : L.drop (i + 1) ≠ [] := by intro h; have := congrArg List.length h; simp at this; omega
      have hgi : gi L (i : Int) = L[i] := gi_nat hi
      have ha := hw _ (List.getElem_mem hi)
      obtain ⟨w0, rest, hc2⟩ := cutL_cons 32 L[i]
      have hsp : base_Cut L[i] 32 = some ((w0 :: rest, ()), ()) := (k_Cut (c := 32) rfl (by omega)).trans (by rw [hc2])
      have hll := cutL_len 32 L[i]
      rw [hc2, List.length_cons] at hll
      have hrd := k_line (g := g) (num := (i : Int)) hsp (by omega) (fun w hw => by have := cutL_mem 32 L[i] w (by rw [hc2]; exact List.mem_cons_of_mem _ hw); omega) (by omega) (by omega)
      have e1 : decide ((i : Int) = 0) = decide (i = 0) := decide_eq_decide.2 (by omega)
      rw [e1] at hrd
      have e2 : lineS (decide (i = 0)) g L[i] = lineW (decide (i = 0)) g w0 rest := by unfold lineS; rw [hc2]
      rw [hd, parL_go hne, e2]
      have hlt : decide ((i : Int) < IntKind.i64.wrap ((L.length : Int) - 1)) = true := decide_eq_true (by rw [hwl]; omega)
      cases hq : lineW (decide (i = 0)) g w0 rest with
      | none =>
        rw [hq] at hrd
        obtain ⟨y, hy⟩ := hrd
        rw [← hgi] at hy
        have hb : (T_ref03xParse_l1 ((L, ()), ()) (i : Int) (BG g) BZ).run = some (.inr ((zG, (i : Int) + 1, 7, ()), ())) := by
          unfold T_ref03xParse_l1
          refine (br_t hlt).trans ?_
          refine (q_of (inB_t' (by omega) (by show (i : Int) < L.length; omega))).trans ?_
          refine (r_bs hy).trans ?_
          refine (br_t rfl).trans ?_
          rw [hw1]
          exact r_ret _
        refine (iter_r (by exact hb)).trans ?_
        rfl
      | some g' =>
        rw [hq] at hrd
        have hy : ref03xline (gi L (i : Int)) (i : Int) (BG g) (g.2.2.1.length : Int) (g.2.2.2.length : Int) = some ((true, ()), outB g') := by rw [hgi]; exact hrd
        have hb : (T_ref03xParse_l1 ((L, ()), ()) (i : Int) (BG g) BZ).run = some (.inl ((i : Int) + 1, BG g', BZ, ())) := by
          unfold T_ref03xParse_l1
          refine (br_t hlt).trans ?_
          refine (q_of (inB_t' (by omega) (by show (i : Int) < L.length; omega))).trans ?_
          refine (r_bs hy).trans ?_
          refine (br_f rfl).trans ?_
          refine (q_of (decide_eq_true rfl)).trans ?_
          refine (q_of (decide_eq_true rfl)).trans ?_
          refine (q_of (decide_eq_true rfl)).trans ?_
          refine (q_of (decide_eq_true rfl)).trans ?_
          rw [hw1]
          exact r_ret _
        obtain ⟨b1, b2⟩ := lineW_len hq
        refine (iter_l (by exact hb)).trans ?_
        have := ref_it hL hl hw n (i + 1) g' (by omega) (by omega) (by omega) (by omega)
        rw [show ((i + 1 : Nat) : Int) = (i : Int) + 1 by omega] at this
        exact this

theorem k_rParse (s : List UInt8) (hs : s.length ≤ 1048576) : ref03xParse s = some (parS s, ()) := by
  show (T_ref03xParse s).run = _
  unfold T_ref03xParse parS
  by_cases h : 60000 < s.length
  · refine (br_t (decide_eq_true (by omega))).trans ?_
    rw [if_pos h]
    exact r_ret _
  · refine (br_f (decide_eq_false (by omega))).trans ?_
    rw [if_neg h]
    refine (r_bs (k_Cut (c := 10) rfl hs)).trans ?_
    refine (q_of (decide_eq_true rfl)).trans ?_
    refine (q_of (decide_eq_true rfl)).trans ?_
    refine (q_of (decide_eq_true rfl)).trans ?_
    refine (q_of (decide_eq_true rfl)).trans ?_
    rw [r_iter]
    obtain ⟨w, r, e⟩ := cutL_cons 10 s
    have hl := cutL_len 10 s
    exact ref_it (by rw [e]; simp) (by omega) (fun w hw => by have := cutL_mem 10 s w hw; omega) FUEL 0 zG (by have := fuel_big; omega) (by rw [e]; simp) (by simp [zG]) (by simp [zG])
end Go.Ab
