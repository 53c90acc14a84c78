/- Numbers, lengths and conic constants that are read. -/
import Derived.Test.YtpghhfnlfmlakaaGreatDoorN3
namespace Go.Ab
open Go
set_option maxRecDepth 1000000
set_option maxHeartbeats 1000000
set_option linter.unusedVariables false
set_option linter.unusedSimpArgs false

/-- What is known of a number that was read: whether it is one, and, if so, which. -/
def Got {α : Type} (o : Option α) (w : α) (b : Bool) : Prop := b = o.isSome ∧ ∀ v, o = some v → w = v
theorem got_none {α : Type} {w : α} : Got (none : Option α) w false := ⟨rfl, fun _ h => by cases h⟩
theorem got_some {α : Type} {v : α} : Got (some v) v true := ⟨rfl, fun _ h => Option.some.inj h⟩

theorem k_Itoa {n : Int} (h : -9223372036854775808 ≤ n ∧ n ≤ 9223372036854775807) : strconv_Itoa n = some ((Lib.itoa n, ()), ()) := by
  unfold strconv_Itoa
  rw [if_pos h]
theorem atoiAll_bd {s : List UInt8} {v : Int} (h : Lib.atoiAll s = .ok v) : -9223372036854775808 ≤ v ∧ v ≤ 9223372036854775807 := by
  unfold Lib.atoiAll at h
  split at h
  · cases h
  · simp only at h
    split at h
    · cases h
    · cases h
    · split at h
      · cases h
      · split at h
        · cases h
        · injection h with h
          rw [← h]
          split <;> omega
theorem atoi_ok {s : List UInt8} {v : Int} (h : Lib.atoiAll s = .ok v) (hs : s.length ≤ 1048576) : strconv_Atoi s = some ((v, true, ()), ()) := by
  unfold strconv_Atoi
  rw [if_pos (by omega), h]
theorem atoi_syn {s : List UInt8} (h1 : ∀ v, Lib.atoiAll s ≠ .ok v) (h2 : Lib.atoiAll s ≠ .range) (hs : s.length ≤ 1048576) : strconv_Atoi s = some ((0, false, ()), ()) := by
  unfold strconv_Atoi
  rw [if_pos (by omega)]
  cases h : Lib.atoiAll s with
  | ok v => exact absurd h (h1 v)
  | range => exact absurd h h2
  | _ => rfl
theorem atoi_ran {s : List UInt8} (h : Lib.atoiAll s = .range) (hs : s.length ≤ 1048576) : strconv_Atoi s = some ((Lib.atoiSat s, false, ()), ()) := by
  unfold strconv_Atoi
  rw [if_pos (by omega), h]
theorem k_trim (s : List UInt8) : strings_TrimPrefix s [45] = some ((Lib.trimPrefix s [45], ()), ()) := rfl
/-- The program's reader of numbers. -/
theorem k_integer {s : List UInt8} (hs : s.length ≤ 1048576) : ∃ w b, optics_integer s = some ((w, b, ()), ()) ∧ Got (numS s) w b := by
  show ∃ w b, (T_optics_integer s).run = _ ∧ _
  unfold T_optics_integer
  cases ha : Lib.atoiAll s with
  | range =>
    refine ⟨Lib.atoiSat s, false, (r_bs (atoi_ran ha hs)).trans ((br_f rfl).trans (r_ret _)), ?_⟩
    unfold numS; rw [ha]; exact got_none
  | ok v =>
    have hb := atoiAll_bd ha
    have ka := atoi_ok ha hs
    by_cases h1 : Lib.itoa v = s
    · refine ⟨v, decide ((Lib.trimPrefix s [45]).length ≤ 8), ?_, ?_⟩
      · refine (r_bs ka).trans ?_
        refine (br_t rfl).trans ?_
        refine (r_bs (k_Itoa hb)).trans ?_
        refine (br_t (decide_eq_true h1)).trans ?_
        refine (r_bs (k_trim s)).trans ?_
        refine (r_ret _).trans ?_
        have : decide (((Lib.trimPrefix s [45]).length : Int) ≤ 8) = decide ((Lib.trimPrefix s [45]).length ≤ 8) := by rw [decide_eq_decide]; omega
        show some ((v, decide (((Lib.trimPrefix s [45]).length : Int) ≤ 8), ()), ()) = _
        rw [this]
      · unfold numS; rw [ha]; simp only
        by_cases h2 : (Lib.trimPrefix s [45]).length ≤ 8
        · rw [if_pos ⟨h1, h2⟩, decide_eq_true h2]; exact got_some
        · rw [if_neg (fun h => h2 h.2), decide_eq_false h2]; exact got_none
    · refine ⟨v, false, ?_, ?_⟩
      · refine (r_bs ka).trans ?_
        refine (br_t rfl).trans ?_
        refine (r_bs (k_Itoa hb)).trans ?_
        refine (br_f (decide_eq_false h1)).trans ?_
        exact r_ret _
      · unfold numS; rw [ha]; simp only; rw [if_neg (fun h => h1 h.1)]; exact got_none
  | _ =>
    refine ⟨0, false, (r_bs (atoi_syn (by intro v; rw [ha]; intro e; cases e) (by rw [ha]; intro e; cases e) hs)).trans ((br_f rfl).trans (r_ret _)), ?_⟩
    unfold numS; rw [ha]; exact got_none

/-! ### Lengths -/

def unitS (s : List UInt8) : List UInt8 × Int :=
  if Lib.hasSuffix s [117, 109] = true then (Lib.trimSuffix s [117, 109], 1) else if Lib.hasSuffix s [109, 109] = true then (Lib.trimSuffix s [109, 109], 1000)
  else if Lib.hasSuffix s [109] = true then (Lib.trimSuffix s [109], 1000000) else (s, 1)
/-- A length in micrometres. -/
def lenS (s : List UInt8) : Option Int := (numS (unitS s).1).map fun n => n * (unitS s).2
/-- A number that was read, multiplied. -/
theorem Got.mulw {o : Option Int} {w : Int} {b : Bool} (t : Int) (ht : t = 1 ∨ t = 1000 ∨ t = 1000000) (h : Got o w b) (hb : ∀ v, o = some v → -100000000 < v ∧ v < 100000000) : Got (o.map fun n => n * t) (IntKind.i64.wrap (w * t)) b := by
  obtain ⟨h1, h2⟩ := h
  refine ⟨by rw [h1]; cases o <;> rfl, fun v hv => ?_⟩
  cases o with
  | none => cases hv
  | some n =>
    injection hv with hv
    have := hb n rfl
    rw [h2 n rfl, ← hv]
    exact w64' (by rcases ht with rfl | rfl | rfl <;> omega) (by rcases ht with rfl | rfl | rfl <;> omega)
theorem suf_iff {s p : List UInt8} : Lib.hasSuffix s p = true ↔ p.length ≤ s.length ∧ s.drop (s.length - p.length) = p := by
  unfold Lib.hasSuffix
  rw [List.isSuffixOf_iff_suffix]
  constructor
  · intro h
    exact ⟨h.length_le, (List.suffix_iff_eq_drop.1 h).symm⟩
  · rintro ⟨_, h⟩
    exact List.suffix_iff_eq_drop.2 h.symm
theorem k_suffix {s p : List UInt8} (hs : s.length ≤ 1048576) : strings_CutSuffix s p = some ((Lib.trimSuffix s p, Lib.hasSuffix s p, ()), ()) := by
  unfold strings_CutSuffix
  rw [if_pos (by omega)]
theorem k_length {s : List UInt8} (hs : s.length ≤ 1048576) : ∃ w b, optics_length s = some ((w, b, ()), ()) ∧ Got (lenS s) w b := by
  have tl : ∀ p : List UInt8, (Lib.trimSuffix s p).length ≤ 1048576 := fun p => by
    unfold Lib.trimSuffix; split
    · rw [List.length_take]; omega
    · exact hs
  have body : ∀ (i : Nat) (p : List UInt8) (t : Int) (l : List (List UInt8 × Int)), l = [(bUm, 1), (bMm, 1000), (bM, 1000000)] → l[i]? = some (p, t) →
      (Lib.hasSuffix s p = true → ∃ w b, (T_optics_length_l0 s 1 (i : Int)).run = some (.inr ((w, b, ()), ())) ∧ ((t = 1 ∨ t = 1000 ∨ t = 1000000) → Got ((numS (Lib.trimSuffix s p)).map fun n => n * t) w b)) ∧
      (Lib.hasSuffix s p = false → (T_optics_length_l0 s 1 (i : Int)).run = some (.inl (s, 1, ((i + 1 : Nat) : Int), ()))) := by
    intro i p t l hl hi
    have hi3 : i < 3 := by
      have := (List.getElem?_eq_some_iff.1 hi).1
      rw [hl] at this; exact this
    have hg : gi ([(bUm, 1), (bMm, 1000), (bM, 1000000)] : List (List UInt8 × Int)) (i : Int) = (p, t) := by
      rw [← hl, gi_nat (by rw [hl]; exact hi3)]
      exact (List.getElem?_eq_some_iff.1 hi).2
    unfold T_optics_length_l0
    refine ⟨fun h => ?_, fun h => ?_⟩
    · obtain ⟨w, b, k1, k2⟩ := k_integer (tl p)
      refine ⟨IntKind.i64.wrap (w * t), b, ?_, fun ht => k2.mulw t ht (fun v hv => numS_bd hv)⟩
      refine (br_t (decide_eq_true (by omega))).trans ?_
      refine (q_of (inB_t' (by omega) (by omega))).trans ?_
      rw [hg]
      refine (r_bs (k_suffix hs)).trans ?_
      refine (br_t h).trans ?_
      refine (r_bs k1).trans ?_
      exact r_ret _
    · refine (br_t (decide_eq_true (by omega))).trans ?_
      refine (q_of (inB_t' (by omega) (by omega))).trans ?_
      rw [hg]
      refine (r_bs (k_suffix hs)).trans ?_
      refine (br_f h).trans ?_
      rw [← w1 i (by omega)]
      exact r_ret _
  obtain ⟨a1, a2⟩ := body 0 [117, 109] 1 _ rfl rfl
  obtain ⟨b1, b2⟩ := body 1 [109, 109] 1000 _ rfl rfl
  obtain ⟨c1, c2⟩ := body 2 [109] 1000000 _ rfl rfl
  obtain ⟨w3, b3, k1, k2⟩ := k_integer hs
  have d : (T_optics_length_l0 s 1 ((3 : Nat) : Int)).run = some (.inr ((IntKind.i64.wrap (w3 * 1), b3, ()), ())) := by
    unfold T_optics_length_l0
    refine (br_f (decide_eq_false (by omega))).trans ?_
    refine (r_bs k1).trans ?_
    exact r_ret _
  have run : ∀ (r : (Int × Bool × Unit) × Unit), iterF (fun y : List UInt8 × Int × Int × Unit => (T_optics_length_l0 y.1 y.2.1 y.2.2.1).run) FUEL (s, 1, ((0 : Nat) : Int), ()) = some r → optics_length s = some r := fun r h => by
    show (T_optics_length s).run = _
    unfold T_optics_length
    rw [r_iter]
    exact h
  have one : ∀ (m i : Nat) (r : (Int × Bool × Unit) × Unit), (T_optics_length_l0 s 1 (i : Int)).run = some (.inr r) → iterF (fun y : List UInt8 × Int × Int × Unit => (T_optics_length_l0 y.1 y.2.1 y.2.2.1).run) (m + 1) (s, 1, (i : Int), ()) = some r := fun m i r h => by
    rw [iterF, h]
  have two : ∀ (m i : Nat) (r : (Int × Bool × Unit) × Unit), (T_optics_length_l0 s 1 (i : Int)).run = some (.inl (s, 1, ((i + 1 : Nat) : Int), ())) → iterF (fun y : List UInt8 × Int × Int × Unit => (T_optics_length_l0 y.1 y.2.1 y.2.2.1).run) m (s, 1, ((i + 1 : Nat) : Int), ()) = some r → iterF (fun y : List UInt8 × Int × Int × Unit => (T_optics_length_l0 y.1 y.2.1 y.2.2.1).run) (m + 1) (s, 1, (i : Int), ()) = some r := fun m i r h h2 => by
    rw [iterF, h]; exact h2
  obtain ⟨F, hF⟩ : ∃ F, FUEL = F + 4 := ⟨FUEL - 4, by decide⟩
  rw [hF] at run
  unfold lenS unitS
  cases h1 : Lib.hasSuffix s [117, 109] with
  | true =>
    obtain ⟨w, b, r1, r2⟩ := a1 h1
    exact ⟨w, b, run _ (one _ 0 _ r1), r2 (.inl rfl)⟩
  | false =>
    cases h2 : Lib.hasSuffix s [109, 109] with
    | true =>
      obtain ⟨w, b, r1, r2⟩ := b1 h2
      exact ⟨w, b, run _ (two _ 0 _ (a2 h1) (one _ 1 _ r1)), r2 (.inr (.inl rfl))⟩
    | false =>
      cases h3 : Lib.hasSuffix s [109] with
      | true =>
        obtain ⟨w, b, r1, r2⟩ := c1 h3
        exact ⟨w, b, run _ (two _ 0 _ (a2 h1) (two _ 1 _ (b2 h2) (one _ 2 _ r1))), r2 (.inr (.inr rfl))⟩
      | false =>
        exact ⟨_, _, run _ (two _ 0 _ (a2 h1) (two _ 1 _ (b2 h2) (two _ 2 _ (c2 h3) (one _ 3 _ d)))), k2.mulw 1 (.inl rfl) (fun v hv => numS_bd hv)⟩
end Go.Ab
