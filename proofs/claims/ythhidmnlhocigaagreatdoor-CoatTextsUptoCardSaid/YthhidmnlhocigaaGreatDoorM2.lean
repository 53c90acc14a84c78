/- Numbers, as the program and the reference read them. -/
import Derived.Test.YthhidmnlhocigaaGreatDoorM1
namespace Go.Ab
open Go
set_option maxRecDepth 1000000
set_option maxHeartbeats 1000000
set_option linter.unusedVariables false
set_option linter.unusedSimpArgs false
/-- What is known of a number that was read: whether it is one, and, if so, which. -/
def Got {α : Type} (o : Option α) (w : α) (b : Bool) : Prop := b = o.isSome ∧ ∀ v, o = some v → w = v
theorem got_none {α : Type} {w : α} : Got (none : Option α) w false := ⟨rfl, fun _ h => by cases h⟩
theorem got_some {α : Type} {v : α} : Got (some v) v true := ⟨rfl, fun _ h => Option.some.inj h⟩
theorem isDg_int {c : UInt8} : (48 ≤ (c.toNat : Int) ∧ (c.toNat : Int) ≤ 57) ↔ isDg c := by unfold isDg; omega
theorem valD_snoc (l : List UInt8) (c : UInt8) : valD 0 (l ++ [c]) = valD 0 l * 10 + (c.toNat - 48) := by rw [valD_app]; rfl
theorem head_iff {s : List UInt8} : s.head? = some 45 ↔ ∃ h : 0 < s.length, s[0] = 45 := by
  cases s with
  | nil => simp
  | cons c r => simp
theorem pow8 {k : Nat} (h : k ≤ 7) : (0 + 1) * 10 ^ k ≤ 10000000 := by
  rw [Nat.zero_add, Nat.one_mul]
  exact Nat.pow_le_pow_right (by decide) h
/-- One round of the reader of digits. -/
theorem num_step {s : List UInt8} {f i : Nat} (hl : s.length ≤ f + 7) (hi : f + i < s.length) (hd : ∀ c ∈ (s.drop f).take i, isDg c) (hc : isDg s[f + i]) :
    IntKind.i64.wrap (IntKind.i64.wrap (10 * (valD 0 ((s.drop f).take i) : Int)) + IntKind.i64.wrap (IntKind.u8.wrap ((s[f + i].toNat : Int) - 48))) = (valD 0 ((s.drop f).take (i + 1)) : Int) ∧ ∀ c ∈ (s.drop f).take (i + 1), isDg c := by
  have ht : (s.drop f).take (i + 1) = (s.drop f).take i ++ [s[f + i]] := by
    rw [List.take_add_one, List.getElem?_drop, List.getElem?_eq_getElem hi]; rfl
  have hlt := valD_lt ((s.drop f).take i) 0 hd
  have hlen : ((s.drop f).take i).length ≤ 7 := by rw [List.length_take, List.length_drop]; omega
  have hb : valD 0 ((s.drop f).take i) < 10000000 := Nat.lt_of_lt_of_le hlt (pow8 hlen)
  unfold isDg at hc
  rw [ht, valD_snoc]
  generalize valD 0 ((s.drop f).take i) = m at hb
  refine ⟨?_, ?_⟩
  · have e1 : IntKind.u8.wrap ((s[f + i].toNat : Int) - 48) = ((s[f + i].toNat - 48 : Nat) : Int) := by
      unfold IntKind.wrap
      simp only [IntKind.signed, IntKind.bits]
      simp
      omega
    rw [e1, w64' (x := 10 * (m : Int)) (by omega) (by omega), w64' (x := ((s[f + i].toNat - 48 : Nat) : Int)) (by omega) (by omega), w64' (by omega) (by omega)]
    omega
  · intro c hcm
    rcases List.mem_append.1 hcm with h | h
    · exact hd c h
    · rw [List.mem_singleton] at h; subst h; exact hc
theorem k_Number {s : List UInt8} (hs : s.length ≤ 1048576) : ∃ w b, base_Number s 7 = some ((w, b, ()), ()) ∧ Got (numS s) w b := by
  show ∃ w b, (T_base_Number s 7).run = _ ∧ _
  have bad : ∀ {t : Tr ((Int × Bool × Unit) × Unit)}, t = .ret ((0, false, ()), ()) → numS s = none → ∃ w b, t.run = some ((w, b, ()), ()) ∧ Got (numS s) w b := by
    rintro t rfl hn
    exact ⟨0, false, r_ret _, by rw [hn]; exact got_none⟩
  unfold T_base_Number
  by_cases h0 : s.length = 0
  · have hf : fromS s = 0 := by unfold fromS; rw [if_neg (by rw [head_iff]; rintro ⟨h, _⟩; omega)]
    obtain ⟨w, b, h1, h2⟩ := bad rfl (numS_none (.inl (by rw [hf]; exact h0)))
    exact ⟨w, b, (br_f (decide_eq_false (by omega))).trans ((br_t (decide_eq_true (by omega))).trans h1), h2⟩
  have hpos : 0 < s.length := by omega
  have hw8 : IntKind.i64.wrap (1 + 7) = 8 := by rw [w64' (by omega) (by omega)]; rfl
  have hw8' : IntKind.i64.wrap (0 + 7) = 7 := by rw [w64' (by omega) (by omega)]; rfl
  have e0 : gi s 0 = s[0] := gi_nat (i := 0) hpos
  by_cases h45 : s[0] = 45
  · have hf : fromS s = 1 := by unfold fromS; rw [if_pos (by rw [head_iff]; exact ⟨hpos, h45⟩)]
    have hh : s.head? = some 45 := by rw [head_iff]; exact ⟨hpos, h45⟩
    have pre : ∀ {t1 t2 t3 : Tr ((Int × Bool × Unit) × Unit)} {w b}, t1.run = some ((w, b, ()), ()) → (Tr.br (decide ((0 : Int) < (s.length : Int))) (.req (inB 0 s.length) (.br (decide (((gi s 0).toNat : Int) = 45)) t1 t2)) t3).run = some ((w, b, ()), ()) := by
      intro t1 t2 t3 w b h
      refine (br_t (decide_eq_true (by omega))).trans ?_
      refine (q_of (inB_t' (by omega) (by omega))).trans ?_
      rw [e0]
      exact (br_t (decide_eq_true ((u8_eq (c := 45) rfl).2 h45))).trans h
    by_cases h1 : s.length = 1
    · obtain ⟨w, b, r1, r2⟩ := bad rfl (numS_none (.inl (by rw [hf]; exact h1)))
      exact ⟨w, b, pre ((br_t (decide_eq_true (by omega))).trans r1), r2⟩
    by_cases h2 : 8 < s.length
    · obtain ⟨w, b, r1, r2⟩ := bad rfl (numS_none (.inr (.inl (by rw [hf]; omega))))
      exact ⟨w, b, pre ((br_f (decide_eq_false (by omega))).trans ((br_t (decide_eq_true (by rw [hw8]; omega))).trans r1)), r2⟩
    obtain ⟨r, q1, q2⟩ := iter_post (b := fun q_ : Int × Int × Unit => (T_base_Number_l0 s q_.1 q_.2.1).run) (fun i (st : Int × Int × Unit) => st = ((valD 0 ((s.drop 1).take i) : Int), (((1 + i : Nat) : Int), ())) ∧ 1 + i ≤ s.length ∧ ∀ c ∈ (s.drop 1).take i, isDg c)
      (fun r : (Int × Bool × Unit) × Unit => ∃ w b, r = ((w, b, ()), ()) ∧ Got (numS s) w b) s.length (by omega) (x0 := (0, 1, ())) (by
        rintro i st hi ⟨rfl, hil, hd⟩
        show (∃ x', (T_base_Number_l0 s _ ((1 + i : Nat) : Int)).run = _ ∧ _) ∨ (∃ r, (T_base_Number_l0 s _ ((1 + i : Nat) : Int)).run = _ ∧ _)
        unfold T_base_Number_l0
        by_cases hlt : 1 + i < s.length
        · by_cases hc : isDg s[1 + i]
          · left
            obtain ⟨n1, n2⟩ := num_step (f := 1) (by omega) hlt hd hc
            refine ⟨(_, (((1 + (i + 1) : Nat) : Int), ())), ?_, by omega, rfl, by omega, n2⟩
            refine (br_t (decide_eq_true (by omega))).trans ?_
            refine (q_of (inB_t' (by omega) (by omega))).trans ?_
            rw [gi_nat hlt]
            refine (r_bs (k_isDigit _)).trans ?_
            refine (br_f (nd (isDg_int.2 hc))).trans ?_
            refine (q_of (inB_t' (by omega) (by omega))).trans ?_
            rw [← n1, ← Nat.add_assoc, ← w1 (1 + i) (by omega)]
            exact r_ret _
          · right
            refine ⟨((0, false, ()), ()), ?_, 0, false, rfl, ?_⟩
            · refine (br_t (decide_eq_true (by omega))).trans ?_
              refine (q_of (inB_t' (by omega) (by omega))).trans ?_
              rw [gi_nat hlt]
              refine (r_bs (k_isDigit _)).trans ?_
              exact (br_t (nd' (fun h => hc (isDg_int.1 h)))).trans (r_ret _)
            · rw [numS_none (.inr (.inr ⟨s[1 + i], by rw [hf]; exact List.mem_iff_getElem?.2 ⟨i, by rw [List.getElem?_drop]; exact List.getElem?_eq_getElem hlt⟩, hc⟩))]
              exact got_none
        · right
          have : (s.drop 1).take i = s.drop 1 := List.take_of_length_le (by rw [List.length_drop]; omega)
          rw [this] at hd ⊢
          have hv : valS s = -(valD 0 (s.drop 1) : Int) := by unfold valS; rw [if_pos hh, hf]
          have hlt8 := valD_lt (s.drop 1) 0 hd
          have hb : valD 0 (s.drop 1) < 10000000 := Nat.lt_of_lt_of_le hlt8 (pow8 (by rw [List.length_drop]; omega))
          have hwr : IntKind.i64.wrap (0 - (valD 0 (s.drop 1) : Int)) = valS s := by rw [hv, w64' (by omega) (by omega)]; omega
          have hn := numS_val (s := s) (by rw [hf]; exact hd) (by rw [hf]; omega)
          refine ⟨((valS s, decide (Lib.itoa (valS s) = s), ()), ()), ?_, _, _, rfl, ?_⟩
          · refine (br_f (decide_eq_false (by omega))).trans ?_
            rw [hwr]
            exact (r_bs (k_Decimal (by rw [hv]; omega) (by rw [hv]; omega))).trans (r_ret _)
          · rw [hn]
            by_cases h : Lib.itoa (valS s) = s
            · rw [if_pos h, decide_eq_true h]; exact got_some
            · rw [if_neg h, decide_eq_false h]; exact got_none)
      ⟨rfl, by omega, by simp⟩
    obtain ⟨w, b, rfl, hg⟩ := q2
    refine ⟨w, b, pre ((br_f (decide_eq_false (by omega))).trans ((br_f (decide_eq_false (by rw [hw8]; omega))).trans ((br_f (decide_eq_false (by omega))).trans ?_))), hg⟩
    rw [r_iter]
    exact q1
  · have hf : fromS s = 0 := by unfold fromS; rw [if_neg (by rw [head_iff]; rintro ⟨_, h⟩; exact h45 h)]
    have hh : s.head? ≠ some 45 := by rw [Ne, head_iff]; rintro ⟨_, h⟩; exact h45 h
    have pre : ∀ {t1 t2 t3 : Tr ((Int × Bool × Unit) × Unit)} {w b}, t2.run = some ((w, b, ()), ()) → (Tr.br (decide ((0 : Int) < (s.length : Int))) (.req (inB 0 s.length) (.br (decide (((gi s 0).toNat : Int) = 45)) t1 t2)) t3).run = some ((w, b, ()), ()) := by
      intro t1 t2 t3 w b h
      refine (br_t (decide_eq_true (by omega))).trans ?_
      refine (q_of (inB_t' (by omega) (by omega))).trans ?_
      rw [e0]
      exact (br_f (decide_eq_false (fun e => h45 ((u8_eq (c := 45) rfl).1 e)))).trans h
    by_cases h2 : 7 < s.length
    · obtain ⟨w, b, r1, r2⟩ := bad rfl (numS_none (.inr (.inl (by rw [hf]; omega))))
      exact ⟨w, b, pre ((br_f (decide_eq_false (by omega))).trans ((br_t (decide_eq_true (by rw [hw8']; omega))).trans r1)), r2⟩
    obtain ⟨r, q1, q2⟩ := iter_post (b := fun q_ : Int × Int × Unit => (T_base_Number_l3 s q_.1 q_.2.1).run) (fun i (st : Int × Int × Unit) => st = ((valD 0 ((s.drop 0).take i) : Int), (((0 + i : Nat) : Int), ())) ∧ 0 + i ≤ s.length ∧ ∀ c ∈ (s.drop 0).take i, isDg c)
      (fun r : (Int × Bool × Unit) × Unit => ∃ w b, r = ((w, b, ()), ()) ∧ Got (numS s) w b) s.length (by omega) (x0 := (0, 0, ())) (by
        rintro i st hi ⟨rfl, hil, hd⟩
        show (∃ x', (T_base_Number_l3 s _ ((0 + i : Nat) : Int)).run = _ ∧ _) ∨ (∃ r, (T_base_Number_l3 s _ ((0 + i : Nat) : Int)).run = _ ∧ _)
        unfold T_base_Number_l3
        by_cases hlt : 0 + i < s.length
        · by_cases hc : isDg s[0 + i]
          · left
            obtain ⟨n1, n2⟩ := num_step (f := 0) (by omega) hlt hd hc
            refine ⟨(_, (((0 + (i + 1) : Nat) : Int), ())), ?_, by omega, rfl, by omega, n2⟩
            refine (br_t (decide_eq_true (by omega))).trans ?_
            refine (q_of (inB_t' (by omega) (by omega))).trans ?_
            rw [gi_nat hlt]
            refine (r_bs (k_isDigit _)).trans ?_
            refine (br_f (nd (isDg_int.2 hc))).trans ?_
            refine (q_of (inB_t' (by omega) (by omega))).trans ?_
            rw [← n1, ← Nat.add_assoc, ← w1 (0 + i) (by omega)]
            exact r_ret _
          · right
            refine ⟨((0, false, ()), ()), ?_, 0, false, rfl, ?_⟩
            · refine (br_t (decide_eq_true (by omega))).trans ?_
              refine (q_of (inB_t' (by omega) (by omega))).trans ?_
              rw [gi_nat hlt]
              refine (r_bs (k_isDigit _)).trans ?_
              exact (br_t (nd' (fun h => hc (isDg_int.1 h)))).trans (r_ret _)
            · rw [numS_none (.inr (.inr ⟨s[0 + i], by rw [hf]; exact List.mem_iff_getElem?.2 ⟨i, by rw [List.getElem?_drop]; exact List.getElem?_eq_getElem hlt⟩, hc⟩))]
              exact got_none
        · right
          have : (s.drop 0).take i = s.drop 0 := List.take_of_length_le (by rw [List.length_drop]; omega)
          rw [this] at hd ⊢
          have hv : valS s = (valD 0 (s.drop 0) : Int) := by unfold valS; rw [if_neg hh, hf]
          have hlt8 := valD_lt (s.drop 0) 0 hd
          have hb : valD 0 (s.drop 0) < 10000000 := Nat.lt_of_lt_of_le hlt8 (pow8 (by rw [List.length_drop]; omega))
          have hn := numS_val (s := s) (by rw [hf]; exact hd) (by rw [hf]; omega)
          refine ⟨((valS s, decide (Lib.itoa (valS s) = s), ()), ()), ?_, _, _, rfl, ?_⟩
          · refine (br_f (decide_eq_false (by omega))).trans ?_
            rw [← hv]
            exact (r_bs (k_Decimal (by rw [hv]; omega) (by rw [hv]; omega))).trans (r_ret _)
          · rw [hn]
            by_cases h : Lib.itoa (valS s) = s
            · rw [if_pos h, decide_eq_true h]; exact got_some
            · rw [if_neg h, decide_eq_false h]; exact got_none)
      ⟨rfl, by omega, by simp⟩
    obtain ⟨w, b, rfl, hg⟩ := q2
    refine ⟨w, b, pre ((br_f (decide_eq_false (by omega))).trans ((br_f (decide_eq_false (by rw [hw8']; omega))).trans ((br_f (decide_eq_false (by omega))).trans ?_))), hg⟩
    rw [r_iter]
    exact q1
theorem k_Itoa {n : Int} (h : -9223372036854775808 ≤ n ∧ n ≤ 9223372036854775807) : strconv_Itoa n = some ((Lib.itoa n, ()), ()) := by
  unfold strconv_Itoa
  rw [if_pos h]
theorem atoiAll_bd {s : List UInt8} {v : Int} (h : Lib.atoiAll s = .ok v) : -9223372036854775808 ≤ v ∧ v ≤ 9223372036854775807 := by
  unfold Lib.atoiAll at h
  split at h
  · cases h
  · simp only at h
    split at h
    · cases h
    · cases h
    · split at h
      · cases h
      · split at h
        · cases h
        · injection h with h
          rw [← h]
          split <;> omega
theorem atoi_ok {s : List UInt8} {v : Int} (h : Lib.atoiAll s = .ok v) (hs : s.length ≤ 1048576) : strconv_Atoi s = some ((v, true, ()), ()) := by
  unfold strconv_Atoi
  rw [if_pos (by omega), h]
theorem atoi_syn {s : List UInt8} (h1 : ∀ v, Lib.atoiAll s ≠ .ok v) (h2 : Lib.atoiAll s ≠ .range) (hs : s.length ≤ 1048576) : strconv_Atoi s = some ((0, false, ()), ()) := by
  unfold strconv_Atoi
  rw [if_pos (by omega)]
  cases h : Lib.atoiAll s with
  | ok v => exact absurd h (h1 v)
  | range => exact absurd h h2
  | _ => rfl
theorem atoi_ran {s : List UInt8} (h : Lib.atoiAll s = .range) (hs : s.length ≤ 1048576) : strconv_Atoi s = some ((Lib.atoiSat s, false, ()), ()) := by
  unfold strconv_Atoi
  rw [if_pos (by omega), h]
theorem k_trim (s : List UInt8) : strings_TrimPrefix s [45] = some ((Lib.trimPrefix s [45], ()), ()) := rfl
/-- A number that was read, multiplied. -/
theorem Got.mulw {o : Option Int} {w : Int} {b : Bool} (t : Int) (ht : t = 1 ∨ t = 1000 ∨ t = 1000000) (h : Got o w b) (hb : ∀ v, o = some v → -10000000 < v ∧ v < 10000000) : Got (o.map fun n => n * t) (IntKind.i64.wrap (w * t)) b := by
  obtain ⟨h1, h2⟩ := h
  refine ⟨by rw [h1]; cases o <;> rfl, fun v hv => ?_⟩
  cases o with
  | none => cases hv
  | some n =>
    injection hv with hv
    have := hb n rfl
    rw [h2 n rfl, ← hv]
    exact w64' (by rcases ht with rfl | rfl | rfl <;> omega) (by rcases ht with rfl | rfl | rfl <;> omega)
theorem suf_iff {s p : List UInt8} : Lib.hasSuffix s p = true ↔ p.length ≤ s.length ∧ s.drop (s.length - p.length) = p := by
  unfold Lib.hasSuffix
  rw [List.isSuffixOf_iff_suffix]
  constructor
  · intro h
    exact ⟨h.length_le, (List.suffix_iff_eq_drop.1 h).symm⟩
  · rintro ⟨_, h⟩
    exact List.suffix_iff_eq_drop.2 h.symm
theorem trim_suf {s p : List UInt8} (h : Lib.hasSuffix s p = true) : Lib.trimSuffix s p = s.take (s.length - p.length) := by
  unfold Lib.trimSuffix
  rw [if_pos h]
theorem k_suffix {s p : List UInt8} (hs : s.length ≤ 1048576) : strings_CutSuffix s p = some ((Lib.trimSuffix s p, Lib.hasSuffix s p, ()), ()) := by
  unfold strings_CutSuffix
  rw [if_pos (by omega)]
end Go.Ab
