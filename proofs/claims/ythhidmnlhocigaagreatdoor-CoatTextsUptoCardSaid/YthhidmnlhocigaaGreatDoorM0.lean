/- Decimal numerals: what the library's reader makes of what its writer wrote. No program in sight. -/
import Derived.Lib.AtoiAll
import Derived.Lib.ItoaMem
import Derived.Lib.Strings
namespace Go.Ab
open Go
set_option linter.unusedVariables false
set_option linter.unusedSimpArgs false

def isDg (c : UInt8) : Prop := 48 ≤ c.toNat ∧ c.toNat ≤ 57
instance (c : UInt8) : Decidable (isDg c) := inferInstanceAs (Decidable (_ ∧ _))
/-- The number that digits spell behind others. -/
def valD (acc : Nat) : List UInt8 → Nat
  | [] => acc
  | c :: r => valD (acc * 10 + (c.toNat - 48)) r
theorem valD_app (a b : List UInt8) : ∀ acc, valD acc (a ++ b) = valD (valD acc a) b := by
  induction a with
  | nil => intro acc; rfl
  | cons c r ih => intro acc; exact ih _
theorem dig_nat {k : Nat} (h : k < 10) : (UInt8.ofNat (48 + k)).toNat = 48 + k := by
  rw [UInt8.toNat_ofNat']; omega
theorem dec_dg (u : Nat) : ∀ c ∈ Lib.decDigits u, isDg c := by
  induction u using Nat.strongRecOn with
  | _ u ih =>
    intro c hc
    rw [Lib.decDigits] at hc
    split at hc
    · rename_i h
      have hc := List.mem_singleton.1 hc
      subst hc
      unfold isDg
      rw [dig_nat h]; omega
    · rename_i h
      rcases List.mem_append.1 hc with hc | hc
      · exact ih _ (by omega) c hc
      · have hc := List.mem_singleton.1 hc
        subst hc
        unfold isDg
        rw [dig_nat (Nat.mod_lt u (by decide))]; omega
theorem dec_val (u : Nat) : valD 0 (Lib.decDigits u) = u := by
  induction u using Nat.strongRecOn with
  | _ u ih =>
    rw [Lib.decDigits]
    split
    · rename_i h
      show 0 * 10 + ((UInt8.ofNat (48 + u)).toNat - 48) = u
      rw [dig_nat h]; omega
    · rename_i h
      rw [valD_app, ih _ (by omega)]
      show u / 10 * 10 + ((UInt8.ofNat (48 + u % 10)).toNat - 48) = u
      rw [dig_nat (by omega)]; omega
theorem dec_ne (u : Nat) : Lib.decDigits u ≠ [] := by
  intro h
  have := Lib.decDigits_length u
  have := Lib.nDigits_pos u
  rw [h] at *
  simp at *
  omega
theorem valD_ge : ∀ (l : List UInt8) (acc : Nat), acc ≤ valD acc l
  | [], acc => Nat.le_refl _
  | c :: r, acc => Nat.le_trans (by omega) (valD_ge r _)
theorem parse_dg : ∀ (l : List UInt8) (acc : Nat), (∀ c ∈ l, isDg c) → valD acc l < 1000000000000000000 → Lib.parseUint10 acc l = .ok (valD acc l)
  | [], acc, _, _ => rfl
  | c :: r, acc, h, hv => by
    have hc := h c (by simp)
    have hge := valD_ge r (acc * 10 + (c.toNat - 48))
    have hv' : valD (acc * 10 + (c.toNat - 48)) r < 1000000000000000000 := hv
    unfold isDg at hc
    rw [Lib.parseUint10, if_pos hc, if_neg (by omega), if_neg (by omega)]
    exact parse_dg r _ (fun d hd => h d (by simp [hd])) hv'
theorem atoi_itoa {n : Int} (h1 : -1000000000000000000 < n) (h2 : n < 1000000000000000000) : Lib.atoiAll (Lib.itoa n) = .ok n := by
  have hm : ∀ u : Nat, u < 1000000000000000000 → Lib.parseMag (Lib.decDigits u) = .ok u := fun u hu => by
    unfold Lib.parseMag
    rw [if_neg (dec_ne u), parse_dg _ _ (dec_dg u) (by rw [dec_val]; exact hu), dec_val]
  unfold Lib.itoa
  split
  · rename_i hn
    unfold Lib.atoiAll
    have e45 : (45 : UInt8).toNat = 45 := rfl
    simp only [e45]
    rw [if_pos (Or.inr trivial), hm _ (by omega)]
    simp only
    rw [if_neg (by simp), if_neg (by rintro ⟨_, h⟩; omega), if_pos trivial]
    congr 1; omega
  · rename_i hn
    have hd := hm n.toNat (by omega)
    cases hl : Lib.decDigits n.toNat with
    | nil => exact absurd hl (dec_ne _)
    | cons c r =>
      have hc : isDg c := dec_dg n.toNat c (by rw [hl]; simp)
      unfold isDg at hc
      rw [hl] at hd
      unfold Lib.atoiAll
      simp only
      rw [if_neg (by omega), hd]
      simp only
      rw [if_neg (by omega), if_neg (by omega), if_neg (by omega)]
      congr 1; omega

/-- The number of at most eight digits that a text is. -/
def numS (s : List UInt8) : Option Int := match Lib.atoiAll s with
  | .ok v => if Lib.itoa v = s ∧ (Lib.trimPrefix s [45]).length ≤ 7 then some v else none
  | _ => none
theorem numS_itoa {s : List UInt8} {v : Int} (h : numS s = some v) : Lib.itoa v = s ∧ (Lib.trimPrefix s [45]).length ≤ 7 := by
  unfold numS at h
  split at h
  · split at h
    · injection h with h; subst h; assumption
    · cases h
  · cases h
theorem itoa_head (v : Int) : (Lib.itoa v).head? = some 45 ↔ v < 0 := by
  unfold Lib.itoa
  split
  · simp; assumption
  · rename_i h
    refine ⟨fun e => ?_, fun e => absurd e h⟩
    exfalso
    have := dec_dg v.toNat 45 (List.mem_of_mem_head? (by rw [e]; simp))
    unfold isDg at this
    exact absurd this.1 (by decide)
theorem trimPrefix_pos {s : List UInt8} (h : s.head? = some 45) : Lib.trimPrefix s [45] = s.drop 1 := by
  cases s with
  | nil => cases h
  | cons c r =>
    simp at h; subst h
    unfold Lib.trimPrefix
    rw [if_pos (by simp [Lib.hasPrefix])]
    rfl
theorem trimPrefix_neg {s : List UInt8} (h : s.head? ≠ some 45) : Lib.trimPrefix s [45] = s := by
  unfold Lib.trimPrefix
  rw [if_neg]
  cases s with
  | nil => simp [Lib.hasPrefix]
  | cons c r =>
    simp at h
    simp [Lib.hasPrefix, Ne.symm h]
theorem pow_of_nDigits {u k : Nat} (h : Lib.nDigits u ≤ k) : u < 10 ^ k :=
  Nat.lt_of_lt_of_le (Lib.lt_pow_nDigits u) (Nat.pow_le_pow_right (by decide) h)
theorem numS_bd {s : List UInt8} {v : Int} (h : numS s = some v) : -10000000 < v ∧ v < 10000000 := by
  obtain ⟨h1, h2⟩ := numS_itoa h
  by_cases hv : v < 0
  · rw [trimPrefix_pos (by rw [← h1]; exact (itoa_head v).2 hv), ← h1] at h2
    unfold Lib.itoa at h2
    rw [if_pos hv] at h2
    simp only [List.drop_succ_cons, List.drop_zero, Lib.decDigits_length] at h2
    have := pow_of_nDigits h2
    omega
  · rw [trimPrefix_neg (by rw [← h1]; intro e; exact hv ((itoa_head v).1 e)), ← h1] at h2
    unfold Lib.itoa at h2
    rw [if_neg hv, Lib.decDigits_length] at h2
    have := pow_of_nDigits h2
    omega
theorem nDigits_le8 {u : Nat} (h : u < 10000000) : Lib.nDigits u ≤ 7 := by
  by_cases h8 : Lib.nDigits u ≤ 7
  · exact h8
  · exfalso
    have key : ∀ (k u : Nat), k < Lib.nDigits u → k = 0 ∨ 10 ^ k ≤ u := by
      intro k
      induction k with
      | zero => intro u _; exact .inl rfl
      | succ k ih =>
        intro u hu
        right
        by_cases hs : u < 10
        · rw [Lib.nDigits_small hs] at hu; omega
        · rw [Lib.nDigits_big hs] at hu
          rcases ih (u / 10) (by omega) with hk | hk
          · subst hk; simpa using (Nat.not_lt.mp hs)
          · rw [Nat.pow_succ]; omega
    rcases key 7 u (by omega) with h' | h'
    · cases h'
    · omega
/-- What is a number of eight digits is read. -/
theorem numS_of {n : Int} (h1 : -10000000 < n) (h2 : n < 10000000) : numS (Lib.itoa n) = some n := by
  unfold numS
  rw [atoi_itoa (by omega) (by omega)]
  simp only
  refine if_pos ⟨trivial, ?_⟩
  by_cases hv : n < 0
  · rw [trimPrefix_pos ((itoa_head n).2 hv)]
    unfold Lib.itoa
    rw [if_pos hv]
    simp only [List.drop_succ_cons, List.drop_zero, Lib.decDigits_length]
    exact nDigits_le8 (by omega)
  · rw [trimPrefix_neg (fun e => hv ((itoa_head n).1 e))]
    unfold Lib.itoa
    rw [if_neg hv, Lib.decDigits_length]
    exact nDigits_le8 (by omega)
/-- The sign's place: the digits begin at it. -/
def fromS (s : List UInt8) : Nat := if s.head? = some 45 then 1 else 0
theorem itoa_drop (v : Int) : (Lib.itoa v).drop (fromS (Lib.itoa v)) = Lib.decDigits v.natAbs := by
  unfold fromS
  by_cases hv : v < 0
  · rw [if_pos ((itoa_head v).2 hv)]
    unfold Lib.itoa
    rw [if_pos hv]; rfl
  · rw [if_neg (fun e => hv ((itoa_head v).1 e))]
    unfold Lib.itoa
    rw [if_neg hv]
    show Lib.decDigits v.toNat = Lib.decDigits v.natAbs
    congr 1
    omega
theorem trim_len (s : List UInt8) : (Lib.trimPrefix s [45]).length = s.length - fromS s := by
  unfold fromS
  split
  · rename_i h; rw [trimPrefix_pos h]; simp
  · rename_i h; rw [trimPrefix_neg h]; simp
/-- The number that a text of digits with a sign spells. -/
def valS (s : List UInt8) : Int := if s.head? = some 45 then -(valD 0 (s.drop (fromS s)) : Int) else valD 0 (s.drop (fromS s))
theorem valS_itoa (v : Int) : valS (Lib.itoa v) = v := by
  unfold valS
  rw [itoa_drop, dec_val]
  split
  · rename_i h; have := (itoa_head v).1 h; omega
  · rename_i h
    have : ¬ v < 0 := fun e => h ((itoa_head v).2 e)
    omega
theorem valD_lt (l : List UInt8) : ∀ (acc : Nat), (∀ c ∈ l, isDg c) → valD acc l < (acc + 1) * 10 ^ l.length := by
  induction l with
  | nil =>
    intro acc _
    rw [List.length_nil, Nat.pow_zero, Nat.mul_one]
    exact Nat.lt_succ_self acc
  | cons c r ih =>
    intro acc h
    have hc := h c (by simp)
    unfold isDg at hc
    have ih := ih (acc * 10 + (c.toNat - 48)) (fun d hd => h d (by simp [hd]))
    show valD (acc * 10 + (c.toNat - 48)) r < _
    refine Nat.lt_of_lt_of_le ih ?_
    rw [List.length_cons, Nat.pow_succ, Nat.mul_comm (10 ^ r.length) 10, ← Nat.mul_assoc]
    exact Nat.mul_le_mul_right _ (by omega)
/-- A text of digits with a sign is a number just if it is written as its own value is. -/
theorem numS_val {s : List UInt8} (hd : ∀ c ∈ s.drop (fromS s), isDg c) (hl : s.length ≤ fromS s + 7) : numS s = if Lib.itoa (valS s) = s then some (valS s) else none := by
  have hlen : (s.drop (fromS s)).length ≤ 7 := by rw [List.length_drop]; omega
  have hlt : valD 0 (s.drop (fromS s)) < 10000000 := Nat.lt_of_lt_of_le (valD_lt (s.drop (fromS s)) 0 hd) (by
    rw [Nat.zero_add, Nat.one_mul]
    exact Nat.pow_le_pow_right (by decide) hlen)
  have hb : -10000000 < valS s ∧ valS s < 10000000 := by
    unfold valS
    generalize valD 0 (s.drop (fromS s)) = m at hlt
    split <;> omega
  split
  · rename_i h
    have := numS_of hb.1 hb.2
    rw [h] at this
    exact this
  · rename_i h
    cases hn : numS s with
    | none => rfl
    | some v =>
      exfalso
      obtain ⟨h1, _⟩ := numS_itoa hn
      refine h ?_
      rw [← h1, valS_itoa]
/-- What isn't written with digits alone, or is empty or too long, is no number. -/
theorem numS_none {s : List UInt8} (h : s.length = fromS s ∨ fromS s + 7 < s.length ∨ ∃ c ∈ s.drop (fromS s), ¬ isDg c) : numS s = none := by
  cases hn : numS s with
  | none => rfl
  | some v =>
    exfalso
    obtain ⟨h1, h2⟩ := numS_itoa hn
    rw [trim_len] at h2
    have h3 := itoa_drop v
    rw [h1] at h3
    rcases h with h | h | ⟨c, hc, hcd⟩
    · have : (s.drop (fromS s)).length = 0 := by rw [List.length_drop]; omega
      rw [h3] at this
      exact dec_ne _ (List.eq_nil_of_length_eq_zero this)
    · omega
    · rw [h3] at hc
      exact hcd (dec_dg _ c hc)
end Go.Ab
