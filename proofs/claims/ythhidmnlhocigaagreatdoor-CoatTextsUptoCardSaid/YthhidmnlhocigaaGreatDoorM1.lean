/- Texts that are cut at a byte, decimal numerals. -/
import Derived.Test.YthhidmnlhocigaaGreatDoorPK
import Derived.Test.YthhidmnlhocigaaGreatDoorB1
import Derived.Test.YthhidmnlhocigaaGreatDoorG3
import Derived.Test.YthhidmnlhocigaaGreatDoorR1
import Derived.Test.YthhidmnlhocigaaGreatDoorM0
import Derived.Lib.SplitLaws
import Derived.Lib.IndexMore
namespace Go.Ab
open Go
set_option maxRecDepth 1000000
set_option maxHeartbeats 1000000
set_option linter.unusedVariables false
set_option linter.unusedSimpArgs false
theorem nd {p : Prop} [Decidable p] (h : p) : (!decide p) = false := by simp [h]
theorem nd' {p : Prop} [Decidable p] (h : ¬ p) : (!decide p) = true := by simp [h]
theorem w1 (i : Nat) (h : i ≤ 9223372036854775806) : IntKind.i64.wrap ((i : Int) + 1) = ((i + 1 : Nat) : Int) := by rw [w64' (by omega) (by omega)]; omega
theorem k_isDigit (c : Int) : base_isDigit c = some ((decide (48 ≤ c ∧ c ≤ 57), ()), ()) := by
  simp only [base_isDigit, T_base_isDigit]
  by_cases h1 : 48 ≤ c
  · refine (br_t (decide_eq_true h1)).trans ((r_ret _).trans ?_)
    by_cases h2 : c ≤ 57
    · rw [decide_eq_true h2, decide_eq_true ⟨h1, h2⟩]
    · rw [decide_eq_false h2, decide_eq_false (by omega)]
  · rw [decide_eq_false (show ¬ (48 ≤ c ∧ c ≤ 57) by omega)]
    exact (br_f (decide_eq_false h1)).trans (r_ret _)
theorem part_nat (s : List UInt8) (a b : Nat) : part s (a : Int) (b : Int) = (s.take b).drop a := by simp [part]
theorem u8_eq {a : UInt8} {n : Int} {c : UInt8} (hn : (c.toNat : Int) = n) : ((a.toNat : Int) = n) ↔ a = c := by
  constructor
  · intro h; exact UInt8.toNat_inj.1 (by omega)
  · intro h; subst h; exact hn
theorem drop_cons {s : List UInt8} {i : Nat} (h : i < s.length) : s.drop i = s[i] :: s.drop (i + 1) := (List.drop_eq_getElem_cons h)
/-- The pieces of a text between the bytes c. -/
def cutL (c : UInt8) : List UInt8 → List (List UInt8)
  | [] => [[]]
  | b :: r => if b = c then [] :: cutL c r else (match cutL c r with | p :: ps => (b :: p) :: ps | [] => [[b]])
theorem cutL_hit (c : UInt8) (r : List UInt8) : cutL c (c :: r) = [] :: cutL c r := by rw [cutL, if_pos rfl]
theorem cutL_ne {c b : UInt8} {r p : List UInt8} {ps : List (List UInt8)} (h : b ≠ c) (e : cutL c r = p :: ps) : cutL c (b :: r) = (b :: p) :: ps := by rw [cutL, if_neg h, e]
theorem cutL_none {c : UInt8} : ∀ {s : List UInt8}, (∀ k : Nat, s[k]? ≠ some c) → cutL c s = [s]
  | [], _ => rfl
  | b :: r, h => cutL_ne (fun e => h 0 (by simp [e])) (cutL_none fun k => by simpa using h (k + 1))
theorem cutL_some {c : UInt8} : ∀ {s : List UInt8} {i : Nat}, s[i]? = some c → (∀ k : Nat, k < i → s[k]? ≠ some c) → cutL c s = s.take i :: cutL c (s.drop (i + 1))
  | [], i, h, _ => by simp at h
  | b :: r, 0, h, _ => by
    simp at h; subst h
    exact cutL_hit _ _
  | b :: r, i + 1, h, hn => by
    have h1 := cutL_some (s := r) (i := i) (by simpa using h) (fun k hk => by simpa using hn (k + 1) (by omega))
    exact cutL_ne (fun e => hn 0 (by omega) (by simp [e])) h1
theorem split_cut (c : UInt8) : ∀ (n : Nat) (s : List UInt8), s.length ≤ n → Lib.splitK [c] 0 (Lib.count s [c]) s = cutL c s := by
  intro n
  induction n with
  | zero =>
    intro s hs
    have : s = [] := List.eq_nil_of_length_eq_zero (by omega)
    subst this
    rfl
  | succ n ih =>
    intro s hs
    have hge := Lib.index_ge s [c]
    by_cases hm : Lib.index s [c] = -1
    · rw [Lib.count_miss hm]
      have h1 := Lib.index_one s c
      rw [hm] at h1
      exact (cutL_none (Lib.indexByte_none h1.symm)).symm
    · have hi : Lib.index s [c] = ((Lib.index s [c]).toNat : Int) := by omega
      generalize (Lib.index s [c]).toNat = i at hi
      have h1 := Lib.index_one s c
      rw [hi] at h1
      obtain ⟨h2, h3⟩ := Lib.indexByte_some h1.symm
      have hlt : i < s.length := (List.getElem?_eq_some_iff.1 h2).1
      rw [Lib.count_hit (by simp) hi, cutL_some h2 h3, Nat.add_comm 1, Lib.splitK]
      rw [if_neg (by rw [hi]; intro e; have := beq_iff_eq.1 e; omega), hi]
      show s.take (i + 0) :: _ = _
      rw [Nat.add_zero]
      have := ih (s.drop (i + 1)) (by simp; omega)
      simp only [Int.toNat_natCast, List.length_singleton]
      rw [this]
theorem k_split {s : List UInt8} {c : UInt8} (h : s.length ≤ 1048576) : strings_Split s [c] = some ((cutL c s, ()), ()) := by
  unfold strings_Split
  rw [if_pos ⟨by simp, by omega⟩, split_cut c _ s (Nat.le_refl _)]
theorem cutL_len (c : UInt8) : ∀ s : List UInt8, (cutL c s).length ≤ s.length + 1
  | [] => by simp [cutL]
  | b :: r => by
    have := cutL_len c r
    by_cases h : b = c
    · subst h; rw [cutL_hit]; simp; omega
    · cases e : cutL c r with
      | nil => rw [cutL, if_neg h, e]; simp
      | cons p ps => rw [cutL_ne h e]; rw [e] at this; simp at this ⊢; omega
theorem wrap1 (i : Nat) (h : i ≤ 9223372036854775806) : IntKind.i64.wrap ((i : Int) + 1) = ((i + 1 : Nat) : Int) := by rw [w64' (by omega) (by omega)]; omega
theorem k_Cut {s : List UInt8} {c : UInt8} {z : Int} (hz : z = (c.toNat : Int)) (hs : s.length ≤ 1048576) : base_Cut s z = some ((cutL c s, ()), ()) := by
  subst hz
  show (T_base_Cut s c.toNat).run = _
  unfold T_base_Cut
  refine (q_of rfl).trans ?_
  rw [r_iter]
  refine iter_eq (fun i (st : List (List UInt8) × Int × Int × Unit) => ∃ (a : List (List UInt8)) (b : Nat), st = (a, ((b : Int), ((i : Int), ()))) ∧
    (i ≤ s.length → b ≤ i ∧ a ++ cutL c (s.drop b) = cutL c s ∧ (∀ k, b ≤ k → k < i → s[k]? ≠ some c) ∧ a.length ≤ i) ∧ (i = s.length + 1 → a = cutL c s)) _ (s.length + 1) (by omega) ?_
    ⟨[], 0, rfl, fun _ => ⟨Nat.le_refl _, rfl, fun k _ h => absurd h (by omega), Nat.zero_le _⟩, fun h => absurd h (by omega)⟩
  rintro i st hi ⟨a, b, rfl, h1, h2⟩
  show (∃ x', (T_base_Cut_l0 s c.toNat a b i).run = _ ∧ _) ∨ (T_base_Cut_l0 s c.toNat a b i).run = _
  unfold T_base_Cut_l0
  by_cases hle : i ≤ s.length
  · left
    obtain ⟨hb, hc, hn, hl⟩ := h1 hle
    have hsub : (s.take i).drop b = (s.drop b).take (i - b) := by rw [List.drop_take]
    have hnone : ∀ k, k < i - b → (s.drop b)[k]? ≠ some c := fun k hk => by rw [List.getElem?_drop]; exact hn (b + k) (by omega) (by omega)
    by_cases he : i = s.length
    · refine ⟨(a ++ [(s.take i).drop b], (((i + 1 : Nat) : Int), (((i + 1 : Nat) : Int), ()))), ?_, by omega, ⟨_, i + 1, rfl, fun h => absurd h (by omega), fun _ => ?_⟩⟩
      · rw [← wrap1 i (by omega), ← part_nat]
        refine (br_t (decide_eq_true (by omega))).trans ?_
        refine (br_t (decide_eq_true (by omega))).trans ?_
        refine (q_of (bnd_t' (by omega) (by omega) (by omega))).trans ?_
        refine (q_of (decide_eq_true rfl)).trans ?_
        refine (q_of (app_t' (by simp; omega) (by simp; omega))).trans ?_
        refine (q_of (decide_eq_true (by simp))).trans ?_
        exact r_ret _
      · rw [← hc, he, List.take_length]
        congr 1
        refine (cutL_none fun k hk => ?_).symm
        have hk' := List.getElem?_eq_some_iff.1 hk
        obtain ⟨hk1, _⟩ := hk'
        simp at hk1
        exact hnone k (by omega) hk
    · have hlt : i < s.length := by omega
      by_cases hat : s[i]? = some c
      · refine ⟨(a ++ [(s.take i).drop b], (((i + 1 : Nat) : Int), (((i + 1 : Nat) : Int), ()))), ?_, by omega, ⟨_, i + 1, rfl, fun _ => ⟨Nat.le_refl _, ?_, fun k h3 h4 => absurd h4 (by omega), by simp; omega⟩, fun h => absurd h (by omega)⟩⟩
        · rw [← wrap1 i (by omega), ← part_nat]
          refine (br_t (decide_eq_true (by omega))).trans ?_
          refine (br_f (decide_eq_false (by omega))).trans ?_
          refine (q_of (inB_t' (by omega) (by omega))).trans ?_
          refine (br_t (decide_eq_true ?_)).trans ?_
          · rw [gi_nat hlt]
            have := (List.getElem?_eq_some_iff.1 hat).2
            rw [this]
          refine (q_of (bnd_t' (by omega) (by omega) (by omega))).trans ?_
          refine (q_of (decide_eq_true rfl)).trans ?_
          refine (q_of (app_t' (by simp; omega) (by simp; omega))).trans ?_
          refine (q_of (decide_eq_true (by simp))).trans ?_
          exact r_ret _
        · rw [← hc, cutL_some (s := s.drop b) (i := i - b) (by rw [List.getElem?_drop, show b + (i - b) = i by omega]; exact hat) hnone, List.append_assoc, hsub, List.drop_drop,
            show b + (i - b + 1) = i + 1 by omega]
          rfl
      · refine ⟨(a, ((b : Int), (((i + 1 : Nat) : Int), ()))), ?_, by omega, ⟨_, b, rfl, fun _ => ⟨by omega, hc, fun k h3 h4 => ?_, by omega⟩, fun h => absurd h (by omega)⟩⟩
        · rw [← wrap1 i (by omega)]
          refine (br_t (decide_eq_true (by omega))).trans ?_
          refine (br_f (decide_eq_false (by omega))).trans ?_
          refine (q_of (inB_t' (by omega) (by omega))).trans ?_
          refine (br_f (decide_eq_false ?_)).trans ?_
          · rw [gi_nat hlt]
            intro e
            refine hat (List.getElem?_eq_some_iff.2 ⟨hlt, ?_⟩)
            exact UInt8.toNat_inj.1 (by omega)
          refine (q_of (decide_eq_true rfl)).trans ?_
          exact r_ret _
        · by_cases e : k = i
          · rw [e]; exact hat
          · exact hn k h3 (by omega)
  · right
    have : i = s.length + 1 := by omega
    rw [← h2 this]
    exact (br_f (decide_eq_false (by omega))).trans (r_ret _)
theorem k_Abs {n : Int} (h : -9223372036854775807 ≤ n) (h2 : n ≤ 9223372036854775807) : base_Abs n = some ((max n (-n), ()), ()) := by
  simp only [base_Abs, T_base_Abs, r_br, r_ret]
  by_cases h : n < 0
  · simp only [h, decide_true, if_true]; rw [w64' (by omega) (by omega)]; congr 3; omega
  · simp only [h, decide_false, Bool.false_eq_true, if_false]; congr 3; omega
theorem first_at (s : List UInt8) (c : UInt8) : (∀ k : Nat, s[k]? ≠ some c) ∨ ∃ i : Nat, s[i]? = some c ∧ ∀ k : Nat, k < i → s[k]? ≠ some c := by
  induction s with
  | nil => left; intro k; simp
  | cons b r ih =>
    by_cases hb : b = c
    · right; exact ⟨0, by simp [hb], fun k hk => by omega⟩
    · rcases ih with h | ⟨i, h1, h2⟩
      · left; intro k
        cases k with
        | zero => simpa using hb
        | succ k => simpa using h k
      · right
        refine ⟨i + 1, by simpa using h1, fun k hk => ?_⟩
        cases k with
        | zero => simpa using hb
        | succ k => simpa using h2 k (by omega)
/-- The digits of a number; none of zero. -/
def digs0 (m : Nat) : List UInt8 := if m = 0 then [] else Lib.decDigits m
theorem digs0_step {m : Nat} (h : 0 < m) : digs0 m = digs0 (m / 10) ++ [UInt8.ofNat (48 + m % 10)] := by
  unfold digs0
  rw [if_neg (by omega)]
  by_cases hs : m < 10
  · rw [if_pos (by omega), Lib.decDigits_one hs, Nat.mod_eq_of_lt hs]; rfl
  · rw [if_neg (by omega), Lib.decDigits, dif_neg hs]
theorem nDigits_le (u : Nat) : Lib.nDigits u ≤ u + 1 := by
  induction u using Nat.strongRecOn with
  | _ u ih =>
    by_cases h : u < 10
    · rw [Lib.nDigits_small h]; omega
    · rw [Lib.nDigits_big h]
      have := ih (u / 10) (by omega)
      omega
theorem nDigits_le2 (u : Nat) : Lib.nDigits u ≤ u / 10 + 2 := by
  rw [Lib.nDigits]
  split
  · omega
  · have := nDigits_le (u / 10)
    omega
theorem k_Decimal {n : Int} (h1 : -9223372036854775808 ≤ n) (h2 : n ≤ 9223372036854775807) : base_Decimal n = some ((Lib.itoa n, ()), ()) := by
  show (T_base_Decimal n).run = _
  unfold T_base_Decimal
  by_cases h0 : n = 0
  · subst h0
    refine (br_t (decide_eq_true rfl)).trans ((r_ret _).trans ?_)
    unfold Lib.itoa
    rw [if_neg (by omega), Lib.decDigits_one (by decide)]
    rfl
  refine (br_f (decide_eq_false h0)).trans ?_
  rw [r_iter]
  refine iter_eq (fun i (st : List UInt8 × Int × Unit) => ∃ (a : List UInt8) (m : Nat), st = (a, ((if n < 0 then -(m : Int) else m), ())) ∧ m + i ≤ n.natAbs ∧ digs0 m ++ a = Lib.decDigits n.natAbs) _ n.natAbs (by omega) ?_
    ⟨[], n.natAbs, by rw [show (if n < 0 then -(n.natAbs : Int) else (n.natAbs : Int)) = n by split <;> omega], by omega, by rw [List.append_nil]; unfold digs0; rw [if_neg (by omega)]⟩
  rintro i st hi ⟨a, m, rfl, hm, hda⟩
  show (∃ x', (T_base_Decimal_l0 n a (if n < 0 then -(m : Int) else m)).run = _ ∧ _) ∨ (T_base_Decimal_l0 n a (if n < 0 then -(m : Int) else m)).run = _
  unfold T_base_Decimal_l0
  have hlen : a.length ≤ 1000000000000000001 := by
    have : a.length ≤ (Lib.decDigits n.natAbs).length := by rw [← hda]; simp
    rw [Lib.decDigits_length] at this
    have := nDigits_le2 n.natAbs
    omega
  by_cases hm0 : m = 0
  · right
    subst hm0
    have : a = Lib.decDigits n.natAbs := hda
    subst this
    refine (br_f (nd (by split <;> rfl))).trans ?_
    by_cases hn : n < 0
    · refine (br_t (decide_eq_true hn)).trans ?_
      refine (q_of (str_t' (by omega))).trans ((r_ret _).trans ?_)
      unfold Lib.itoa
      rw [if_pos hn]; rfl
    · refine (br_f (decide_eq_false hn)).trans ((r_ret _).trans ?_)
      unfold Lib.itoa
      rw [if_neg hn]
      have e : n.toNat = n.natAbs := by omega
      rw [e]
  · left
    generalize hb : (if n < 0 then -(m : Int) else m) = b
    have hbm : b.natAbs = m := by rw [← hb]; split <;> omega
    have hmod : b.tmod 10 = if n < 0 then -((m % 10 : Nat) : Int) else ((m % 10 : Nat) : Int) := by
      rw [← hb]
      split
      · rw [Int.neg_tmod]; rfl
      · rfl
    have hdiv : b.tdiv 10 = if n < 0 then -((m / 10 : Nat) : Int) else ((m / 10 : Nat) : Int) := by
      rw [← hb]
      split
      · rw [Int.neg_tdiv]; rfl
      · rfl
    have habs : max (b.tmod 10) (-(b.tmod 10)) = ((m % 10 : Nat) : Int) := by
      rw [hmod]; split <;> omega
    have hmlt : m % 10 < 10 := Nat.mod_lt _ (by decide)
    refine ⟨([UInt8.ofNat (48 + m % 10)] ++ a, ((if n < 0 then -((m / 10 : Nat) : Int) else ((m / 10 : Nat) : Int)), ())), ?_, by omega, ⟨_, m / 10, rfl, by omega, ?_⟩⟩
    · refine (br_t (nd' (by rw [← hb]; split <;> omega))).trans ?_
      refine (q_of (nz_t (by decide))).trans ?_
      refine (r_bs (k_Abs (by rw [hmod]; split <;> omega) (by rw [hmod]; split <;> omega))).trans ?_
      rw [habs]
      have e1 : IntKind.u8.wrap (IntKind.i64.wrap (48 + ((m % 10 : Nat) : Int))) = ((48 + m % 10 : Nat) : Int) := by
        rw [w64' (by omega) (by omega)]
        unfold IntKind.wrap
        simp only [IntKind.signed, IntKind.bits]
        simp
        omega
      show (Tr.req (okStr (([IntKind.u8.wrap (IntKind.i64.wrap (48 + ((m % 10 : Nat) : Int)))].map fun n : Int => UInt8.ofNat n.toNat).length + a.length)) _).run = _
      rw [e1]
      refine (q_of (str_t' (by simp; omega))).trans ?_
      refine (q_of (nz_t (by decide))).trans ?_
      refine (r_ret _).trans ?_
      rw [hdiv, w64' (by split <;> omega) (by split <;> omega)]
      rfl
    · rw [← hda, digs0_step (m := m) (by omega), List.append_assoc]
theorem cutL_mem (c : UInt8) : ∀ (s : List UInt8) (p : List UInt8), p ∈ cutL c s → p.length ≤ s.length
  | [], p, h => by simp [cutL] at h; subst h; simp
  | b :: r, p, h => by
    by_cases hb : b = c
    · subst hb
      rw [cutL_hit] at h
      rcases List.mem_cons.1 h with h | h
      · subst h; simp
      · have := cutL_mem b r p h; simp; omega
    · cases e : cutL c r with
      | nil => rw [cutL, if_neg hb, e] at h; simp at h; subst h; simp
      | cons q qs =>
        rw [cutL_ne hb e] at h
        have ih := cutL_mem c r
        rcases List.mem_cons.1 h with h | h
        · subst h
          have := ih q (by rw [e]; simp); simp; omega
        · have := ih p (by rw [e]; simp [h]); simp; omega
end Go.Ab
