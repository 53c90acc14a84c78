/- The words of a line: what the program's and the reference's functions compute. Texts cut at a byte. -/
import Derived.Test.YtpghhfnlfmlakaaGreatDoorN1
import Derived.Test.YtpghhfnlfmlakaaGreatDoorN0
import Derived.Lib.SplitLaws
namespace Go.Ab
open Go
set_option maxRecDepth 1000000
set_option maxHeartbeats 1000000
set_option linter.unusedVariables false
set_option linter.unusedSimpArgs false

abbrev Wd := List UInt8 × Int
/-- A word that is under way ends. -/
def flushW (k : Nat) (cur : List UInt8) : List Wd := if cur = [] then [] else [(cur, ((k - cur.length : Nat) : Int) + 1)]
/-- The words of what is left of a line from place k on; a word may be under way. -/
def wordsA (k : Nat) (cur : List UInt8) : List UInt8 → List Wd
  | [] => flushW k cur
  | c :: r => if c = 35 then flushW k cur else if c = 32 ∨ c = 9 then flushW k cur ++ wordsA (k + 1) [] r else wordsA (k + 1) (cur ++ [c]) r
theorem flushW_nil (k : Nat) : flushW k [] = [] := rfl
theorem wordsA_nil (k : Nat) (cur : List UInt8) : wordsA k cur [] = flushW k cur := rfl
theorem wordsA_hash (k : Nat) (cur r : List UInt8) : wordsA k cur (35 :: r) = flushW k cur := by rw [wordsA, if_pos rfl]
theorem wordsA_gap {c : UInt8} (h : c = 32 ∨ c = 9) (k : Nat) (cur r : List UInt8) : wordsA k cur (c :: r) = flushW k cur ++ wordsA (k + 1) [] r := by
  rw [wordsA, if_neg (by rcases h with rfl | rfl <;> decide), if_pos h]
theorem wordsA_let {c : UInt8} (h1 : c ≠ 35) (h : ¬ (c = 32 ∨ c = 9)) (k : Nat) (cur r : List UInt8) : wordsA k cur (c :: r) = wordsA (k + 1) (cur ++ [c]) r := by
  rw [wordsA, if_neg h1, if_neg h]
theorem wordsA_take : ∀ (s : List UInt8) (i k : Nat) (cur : List UInt8), s[i]? = some 35 → wordsA k cur s = wordsA k cur (s.take i)
  | [], i, k, cur, h => by simp at h
  | c :: r, 0, k, cur, h => by
    simp at h; subst h
    rw [wordsA_hash]; rfl
  | c :: r, i + 1, k, cur, h => by
    rw [List.take_succ_cons]
    have ih := fun k cur => wordsA_take r i k cur (by simpa using h)
    by_cases h1 : c = 35
    · subst h1; rw [wordsA_hash, wordsA_hash]
    · by_cases h2 : c = 32 ∨ c = 9
      · rw [wordsA_gap h2, wordsA_gap h2, ih]
      · rw [wordsA_let h1 h2, wordsA_let h1 h2, ih]
/-- Where the words lie. -/
theorem wordsA_bd : ∀ (s : List UInt8) (k : Nat) (cur : List UInt8), cur.length ≤ k → ∀ w ∈ wordsA k cur s, 1 ≤ w.2 ∧ w.2 + w.1.length ≤ k + s.length + 1 ∧ w.1.length ≤ cur.length + s.length := by
  have fl : ∀ (k : Nat) (cur : List UInt8), cur.length ≤ k → ∀ w ∈ flushW k cur, 1 ≤ w.2 ∧ w.2 + w.1.length ≤ k + 1 ∧ w.1.length ≤ cur.length := fun k cur h w hw => by
    unfold flushW at hw
    split at hw
    · cases hw
    · rw [List.mem_singleton] at hw
      subst hw
      refine ⟨by simp only; omega, by simp only; omega, Nat.le_refl _⟩
  intro s
  induction s with
  | nil => intro k cur h w hw; have := fl k cur h w hw; simp only [List.length_nil]; omega
  | cons c r ih =>
    intro k cur h w hw
    simp only [List.length_cons]
    by_cases h1 : c = 35
    · subst h1; rw [wordsA_hash] at hw
      have := fl k cur h w hw; omega
    · by_cases h2 : c = 32 ∨ c = 9
      · rw [wordsA_gap h2] at hw
        rcases List.mem_append.1 hw with hw | hw
        · have := fl k cur h w hw; omega
        · have := ih (k + 1) [] (by simp) w hw
          simp only [List.length_nil] at this
          omega
      · rw [wordsA_let h1 h2] at hw
        have := ih (k + 1) (cur ++ [c]) (by simp; omega) w hw
        simp only [List.length_append, List.length_cons, List.length_nil] at this
        omega
theorem wordsA_len : ∀ (s : List UInt8) (k : Nat) (cur : List UInt8), (wordsA k cur s).length ≤ s.length + 1 := by
  have fl : ∀ (k : Nat) (cur : List UInt8), (flushW k cur).length ≤ 1 := fun k cur => by unfold flushW; split <;> simp
  intro s
  induction s with
  | nil => intro k cur; have := fl k cur; rw [wordsA_nil]; omega
  | cons c r ih =>
    intro k cur
    simp only [List.length_cons]
    by_cases h1 : c = 35
    · subst h1; rw [wordsA_hash]; have := fl k cur; omega
    · by_cases h2 : c = 32 ∨ c = 9
      · rw [wordsA_gap h2, List.length_append]
        have := fl k cur; have := ih (k + 1) []; omega
      · rw [wordsA_let h1 h2]
        have := ih (k + 1) (cur ++ [c]); omega
theorem part_nat (s : List UInt8) (a b : Nat) : part s (a : Int) (b : Int) = (s.take b).drop a := by simp [part]
theorem u8_eq {a : UInt8} {n : Int} {c : UInt8} (hn : (c.toNat : Int) = n) : ((a.toNat : Int) = n) ↔ a = c := by
  constructor
  · intro h; exact UInt8.toNat_inj.1 (by omega)
  · intro h; subst h; exact hn
theorem drop_cons {s : List UInt8} {i : Nat} (h : i < s.length) : s.drop i = s[i] :: s.drop (i + 1) := (List.drop_eq_getElem_cons h)

/-! ### The reference's words -/

end Go.Ab
