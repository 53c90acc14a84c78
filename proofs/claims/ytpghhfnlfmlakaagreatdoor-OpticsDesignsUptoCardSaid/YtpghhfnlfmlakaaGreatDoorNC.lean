/- Texts cut at a byte: what the reference's loop and the library's function compute is the same. -/
import Derived.Test.YtpghhfnlfmlakaaGreatDoorN2
import Derived.Test.YtpghhfnlfmlakaaGreatDoorR1
import Derived.Lib.SplitLaws
namespace Go.Ab
open Go
set_option maxRecDepth 1000000
set_option linter.unusedVariables false
set_option linter.unusedSimpArgs false

/-- The pieces of a text between the bytes c. -/
def cutL (c : UInt8) : List UInt8 → List (List UInt8)
  | [] => [[]]
  | b :: r => if b = c then [] :: cutL c r else (match cutL c r with | p :: ps => (b :: p) :: ps | [] => [[b]])
theorem cutL_hit (c : UInt8) (r : List UInt8) : cutL c (c :: r) = [] :: cutL c r := by rw [cutL, if_pos rfl]
theorem cutL_ne {c b : UInt8} {r p : List UInt8} {ps : List (List UInt8)} (h : b ≠ c) (e : cutL c r = p :: ps) : cutL c (b :: r) = (b :: p) :: ps := by rw [cutL, if_neg h, e]
theorem cutL_none {c : UInt8} : ∀ {s : List UInt8}, (∀ k : Nat, s[k]? ≠ some c) → cutL c s = [s]
  | [], _ => rfl
  | b :: r, h => cutL_ne (fun e => h 0 (by simp [e])) (cutL_none fun k => by simpa using h (k + 1))
theorem cutL_some {c : UInt8} : ∀ {s : List UInt8} {i : Nat}, s[i]? = some c → (∀ k : Nat, k < i → s[k]? ≠ some c) → cutL c s = s.take i :: cutL c (s.drop (i + 1))
  | [], i, h, _ => by simp at h
  | b :: r, 0, h, _ => by
    simp at h; subst h
    exact cutL_hit _ _
  | b :: r, i + 1, h, hn => by
    have h1 := cutL_some (s := r) (i := i) (by simpa using h) (fun k hk => by simpa using hn (k + 1) (by omega))
    exact cutL_ne (fun e => hn 0 (by omega) (by simp [e])) h1
theorem split_cut (c : UInt8) : ∀ (n : Nat) (s : List UInt8), s.length ≤ n → Lib.splitK [c] 0 (Lib.count s [c]) s = cutL c s := by
  intro n
  induction n with
  | zero =>
    intro s hs
    have : s = [] := List.eq_nil_of_length_eq_zero (by omega)
    subst this
    rfl
  | succ n ih =>
    intro s hs
    have hge := Lib.index_ge s [c]
    by_cases hm : Lib.index s [c] = -1
    · rw [Lib.count_miss hm]
      have h1 := Lib.index_one s c
      rw [hm] at h1
      exact (cutL_none (Lib.indexByte_none h1.symm)).symm
    · have hi : Lib.index s [c] = ((Lib.index s [c]).toNat : Int) := by omega
      generalize (Lib.index s [c]).toNat = i at hi
      have h1 := Lib.index_one s c
      rw [hi] at h1
      obtain ⟨h2, h3⟩ := Lib.indexByte_some h1.symm
      have hlt : i < s.length := (List.getElem?_eq_some_iff.1 h2).1
      rw [Lib.count_hit (by simp) hi, cutL_some h2 h3, Nat.add_comm 1, Lib.splitK]
      rw [if_neg (by rw [hi]; intro e; have := beq_iff_eq.1 e; omega), hi]
      show s.take (i + 0) :: _ = _
      rw [Nat.add_zero]
      have := ih (s.drop (i + 1)) (by simp; omega)
      simp only [Int.toNat_natCast, List.length_singleton]
      rw [this]
theorem k_split {s : List UInt8} {c : UInt8} (h : s.length ≤ 1048576) : strings_Split s [c] = some ((cutL c s, ()), ()) := by
  unfold strings_Split
  rw [if_pos ⟨by simp, by omega⟩, split_cut c _ s (Nat.le_refl _)]
theorem cutL_len (c : UInt8) : ∀ s : List UInt8, (cutL c s).length ≤ s.length + 1
  | [] => by simp [cutL]
  | b :: r => by
    have := cutL_len c r
    by_cases h : b = c
    · subst h; rw [cutL_hit]; simp; omega
    · cases e : cutL c r with
      | nil => rw [cutL, if_neg h, e]; simp
      | cons p ps => rw [cutL_ne h e]; rw [e] at this; simp at this ⊢; omega
end Go.Ab
