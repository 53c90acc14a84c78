/- What small functions of chapter 8 come to; the examples. -/
import Derived.Test.YtjmmjfcapgaomaaP5
import Derived.Test.YtjmmjfcapgaomaaL0
namespace Go.Ab
open Go
set_option maxRecDepth 1000000
set_option linter.unusedVariables false
set_option linter.unusedSimpArgs false

theorem awake_ok : law08xawake = some ((true, ()), ()) := by kernel_rfl

theorem k_within (n lo hi : Int) : coat_within n lo hi = some ((decide (lo ≤ n ∧ n ≤ hi), ()), ()) := by
  simp only [coat_within, T_coat_within, r_br, r_ret]
  by_cases h : lo ≤ n <;> simp [h]
theorem k_Within (n lo hi : Int) : base_Within n lo hi = some ((decide (lo ≤ n ∧ n ≤ hi), ()), ()) := by
  simp only [base_Within, T_base_Within, r_br, r_ret]
  by_cases h : lo ≤ n <;> simp [h]
theorem k_CopyInts {l : List Int} (h : l.length ≤ 1099511627776) : base_CopyInts l = some ((l, ()), ()) := by
  simp only [base_CopyInts, T_base_CopyInts, r_req, r_ret, okApp_t (n := l.length) (b := 8) (by omega), if_true]

/-- Two lists are equal as far as i. -/
theorem list_eq {a b : List Int} (h : a.length = b.length) (h2 : ∀ j : Nat, j < a.length → gi a j = gi b j) : a = b := by
  refine List.ext_getElem h fun i h1 h3 => ?_
  have := h2 i h1
  simpa [gi, List.getD, List.getElem?_eq_getElem h1, List.getElem?_eq_getElem h3] using this
theorem k_Ints {a b : List Int} (ha : a.length ≤ 1099511627776) : base_Ints a b = some ((decide (a = b), ()), ()) := by
  simp only [base_Ints, T_base_Ints, r_br, r_ret, r_iter]
  by_cases hl : (a.length : Int) = b.length
  · simp only [hl, decide_true, Bool.not_true, Bool.false_eq_true, if_false]
    have hl' : a.length = b.length := by omega
    refine iter_eq (fun i x => x = ((i : Int), ()) ∧ ∀ j : Nat, j < i → gi a j = gi b j) _ a.length (by omega) ?_ ⟨rfl, fun j hj => by omega⟩
    rintro i x hi ⟨rfl, hp⟩
    simp only [T_base_Ints_l0, r_br, r_req, r_ret]
    by_cases hlt : i < a.length
    · rw [if_pos (by simp; omega), if_pos (inB_t (by omega)), if_pos (inB_t (by omega))]
      by_cases he : gi a i = gi b i
      · left
        refine ⟨_, if_neg (by simp [he]), hlt, ?_, ?_⟩
        · rw [w64 (by omega)]; rfl
        · intro j hj
          by_cases e : j = i
          · subst e; exact he
          · exact hp j (by omega)
      · right
        rw [if_pos (by simp [he])]
        have : a ≠ b := fun e => he (by rw [e])
        simp [this]
    · right
      rw [if_neg (by simp; omega)]
      have : a = b := list_eq hl' fun j hj => hp j (by omega)
      simp [this]
  · have : a ≠ b := fun e => hl (by rw [e])
    simp [hl, this]
end Go.Ab
