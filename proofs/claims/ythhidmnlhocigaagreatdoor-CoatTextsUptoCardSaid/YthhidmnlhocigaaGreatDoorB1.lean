/- Small things for walks in single steps. -/
import Derived.Test.YthhidmnlhocigaaGreatDoorLA
namespace Go.Ab
open Go
set_option linter.unusedVariables false

theorem inB_t' {n : Int} {len : Nat} (h : 0 ≤ n) (h2 : n < len) : inB n len = true := decide_eq_true ⟨h, h2⟩
theorem app_t' {n b : Nat} (h : n ≤ 1099511627776) (h2 : n * b ≤ 140737488355328) : okApp n b = true := decide_eq_true ⟨h, h2⟩
theorem bnd_t' {a b : Int} {len : Nat} (h1 : 0 ≤ a) (h2 : a ≤ b) (h3 : b ≤ len) : bndOk a b len = true := decide_eq_true ⟨h1, h2, h3⟩
theorem str_t' {n : Nat} (h : n ≤ 9223372036854775807) : okStr n = true := decide_eq_true h
theorem eta2 {α β : Type} (p : α × β) : (p.1, p.2) = p := rfl
theorem bindC {α β : Type} {c d : Option α} {f : α → Option β} (h : c = d) : c.bind f = d.bind f := by rw [h]
theorem iterC {σ ρ : Type} {b : σ → Option (σ ⊕ ρ)} {n : Nat} {x y : σ} (h : x = y) : iterF b n x = iterF b n y := by rw [h]
theorem q_of {ρ : Type} {b : Bool} {t : Tr ρ} (h : b = true) : (Tr.req b t).run = t.run := by rw [r_req, if_pos h]
/-- A number of 64 bits. -/
def I64 (x : Int) : Prop := -9223372036854775808 ≤ x ∧ x ≤ 9223372036854775807
theorem gi_mem {α : Type} [Inhabited α] {l : List α} {i : Int} (h : 0 ≤ i) (h2 : i < l.length) : gi l i ∈ l := by
  have h3 : i.toNat < l.length := by omega
  simp [gi, List.getD, List.getElem?_eq_getElem h3]
theorem gi_nat {α : Type} [Inhabited α] {l : List α} {i : Nat} (h : i < l.length) : gi l (i : Int) = l[i] := by
  simp [gi, List.getD, List.getElem?_eq_getElem h]
end Go.Ab
