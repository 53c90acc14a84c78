/- The table of types, computed of the program, and that it is right. -/
import Derived.Test.YtpgagefaneaioaaT17
namespace Go.Ab
open Go Go.RowKit
set_option linter.unusedVariables false
set_option linter.unusedSimpArgs false

def szOf (P : Program) (t : Nat) : Nat := match P.info? t with
  | some i => i.size
  | none => 0

def kindOf (P : Program) (t : Nat) : AKind := match P.underlying t with
  | some (.int k) => .int k
  | some .bool => .bool
  | some .string => .str
  | some (.struct gs) => if P.stoodInHeld t = false ∧ P.eqGuardType P.depth t = false ∧ (gs.toList.all fun g => g.name != "_" && szOf P g.type != 0) = true then .st (gs.toList.map fun g => ⟨g.offset, szOf P g.type, g.type⟩) else .other
  | some (.array n e) => if P.eqGuardType P.depth t = false then .arr n e else .other
  | some (.slice e) => .slice e
  | some (.pointer e) => .ptr e
  | some (.map k e) => .map k e
  | some (.func _ _ _) => .fn
  | _ => .other

theorem kindOf_ok (P : Program) (t : Nat) : kdOk P t (kindOf P t) := by
  unfold kindOf
  split
  case h_4 gs hu =>
    split
    · rename_i hc
      obtain ⟨h1, h2, h3⟩ := hc
      refine ⟨gs, hu, by simp, h1, h2, fun i f g x y => ?_⟩
      rw [List.getElem?_map, Array.getElem?_toList, y] at x
      injection x with x
      subst x
      have hg : g ∈ gs.toList := by
        rw [← Array.getElem?_toList] at y
        exact List.mem_of_getElem? y
      have := List.all_eq_true.1 h3 g hg
      simp only [Bool.and_eq_true, bne_iff_ne, ne_eq] at this
      refine ⟨this.1, rfl, rfl, this.2, ?_⟩
      have h4 := this.2
      simp only [szOf] at h4 ⊢
      split at h4
      · rename_i j hj; exact ⟨j, hj, rfl⟩
      · exact absurd rfl h4
    · trivial
  case h_5 n e hu =>
    split
    · rename_i hc; exact ⟨hu, hc⟩
    · trivial
  case h_9 a b c hu => exact ⟨a, b, c, hu⟩
  all_goals first | assumption | trivial

def isAggV : Value → Bool
  | .agg _ => true
  | _ => false

def zOk (P : Program) (t : Nat) (i : TypeInfo) (z : Value) : Bool := z.cells.size == i.size && (z.cells.toList.all fun v => v.oneCell') && (match kindOf P t with | .st _ | .arr .. => isAggV z | _ => z.oneCell')

def tabOf (P : Program) (t : Nat) : ATy := match P.info? t with
  | some i => match i.zero with
    | some z => if zOk P t i z = true then ⟨kindOf P t, i.size, i.bytes, z.cells.toList.map cvOne⟩ else ⟨.other, 0, 0, []⟩
    | none => ⟨.other, 0, 0, []⟩
  | none => ⟨.other, 0, 0, []⟩

theorem tabOf_ok (P : Program) : TabOk P (tabOf P) := by
  intro t
  unfold tabOf
  split
  · rename_i i hi
    split
    · rename_i z hz
      split
      · rename_i hc
        simp only [zOk, Bool.and_eq_true, beq_iff_eq] at hc
        obtain ⟨⟨h1, h2⟩, h3⟩ := hc
        refine .inr ⟨kindOf_ok P t, i, z, hi, rfl, rfl, hz, h1, rfl, fun v hv => ?_, ?_⟩
        · exact List.all_eq_true.1 h2 v (Array.mem_toList_iff.2 hv)
        · show match kindOf P t with | .st _ | .arr .. => ∃ cs, z = .agg cs | _ => z.oneCell' = true
          have ag : isAggV z = true → ∃ cs, z = .agg cs := fun h => by
            cases z <;> first | exact ⟨_, rfl⟩ | (simp [isAggV] at h)
          generalize kindOf P t = kk at h3
          cases kk <;> first | exact h3 | exact ag h3
      · exact .inl rfl
    · exact .inl rfl
  · exact .inl rfl

end Go.Ab
