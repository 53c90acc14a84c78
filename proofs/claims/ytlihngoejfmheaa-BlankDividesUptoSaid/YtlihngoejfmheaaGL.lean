/- What a seat knows of package variables: nothing, unless the seat has a text of its own in the place of this one. -/
import Derived.Test.YtlihngoejfmheaaT1
namespace Go.Ab
open Go
set_option linter.unusedVariables false

/-- Said of the immutable cells. -/
def Glob.ok (F : Addr → Value → Prop) : Prop := True

theorem Glob.mono {F F' : Addr → Value → Prop} (h : ∀ a v, F a v → F' a v) (x : Glob.ok F) : Glob.ok F' := x

/-- The address of a package variable, abstractly. -/
def Glob.av : Nat → AV := fun _ => .non
theorem Glob.vr {E : Env} (h : Glob.ok E.F) (g : Nat) : VR E (Glob.av g) (.pointer (some ⟨g, 0, none⟩)) := .non _

/-- The variables that hold a map that nobody changes, and what it holds. -/
def Glob.mapf : Nat → Option (List UInt8 → Option AV) := fun _ => none

/-- The tables that nobody changes, cell for cell. -/
def Glob.cells : Nat → Option (Array Value) := fun _ => none

end Go.Ab
