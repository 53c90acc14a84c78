/- What a seat knows of package variables, for the symbolic machine: nothing, unless the seat has a text of its own in the place of this one. -/
import Derived.Test.YthhidmnlhocigaaGreatDoorU1
namespace Go.Ab
open Go

def Glob.sv : Nat → SV := fun _ => .non
theorem Glob.sv_av (g : Nat) : (Glob.sv g).av = Glob.av g := rfl

/-- The maps that nobody changes. -/
def Glob.svm : Nat → Option ((τ : Ty) × List (List UInt8 × τ.T)) := fun _ => none
theorem Glob.svm_ok {i : Nat} {p : (τ : Ty) × List (List UInt8 × τ.T)} (h : Glob.svm i = some p) : Glob.mapf i = some (mplF p.1 p.2) := by cases h

end Go.Ab
