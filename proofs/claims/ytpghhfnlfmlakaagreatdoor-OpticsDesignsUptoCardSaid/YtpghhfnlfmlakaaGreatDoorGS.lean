/- What this seat knows of package variables, for the symbolic machine. -/
import Derived.Test.YtpghhfnlfmlakaaGreatDoorU1
namespace Go.Ab
open Go

def Glob.sv (g : Nat) : SV := if g = 0 then .cp [.gm 0] else if g = 6 then .cp [.sl (.pair .str (.int .i64)) [(bUm, (1 : Int)), (bMm, (1000 : Int)), (bM, (1000000 : Int))]] else .non
theorem Glob.sv_av (g : Nat) : (Glob.sv g).av = Glob.av g := by
  unfold Glob.sv Glob.av
  split
  · rfl
  · split <;> rfl

/-- The maps that nobody changes. -/
def Glob.svm (i : Nat) : Option ((τ : Ty) × List (List UInt8 × τ.T)) :=
  if i = 0 then some ⟨.bool, [(bApart, true), (bConic, true), (bDiameter, true), (bRadius, true)]⟩ else none
theorem Glob.svm_ok {i : Nat} {p : (τ : Ty) × List (List UInt8 × τ.T)} (h : Glob.svm i = some p) : Glob.mapf i = some (mplF p.1 p.2) := by
  unfold Glob.svm at h
  split at h
  · rename_i e
    subst e
    injection h with h
    subst h
    rfl
  · cases h

end Go.Ab
