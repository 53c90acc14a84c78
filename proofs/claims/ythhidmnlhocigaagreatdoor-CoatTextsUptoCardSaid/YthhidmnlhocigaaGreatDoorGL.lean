/- What this seat knows of package variables, said of the immutable cells: bytealg.MaxLen holds a number, the two errors of strconv are errors or nil; the table of powers of ten. -/
import Derived.Test.YthhidmnlhocigaaGreatDoorT1
import Derived.Lib.LaidTab
import Derived.Shelf.Strconv.Itoa3
namespace Go.Ab
open Go
set_option linter.unusedVariables false

def Glob.ok (F : Addr → Value → Prop) : Prop :=
  (∃ m, F ⟨1, 0, none⟩ (.int .i64 m)) ∧
  (∃ e, F ⟨2, 0, none⟩ e ∧ (e = .nilIface ∨ ∃ te pe, e = .iface te pe)) ∧ (∃ e, F ⟨3, 0, none⟩ e ∧ (e = .nilIface ∨ ∃ te pe, e = .iface te pe))

theorem Glob.mono {F F' : Addr → Value → Prop} (h : ∀ a v, F a v → F' a v) (x : Glob.ok F) : Glob.ok F' := by
  obtain ⟨⟨m, h1⟩, ⟨e, h3, h3'⟩, e', h4, h4'⟩ := x
  exact ⟨⟨m, h _ _ h1⟩, ⟨e, h _ _ h3, h3'⟩, e', h _ _ h4, h4'⟩

def Glob.av : Nat → AV := fun _ => .non
theorem Glob.vr {E : Env} (h : Glob.ok E.F) (g : Nat) : VR E (Glob.av g) (.pointer (some ⟨g, 0, none⟩)) := .non _
def Glob.mapf : Nat → Option (List UInt8 → Option AV) := fun _ => none

/-- The table of powers of ten. -/
def Glob.cells (g : Nat) : Option (Array Value) := if g = 0 then some (Lib.pow10Tab.map fun z => Value.int .u64 z).toArray else none

end Go.Ab
