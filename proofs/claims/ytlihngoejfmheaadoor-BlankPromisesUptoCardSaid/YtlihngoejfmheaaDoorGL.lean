/- What this seat knows of package variables, said of the immutable cells: the first one, bytealg.MaxLen, holds a number. -/
import Derived.WalkKit
namespace Go.Ab
open Go
set_option linter.unusedVariables false

def Glob.ok (F : Addr → Value → Prop) : Prop := ∃ m, F ⟨0, 0, none⟩ (.int .i64 m)

theorem Glob.mono {F F' : Addr → Value → Prop} (h : ∀ a v, F a v → F' a v) (x : Glob.ok F) : Glob.ok F' :=
  x.elim fun m hm => ⟨m, h _ _ hm⟩

end Go.Ab
