/- What this seat knows of package variables, said of the immutable cells: the table of powers of ten, MaxLen, the two errors of strconv, the units and the keys of the designs (not the reference's). -/
import Derived.Test.YtpghhfnlfmlakaaGreatDoorT1
import Derived.Lib.LaidTab
import Derived.Shelf.Strconv.Itoa3
namespace Go.Ab
open Go
set_option linter.unusedVariables false

def bApart : List UInt8 := [97, 112, 97, 114, 116]
def bConic : List UInt8 := [99, 111, 110, 105, 99]
def bDiameter : List UInt8 := [100, 105, 97, 109, 101, 116, 101, 114]
def bRadius : List UInt8 := [114, 97, 100, 105, 117, 115]
def bUm : List UInt8 := [117, 109]
def bMm : List UInt8 := [109, 109]
def bM : List UInt8 := [109]
/-- The units. -/
def gUnits : List AV := [.sl 2 [[.str bUm, .int .i64 1], [.str bMm, .int .i64 1000], [.str bM, .int .i64 1000000]]]

def Glob.ok (F : Addr → Value → Prop) : Prop :=
  (∃ m, F ⟨3, 0, none⟩ (.int .i64 m)) ∧
  (∃ e, F ⟨4, 0, none⟩ e ∧ (e = .nilIface ∨ ∃ te pe, e = .iface te pe)) ∧ (∃ e, F ⟨5, 0, none⟩ e ∧ (e = .nilIface ∨ ∃ te pe, e = .iface te pe)) ∧
  VI F (.cp gUnits) (.pointer (some ⟨6, 0, none⟩)) ∧ ∃ m, F ⟨0, 0, none⟩ (.map m)

theorem Glob.mono {F F' : Addr → Value → Prop} (h : ∀ a v, F a v → F' a v) (x : Glob.ok F) : Glob.ok F' := by
  obtain ⟨⟨m, h1⟩, ⟨e, h3, h3'⟩, ⟨e', h4, h4'⟩, h6, m', h7⟩ := x
  exact ⟨⟨m, h _ _ h1⟩, ⟨e, h _ _ h3, h3'⟩, ⟨e', h _ _ h4, h4'⟩, h6.mono h, m', h _ _ h7⟩

def Glob.av (g : Nat) : AV := if g = 0 then .cp [.gm 0] else if g = 6 then .cp gUnits else .non
theorem Glob.vr {E : Env} (h : Glob.ok E.F) (g : Nat) : VR E (Glob.av g) (.pointer (some ⟨g, 0, none⟩)) := by
  obtain ⟨_, _, _, h6, m', h7⟩ := h
  unfold Glob.av
  split
  · rename_i e
    subst e
    refine .cp [.gm 0] ⟨0, 0, none⟩ (fun _ => .map m') (fun j c hj => ?_) (fun j c hj => ?_)
    · cases j with
      | zero => exact h7
      | succ j => simp at hj
    · cases j with
      | zero => simp at hj; subst hj; exact .gm 0 m' h7
      | succ j => simp at hj
  · split
    · rename_i e; subst e; exact h6.vr
    · exact .non _

/-- The program's keys. -/
def Glob.mapf (i : Nat) : Option (List UInt8 → Option AV) :=
  if i = 0 then some fun x => (List.lookup x [(bApart, true), (bConic, true), (bDiameter, true), (bRadius, true)]).map AV.bool else none

/-- The table of powers of ten. -/
def Glob.cells (g : Nat) : Option (Array Value) := if g = 2 then some (Lib.pow10Tab.map fun z => Value.int .u64 z).toArray else none

end Go.Ab
