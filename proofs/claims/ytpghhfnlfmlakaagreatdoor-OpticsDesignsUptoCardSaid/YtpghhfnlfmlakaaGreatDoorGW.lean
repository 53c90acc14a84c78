/- A first world that holds the map of the keys: the start of the witness. -/
import Derived.Test.YtpghhfnlfmlakaaGreatDoorGV
import Derived.Lay
import Derived.Deep.DeepWitnessRowRef
namespace Go.Ab
open Go Go.Proofs

def mapEs : Array MapEntry := #[⟨.string ⟨bApart.toArray⟩, .bool true, 0⟩, ⟨.string ⟨bConic.toArray⟩, .bool true, 1⟩, ⟨.string ⟨bDiameter.toArray⟩, .bool true, 2⟩, ⟨.string ⟨bRadius.toArray⟩, .bool true, 3⟩]
noncomputable def world1 (os : Os) : World :=
  { World.holding Tryz.prog os ⟨#[.map mapEs 4], #[], []⟩ with heap := (World.holding Tryz.prog os ⟨#[.map mapEs 4], #[], []⟩).heap.setIfInBounds 0 (.cells #[.map (some 16)] 228 (0, 0)) }
/-- The others of a list, laid by the function. -/
def others (L : List (String × DataW Unit)) : List String := (L.map (·.1)).filter fun n => n != "speculum/optics.keys"
noncomputable def startW (os : Os) (L : List (String × DataW Unit)) : World := (world1 os).layVars Tryz.prog (L.filter fun x => (others L).contains x.1)
theorem startW_os (os : Os) (L : List (String × DataW Unit)) : (startW os L).os = os := World.layVars_os _ _ _
theorem startW_met {os : Os} {L : List (String × DataW Unit)} (args : Array Value)
    (hf : (world1 os).layFits Tryz.prog (L.filter fun x => (others L).contains x.1) [0, 16] = true)
    (hi : (world1 os).layIfaces Tryz.prog (L.filter fun x => (others L).contains x.1) ((startW os L).forCall (fun _ _ => 0) ⟨#[], args, []⟩).memory = true)
    (hs : LaidIn Tryz.prog ((startW os L).forCall (fun _ _ => 0) ⟨#[], args, []⟩).memory (L.filter fun x => !(others L).contains x.1) [0, 16]) :
    laidMet Tryz.prog L ((startW os L).forCall (fun _ _ => 0) ⟨#[], args, []⟩).memory :=
  laidMet_layVars (w0 := world1 os) (others L) [0, 16] (by simp [World.memory, World.forCall, Input.heap, startW]) hf hi hs
end Go.Ab
