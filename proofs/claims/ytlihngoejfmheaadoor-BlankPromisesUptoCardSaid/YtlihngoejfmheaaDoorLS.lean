/- The contracts of the library's functions that this seat's functions call, for the symbolic machine: strings.Split at a separator that is not empty. -/
import Derived.Test.YtlihngoejfmheaaDoorXT
import Derived.Test.YtlihngoejfmheaaDoorLB
import Derived.Test.YtlihngoejfmheaaDoorSH
namespace Go.Ab
open Go Go.Proofs
set_option linter.unusedVariables false

def strings_Split (s sep : List UInt8) : Option ((List (List UInt8) × Unit) × Unit) :=
  if 1 ≤ sep.length ∧ s.length < 4294967281 then some ((Lib.splitK sep 0 (Lib.count s sep) s, ()), ()) else none
def c_strings_Split : Callee := ⟨24, [.val (.one .str), .val (.one .str)], [], [.val (.one (.list .str))], false, fun x y => strings_Split x.1 x.2.1⟩
theorem mk_bytes (x : ByteArray) : (⟨x.data.toList.toArray⟩ : ByteArray) = x := by cases x; simp
theorem ok_strings_Split : c_strings_Split.ok Tryd.prog := by
  refine ⟨⟨Tryd.f24, Tryd.func24, by kernel_rfl, by kernel_rfl⟩, fun x y r y' h => ?_⟩
  have h' : strings_Split x.1 x.2.1 = some (r, y') := h
  unfold strings_Split at h'
  split at h'
  · rename_i hc
    injection h' with h'
    injection h' with h1 h2
    subst h1
    show Meets Tryd.prog 24 [] [.str x.1, .str x.2.1] (.sl 1 ((Lib.splitK x.2.1 0 (Lib.count x.1 x.2.1) x.1).map fun l => [.str l])) []
    refine meets_texts (t := 9) fun w E vs hg hF hv => ?_
    rw [vrs_str2 hv]
    obtain ⟨m, hm⟩ := hg
    have e := Lib.splitB_data (⟨x.2.1.toArray⟩ : ByteArray) 0 (Lib.countB (⟨x.1.toArray⟩ : ByteArray) (⟨x.2.1.toArray⟩ : ByteArray)) (⟨x.1.toArray⟩ : ByteArray)
    have e0 : Lib.countB (⟨x.1.toArray⟩ : ByteArray) (⟨x.2.1.toArray⟩ : ByteArray) = Lib.count x.1 x.2.1 := rfl
    have hl := Lib.splitB_all (⟨x.2.1.toArray⟩ : ByteArray) (show 1 ≤ (⟨x.2.1.toArray⟩ : ByteArray).size from hc.1) 0 _ (⟨x.1.toArray⟩ : ByteArray) rfl
    have e' : Lib.splitK x.2.1 0 (Lib.count x.1 x.2.1) x.1 = (Lib.splitB (⟨x.2.1.toArray⟩ : ByteArray) 0 (Lib.countB (⟨x.1.toArray⟩ : ByteArray) (⟨x.2.1.toArray⟩ : ByteArray)) (⟨x.1.toArray⟩ : ByteArray)).map (·.data.toList) := e.symm
    refine (Tryd.strings_Split (⟨x.1.toArray⟩ : ByteArray) (⟨x.2.1.toArray⟩ : ByteArray) m w hc.2 (hF _ _ hm).1 hc.1).mono ?_
    rintro e w' ⟨rfl, rfl⟩
    rw [e', List.length_map, hl, List.map_map]
    refine ⟨rfl, ?_⟩
    congr 3
  · cases h'
end Go.Ab
