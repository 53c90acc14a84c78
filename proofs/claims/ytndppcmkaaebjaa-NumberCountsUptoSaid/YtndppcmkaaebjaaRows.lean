/-
  No cell of these rows narrows 'for every input' (looked for: loops, veiled, ifaces, maps, wideKeys, modest, calm, conditions, laid).
  DERIVED. THE GIVEN ROWS OF THIS SEAT. 9 by the template 'for every input the law returns true; each argument reads behind the call as it read before'; 0 by the template 'total and deterministic' (their statements: YtndppcmkaaebjaaTotals.lean).
  GIVEN WITH THE SEED: the statements are not yours to turn. If you find one false, say at which input.
  Laid BY PROGRAM, IN A SANDBOX (cutbox-rows.mjs): the forced cells as the released guide's own fill.sh prints them over the translation 903c3cba16245065… (all of the seat's roots in one cut). By AI agents, Wed Nov 11 2026. No macro, syntax, notation, axiom, sorry.
-/
import Derived.Test.YtndppcmkaaebjaaChecked
import GoSem.Claim
import GoSem.ClaimJoined
import GoSem.ClaimMapViews
import Derived.JoinedTies
import Derived.KernelRfl
namespace Go.Proofs.Ytndppcmkaaebjaa
/- THE CELL 'sum', in the pinned program and in every row, IS THE sha256 OF THE DUMP (.gsa) THAT YtndppcmkaaebjaaProg.lean LOADS. Nothing in Lean hashes anything: it is a label: what it is worth is what the hold of that sum in a sandbox is worth. -/
noncomputable def Try.pinned : Pinned := { name := "ytndppcmkaaebjaa", sum := "903c3cba16245065e0c711481eab3268edbc498dea1818907dd339fee3a804a0", checked := Try.checked }
namespace Rows
def none {H : Type} : Left H := { results := [], args := [] }

/-- 'speculumlaw01.NumberCounts': WHATEVER THE INPUT: true; the input reads as it did. -/
def numberCountsSpec : ChangeSpec := { name := "numberCounts", fn := fun _ => fun
  | [d1, d2, d3] => { results := [.lit (.bool true)], args := [d1, d2, d3] }
  | _ => none }
def numberCountsRow : OpenClaim := { program := "ytndppcmkaaebjaa", sum := "903c3cba16245065e0c711481eab3268edbc498dea1818907dd339fee3a804a0", func := "speculum/speculumlaw01.NumberCounts", spec := "numberCounts", recurses := true, apart := false }
def NumberCountsSaid : Prop := numberCountsRow.holds Try.pinned (OpenSpec.ofChange numberCountsSpec)

/-- ITS FALSE NEIGHBOUR: 'it returns false'. Refute it at one input. -/
def numberCountsWrong : ChangeSpec := { name := "numberCounts", fn := fun _ => fun
  | [d1, d2, d3] => { results := [.lit (.bool false)], args := [d1, d2, d3] }
  | _ => none }
def NumberCountsWrongFalsely : Prop := numberCountsRow.holds Try.pinned (OpenSpec.ofChange numberCountsWrong)

/-- 'speculumlaw01.NumberWholes': WHATEVER THE INPUT: true; the input reads as it did. -/
def numberWholesSpec : ChangeSpec := { name := "numberWholes", fn := fun _ => fun
  | [d1, d2] => { results := [.lit (.bool true)], args := [d1, d2] }
  | _ => none }
def numberWholesRow : OpenClaim := { program := "ytndppcmkaaebjaa", sum := "903c3cba16245065e0c711481eab3268edbc498dea1818907dd339fee3a804a0", func := "speculum/speculumlaw01.NumberWholes", spec := "numberWholes", recurses := true, apart := false }
def NumberWholesSaid : Prop := numberWholesRow.holds Try.pinned (OpenSpec.ofChange numberWholesSpec)

/-- ITS FALSE NEIGHBOUR: 'it returns false'. Refute it at one input. -/
def numberWholesWrong : ChangeSpec := { name := "numberWholes", fn := fun _ => fun
  | [d1, d2] => { results := [.lit (.bool false)], args := [d1, d2] }
  | _ => none }
def NumberWholesWrongFalsely : Prop := numberWholesRow.holds Try.pinned (OpenSpec.ofChange numberWholesWrong)

/-- 'speculumlaw01.NumberSigns': WHATEVER THE INPUT: true; the input reads as it did. -/
def numberSignsSpec : ChangeSpec := { name := "numberSigns", fn := fun _ => fun
  | [d1, d2] => { results := [.lit (.bool true)], args := [d1, d2] }
  | _ => none }
def numberSignsRow : OpenClaim := { program := "ytndppcmkaaebjaa", sum := "903c3cba16245065e0c711481eab3268edbc498dea1818907dd339fee3a804a0", func := "speculum/speculumlaw01.NumberSigns", spec := "numberSigns", recurses := true, apart := false }
def NumberSignsSaid : Prop := numberSignsRow.holds Try.pinned (OpenSpec.ofChange numberSignsSpec)

/-- ITS FALSE NEIGHBOUR: 'it returns false'. Refute it at one input. -/
def numberSignsWrong : ChangeSpec := { name := "numberSigns", fn := fun _ => fun
  | [d1, d2] => { results := [.lit (.bool false)], args := [d1, d2] }
  | _ => none }
def NumberSignsWrongFalsely : Prop := numberSignsRow.holds Try.pinned (OpenSpec.ofChange numberSignsWrong)

/-- 'speculumlaw01.NumberPolys': WHATEVER THE INPUT: true; the input reads as it did. -/
def numberPolysSpec : ChangeSpec := { name := "numberPolys", fn := fun _ => fun
  | [d] => { results := [.lit (.bool true)], args := [d] }
  | _ => none }
def numberPolysRow : OpenClaim := { program := "ytndppcmkaaebjaa", sum := "903c3cba16245065e0c711481eab3268edbc498dea1818907dd339fee3a804a0", func := "speculum/speculumlaw01.NumberPolys", spec := "numberPolys", recurses := true, apart := false }
def NumberPolysSaid : Prop := numberPolysRow.holds Try.pinned (OpenSpec.ofChange numberPolysSpec)

/-- ITS FALSE NEIGHBOUR: 'it returns false'. Refute it at one input. -/
def numberPolysWrong : ChangeSpec := { name := "numberPolys", fn := fun _ => fun
  | [d] => { results := [.lit (.bool false)], args := [d] }
  | _ => none }
def NumberPolysWrongFalsely : Prop := numberPolysRow.holds Try.pinned (OpenSpec.ofChange numberPolysWrong)

/-- 'speculumlaw01.NumberRoots': WHATEVER THE INPUT: true; the input reads as it did. -/
def numberRootsSpec : ChangeSpec := { name := "numberRoots", fn := fun _ => fun
  | [d1, d2, d3] => { results := [.lit (.bool true)], args := [d1, d2, d3] }
  | _ => none }
def numberRootsRow : OpenClaim := { program := "ytndppcmkaaebjaa", sum := "903c3cba16245065e0c711481eab3268edbc498dea1818907dd339fee3a804a0", func := "speculum/speculumlaw01.NumberRoots", spec := "numberRoots", recurses := true, apart := false }
def NumberRootsSaid : Prop := numberRootsRow.holds Try.pinned (OpenSpec.ofChange numberRootsSpec)

/-- ITS FALSE NEIGHBOUR: 'it returns false'. Refute it at one input. -/
def numberRootsWrong : ChangeSpec := { name := "numberRoots", fn := fun _ => fun
  | [d1, d2, d3] => { results := [.lit (.bool false)], args := [d1, d2, d3] }
  | _ => none }
def NumberRootsWrongFalsely : Prop := numberRootsRow.holds Try.pinned (OpenSpec.ofChange numberRootsWrong)

/-- 'speculumlaw01.NumberTimes': WHATEVER THE INPUT: true; the input reads as it did. -/
def numberTimesSpec : ChangeSpec := { name := "numberTimes", fn := fun _ => fun
  | [d1, d2, d3] => { results := [.lit (.bool true)], args := [d1, d2, d3] }
  | _ => none }
def numberTimesRow : OpenClaim := { program := "ytndppcmkaaebjaa", sum := "903c3cba16245065e0c711481eab3268edbc498dea1818907dd339fee3a804a0", func := "speculum/speculumlaw01.NumberTimes", spec := "numberTimes", recurses := true, apart := false }
def NumberTimesSaid : Prop := numberTimesRow.holds Try.pinned (OpenSpec.ofChange numberTimesSpec)

/-- ITS FALSE NEIGHBOUR: 'it returns false'. Refute it at one input. -/
def numberTimesWrong : ChangeSpec := { name := "numberTimes", fn := fun _ => fun
  | [d1, d2, d3] => { results := [.lit (.bool false)], args := [d1, d2, d3] }
  | _ => none }
def NumberTimesWrongFalsely : Prop := numberTimesRow.holds Try.pinned (OpenSpec.ofChange numberTimesWrong)

/-- 'speculumlaw01.NumberEnclosed': WHATEVER THE INPUT: true; the input reads as it did. -/
def numberEnclosedSpec : ChangeSpec := { name := "numberEnclosed", fn := fun _ => fun
  | [d1, d2] => { results := [.lit (.bool true)], args := [d1, d2] }
  | _ => none }
def numberEnclosedRow : OpenClaim := { program := "ytndppcmkaaebjaa", sum := "903c3cba16245065e0c711481eab3268edbc498dea1818907dd339fee3a804a0", func := "speculum/speculumlaw01.NumberEnclosed", spec := "numberEnclosed", recurses := true, apart := false }
def NumberEnclosedSaid : Prop := numberEnclosedRow.holds Try.pinned (OpenSpec.ofChange numberEnclosedSpec)

/-- ITS FALSE NEIGHBOUR: 'it returns false'. Refute it at one input. -/
def numberEnclosedWrong : ChangeSpec := { name := "numberEnclosed", fn := fun _ => fun
  | [d1, d2] => { results := [.lit (.bool false)], args := [d1, d2] }
  | _ => none }
def NumberEnclosedWrongFalsely : Prop := numberEnclosedRow.holds Try.pinned (OpenSpec.ofChange numberEnclosedWrong)

/-- 'speculumlaw01.NumberFracs': WHATEVER THE INPUT: true; the input reads as it did. -/
def numberFracsSpec : ChangeSpec := { name := "numberFracs", fn := fun _ => fun
  | [d1, d2] => { results := [.lit (.bool true)], args := [d1, d2] }
  | _ => none }
def numberFracsRow : OpenClaim := { program := "ytndppcmkaaebjaa", sum := "903c3cba16245065e0c711481eab3268edbc498dea1818907dd339fee3a804a0", func := "speculum/speculumlaw01.NumberFracs", spec := "numberFracs", recurses := true, apart := false }
def NumberFracsSaid : Prop := numberFracsRow.holds Try.pinned (OpenSpec.ofChange numberFracsSpec)

/-- ITS FALSE NEIGHBOUR: 'it returns false'. Refute it at one input. -/
def numberFracsWrong : ChangeSpec := { name := "numberFracs", fn := fun _ => fun
  | [d1, d2] => { results := [.lit (.bool false)], args := [d1, d2] }
  | _ => none }
def NumberFracsWrongFalsely : Prop := numberFracsRow.holds Try.pinned (OpenSpec.ofChange numberFracsWrong)

/-- 'speculumlaw01.NumberRanges': WHATEVER THE INPUT: true; the input reads as it did. -/
def numberRangesSpec : ChangeSpec := { name := "numberRanges", fn := fun _ => fun
  | [d1, d2] => { results := [.lit (.bool true)], args := [d1, d2] }
  | _ => none }
def numberRangesRow : OpenClaim := { program := "ytndppcmkaaebjaa", sum := "903c3cba16245065e0c711481eab3268edbc498dea1818907dd339fee3a804a0", func := "speculum/speculumlaw01.NumberRanges", spec := "numberRanges", recurses := true, apart := false }
def NumberRangesSaid : Prop := numberRangesRow.holds Try.pinned (OpenSpec.ofChange numberRangesSpec)

/-- ITS FALSE NEIGHBOUR: 'it returns false'. Refute it at one input. -/
def numberRangesWrong : ChangeSpec := { name := "numberRanges", fn := fun _ => fun
  | [d1, d2] => { results := [.lit (.bool false)], args := [d1, d2] }
  | _ => none }
def NumberRangesWrongFalsely : Prop := numberRangesRow.holds Try.pinned (OpenSpec.ofChange numberRangesWrong)

/- THE SECOND FORM. 'bulk': how many values and letters a reading holds, each counted each time it is reached (what is shared counts as often as it is met; a slice's spare places count too). A statement '..UptoSaid' is the law's where the arguments, and the package variables that the reading takes, are together of bulk at most 1048576: NARROWER than '..Said'. Prove '..Said' where nothing that the law and all that it calls make is longer than what came in: it says more and counts as full. Else prove '..UptoSaid'. A law counts once. -/
mutual
def uptoBulk {H : Type} : DataW H → Nat
  | .lit (.string bytes) => bytes.length + 1
  | .lit _ => 1
  | .nil => 1
  | .ptr d => uptoBulk d + 1
  | .slice elems spare => uptoBulkAll elems + uptoBulkAll spare + 1
  | .agg parts => uptoBulkAll parts + 1
  | .iface _ d => uptoBulk d + 1
  | .map entries => uptoBulkEntries entries + 1
  | .held _ => 1
def uptoBulkAll {H : Type} : List (DataW H) → Nat
  | [] => 0
  | d :: r => uptoBulk d + uptoBulkAll r
def uptoBulkEntries {H : Type} : List (Lit × DataW H) → Nat
  | [] => 0
  | x :: r => uptoBulkEntry x + uptoBulkEntries r
def uptoBulkEntry {H : Type} : Lit × DataW H → Nat
  | (.string bytes, d) => bytes.length + uptoBulk d + 1
  | (_, d) => uptoBulk d + 1
 end
def uptoSmall : (H : Type) → List (DataW H) → Bool := fun _ ds => decide (uptoBulkAll ds ≤ 1048576)
def OpenSpec.upto (s : _root_.Go.ChangeSpec) : _root_.Go.OpenSpec := { _root_.Go.OpenSpec.ofChange s with cond := some uptoSmall }

/-- 'speculumlaw01.NumberCounts', WHERE WHAT IT READS IS OF BULK AT MOST 1048576: true; the input reads as it did. -/
def numberCountsUptoRow : OpenClaim := { program := "ytndppcmkaaebjaa", sum := "903c3cba16245065e0c711481eab3268edbc498dea1818907dd339fee3a804a0", func := "speculum/speculumlaw01.NumberCounts", spec := "numberCounts", recurses := true, apart := false, narrowed := true }
def NumberCountsUptoSaid : Prop := numberCountsUptoRow.holds Try.pinned (OpenSpec.upto numberCountsSpec)

/-- 'speculumlaw01.NumberWholes', WHERE WHAT IT READS IS OF BULK AT MOST 1048576: true; the input reads as it did. -/
def numberWholesUptoRow : OpenClaim := { program := "ytndppcmkaaebjaa", sum := "903c3cba16245065e0c711481eab3268edbc498dea1818907dd339fee3a804a0", func := "speculum/speculumlaw01.NumberWholes", spec := "numberWholes", recurses := true, apart := false, narrowed := true }
def NumberWholesUptoSaid : Prop := numberWholesUptoRow.holds Try.pinned (OpenSpec.upto numberWholesSpec)

/-- 'speculumlaw01.NumberSigns', WHERE WHAT IT READS IS OF BULK AT MOST 1048576: true; the input reads as it did. -/
def numberSignsUptoRow : OpenClaim := { program := "ytndppcmkaaebjaa", sum := "903c3cba16245065e0c711481eab3268edbc498dea1818907dd339fee3a804a0", func := "speculum/speculumlaw01.NumberSigns", spec := "numberSigns", recurses := true, apart := false, narrowed := true }
def NumberSignsUptoSaid : Prop := numberSignsUptoRow.holds Try.pinned (OpenSpec.upto numberSignsSpec)

/-- 'speculumlaw01.NumberPolys', WHERE WHAT IT READS IS OF BULK AT MOST 1048576: true; the input reads as it did. -/
def numberPolysUptoRow : OpenClaim := { program := "ytndppcmkaaebjaa", sum := "903c3cba16245065e0c711481eab3268edbc498dea1818907dd339fee3a804a0", func := "speculum/speculumlaw01.NumberPolys", spec := "numberPolys", recurses := true, apart := false, narrowed := true }
def NumberPolysUptoSaid : Prop := numberPolysUptoRow.holds Try.pinned (OpenSpec.upto numberPolysSpec)

/-- 'speculumlaw01.NumberRoots', WHERE WHAT IT READS IS OF BULK AT MOST 1048576: true; the input reads as it did. -/
def numberRootsUptoRow : OpenClaim := { program := "ytndppcmkaaebjaa", sum := "903c3cba16245065e0c711481eab3268edbc498dea1818907dd339fee3a804a0", func := "speculum/speculumlaw01.NumberRoots", spec := "numberRoots", recurses := true, apart := false, narrowed := true }
def NumberRootsUptoSaid : Prop := numberRootsUptoRow.holds Try.pinned (OpenSpec.upto numberRootsSpec)

/-- 'speculumlaw01.NumberTimes', WHERE WHAT IT READS IS OF BULK AT MOST 1048576: true; the input reads as it did. -/
def numberTimesUptoRow : OpenClaim := { program := "ytndppcmkaaebjaa", sum := "903c3cba16245065e0c711481eab3268edbc498dea1818907dd339fee3a804a0", func := "speculum/speculumlaw01.NumberTimes", spec := "numberTimes", recurses := true, apart := false, narrowed := true }
def NumberTimesUptoSaid : Prop := numberTimesUptoRow.holds Try.pinned (OpenSpec.upto numberTimesSpec)

/-- 'speculumlaw01.NumberEnclosed', WHERE WHAT IT READS IS OF BULK AT MOST 1048576: true; the input reads as it did. -/
def numberEnclosedUptoRow : OpenClaim := { program := "ytndppcmkaaebjaa", sum := "903c3cba16245065e0c711481eab3268edbc498dea1818907dd339fee3a804a0", func := "speculum/speculumlaw01.NumberEnclosed", spec := "numberEnclosed", recurses := true, apart := false, narrowed := true }
def NumberEnclosedUptoSaid : Prop := numberEnclosedUptoRow.holds Try.pinned (OpenSpec.upto numberEnclosedSpec)

/-- 'speculumlaw01.NumberFracs', WHERE WHAT IT READS IS OF BULK AT MOST 1048576: true; the input reads as it did. -/
def numberFracsUptoRow : OpenClaim := { program := "ytndppcmkaaebjaa", sum := "903c3cba16245065e0c711481eab3268edbc498dea1818907dd339fee3a804a0", func := "speculum/speculumlaw01.NumberFracs", spec := "numberFracs", recurses := true, apart := false, narrowed := true }
def NumberFracsUptoSaid : Prop := numberFracsUptoRow.holds Try.pinned (OpenSpec.upto numberFracsSpec)

/-- 'speculumlaw01.NumberRanges', WHERE WHAT IT READS IS OF BULK AT MOST 1048576: true; the input reads as it did. -/
def numberRangesUptoRow : OpenClaim := { program := "ytndppcmkaaebjaa", sum := "903c3cba16245065e0c711481eab3268edbc498dea1818907dd339fee3a804a0", func := "speculum/speculumlaw01.NumberRanges", spec := "numberRanges", recurses := true, apart := false, narrowed := true }
def NumberRangesUptoSaid : Prop := numberRangesUptoRow.holds Try.pinned (OpenSpec.upto numberRangesSpec)

end Rows
end Go.Proofs.Ytndppcmkaaebjaa
