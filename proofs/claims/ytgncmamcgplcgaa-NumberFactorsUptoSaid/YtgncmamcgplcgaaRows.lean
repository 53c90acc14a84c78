/-
  No cell of these rows narrows 'for every input' (looked for: loops, veiled, ifaces, maps, wideKeys, modest, calm, conditions, laid).
  DERIVED. THE GIVEN ROWS OF THIS SEAT. 9 by the template 'for every input the law returns true; each argument reads behind the call as it read before'; 0 by the template 'total and deterministic' (their statements: YtgncmamcgplcgaaTotals.lean).
  GIVEN WITH THE SEED: the statements are not yours to turn. If you find one false, say at which input.
  Laid BY PROGRAM, IN A SANDBOX (cutbox-rows.mjs): the forced cells as the released guide's own fill.sh prints them over the translation bdd389e99664d2a0… (all of the seat's roots in one cut). By AI agents, Wed Nov 11 2026. No macro, syntax, notation, axiom, sorry.
-/
import Derived.Test.YtgncmamcgplcgaaChecked
import GoSem.Claim
import GoSem.ClaimJoined
import GoSem.ClaimMapViews
import Derived.JoinedTies
import Derived.KernelRfl
namespace Go.Proofs.Ytgncmamcgplcgaa
/- THE CELL 'sum', in the pinned program and in every row, IS THE sha256 OF THE DUMP (.gsa) THAT YtgncmamcgplcgaaProg.lean LOADS. Nothing in Lean hashes anything: it is a label: what it is worth is what the hold of that sum in a sandbox is worth. -/
noncomputable def Try.pinned : Pinned := { name := "ytgncmamcgplcgaa", sum := "bdd389e99664d2a062c0c668e24a78b2fa8f77f69d24479820dc59df686f1c29", checked := Try.checked }
namespace Rows
def none {H : Type} : Left H := { results := [], args := [] }

/-- 'speculumlaw01.NumberSines': WHATEVER THE INPUT: true; the input reads as it did. -/
def numberSinesSpec : ChangeSpec := { name := "numberSines", fn := fun _ => fun
  | [d1, d2] => { results := [.lit (.bool true)], args := [d1, d2] }
  | _ => none }
def numberSinesRow : OpenClaim := { program := "ytgncmamcgplcgaa", sum := "bdd389e99664d2a062c0c668e24a78b2fa8f77f69d24479820dc59df686f1c29", func := "speculum/speculumlaw01.NumberSines", spec := "numberSines", recurses := true, apart := false }
def NumberSinesSaid : Prop := numberSinesRow.holds Try.pinned (OpenSpec.ofChange numberSinesSpec)

/-- ITS FALSE NEIGHBOUR: 'it returns false'. Refute it at one input. -/
def numberSinesWrong : ChangeSpec := { name := "numberSines", fn := fun _ => fun
  | [d1, d2] => { results := [.lit (.bool false)], args := [d1, d2] }
  | _ => none }
def NumberSinesWrongFalsely : Prop := numberSinesRow.holds Try.pinned (OpenSpec.ofChange numberSinesWrong)

/-- 'speculumlaw01.NumberCircle': WHATEVER THE INPUT: true; the input reads as it did. -/
def numberCircleSpec : ChangeSpec := { name := "numberCircle", fn := fun _ => fun
  | [d1, d2] => { results := [.lit (.bool true)], args := [d1, d2] }
  | _ => none }
def numberCircleRow : OpenClaim := { program := "ytgncmamcgplcgaa", sum := "bdd389e99664d2a062c0c668e24a78b2fa8f77f69d24479820dc59df686f1c29", func := "speculum/speculumlaw01.NumberCircle", spec := "numberCircle", recurses := true, apart := false }
def NumberCircleSaid : Prop := numberCircleRow.holds Try.pinned (OpenSpec.ofChange numberCircleSpec)

/-- ITS FALSE NEIGHBOUR: 'it returns false'. Refute it at one input. -/
def numberCircleWrong : ChangeSpec := { name := "numberCircle", fn := fun _ => fun
  | [d1, d2] => { results := [.lit (.bool false)], args := [d1, d2] }
  | _ => none }
def NumberCircleWrongFalsely : Prop := numberCircleRow.holds Try.pinned (OpenSpec.ofChange numberCircleWrong)

/-- 'speculumlaw01.NumberAdds': WHATEVER THE INPUT: true; the input reads as it did. -/
def numberAddsSpec : ChangeSpec := { name := "numberAdds", fn := fun _ => fun
  | [d1, d2, d3] => { results := [.lit (.bool true)], args := [d1, d2, d3] }
  | _ => none }
def numberAddsRow : OpenClaim := { program := "ytgncmamcgplcgaa", sum := "bdd389e99664d2a062c0c668e24a78b2fa8f77f69d24479820dc59df686f1c29", func := "speculum/speculumlaw01.NumberAdds", spec := "numberAdds", recurses := true, apart := false }
def NumberAddsSaid : Prop := numberAddsRow.holds Try.pinned (OpenSpec.ofChange numberAddsSpec)

/-- ITS FALSE NEIGHBOUR: 'it returns false'. Refute it at one input. -/
def numberAddsWrong : ChangeSpec := { name := "numberAdds", fn := fun _ => fun
  | [d1, d2, d3] => { results := [.lit (.bool false)], args := [d1, d2, d3] }
  | _ => none }
def NumberAddsWrongFalsely : Prop := numberAddsRow.holds Try.pinned (OpenSpec.ofChange numberAddsWrong)

/-- 'speculumlaw01.NumberTimes': WHATEVER THE INPUT: true; the input reads as it did. -/
def numberTimesSpec : ChangeSpec := { name := "numberTimes", fn := fun _ => fun
  | [d1, d2, d3] => { results := [.lit (.bool true)], args := [d1, d2, d3] }
  | _ => none }
def numberTimesRow : OpenClaim := { program := "ytgncmamcgplcgaa", sum := "bdd389e99664d2a062c0c668e24a78b2fa8f77f69d24479820dc59df686f1c29", func := "speculum/speculumlaw01.NumberTimes", spec := "numberTimes", recurses := true, apart := false }
def NumberTimesSaid : Prop := numberTimesRow.holds Try.pinned (OpenSpec.ofChange numberTimesSpec)

/-- ITS FALSE NEIGHBOUR: 'it returns false'. Refute it at one input. -/
def numberTimesWrong : ChangeSpec := { name := "numberTimes", fn := fun _ => fun
  | [d1, d2, d3] => { results := [.lit (.bool false)], args := [d1, d2, d3] }
  | _ => none }
def NumberTimesWrongFalsely : Prop := numberTimesRow.holds Try.pinned (OpenSpec.ofChange numberTimesWrong)

/-- 'speculumlaw01.NumberEnclosed': WHATEVER THE INPUT: true; the input reads as it did. -/
def numberEnclosedSpec : ChangeSpec := { name := "numberEnclosed", fn := fun _ => fun
  | [d1, d2] => { results := [.lit (.bool true)], args := [d1, d2] }
  | _ => none }
def numberEnclosedRow : OpenClaim := { program := "ytgncmamcgplcgaa", sum := "bdd389e99664d2a062c0c668e24a78b2fa8f77f69d24479820dc59df686f1c29", func := "speculum/speculumlaw01.NumberEnclosed", spec := "numberEnclosed", recurses := true, apart := false }
def NumberEnclosedSaid : Prop := numberEnclosedRow.holds Try.pinned (OpenSpec.ofChange numberEnclosedSpec)

/-- ITS FALSE NEIGHBOUR: 'it returns false'. Refute it at one input. -/
def numberEnclosedWrong : ChangeSpec := { name := "numberEnclosed", fn := fun _ => fun
  | [d1, d2] => { results := [.lit (.bool false)], args := [d1, d2] }
  | _ => none }
def NumberEnclosedWrongFalsely : Prop := numberEnclosedRow.holds Try.pinned (OpenSpec.ofChange numberEnclosedWrong)

/-- 'speculumlaw01.NumberAngles': WHATEVER THE INPUT: true; the input reads as it did. -/
def numberAnglesSpec : ChangeSpec := { name := "numberAngles", fn := fun _ => fun
  | [d1, d2] => { results := [.lit (.bool true)], args := [d1, d2] }
  | _ => none }
def numberAnglesRow : OpenClaim := { program := "ytgncmamcgplcgaa", sum := "bdd389e99664d2a062c0c668e24a78b2fa8f77f69d24479820dc59df686f1c29", func := "speculum/speculumlaw01.NumberAngles", spec := "numberAngles", recurses := true, apart := false }
def NumberAnglesSaid : Prop := numberAnglesRow.holds Try.pinned (OpenSpec.ofChange numberAnglesSpec)

/-- ITS FALSE NEIGHBOUR: 'it returns false'. Refute it at one input. -/
def numberAnglesWrong : ChangeSpec := { name := "numberAngles", fn := fun _ => fun
  | [d1, d2] => { results := [.lit (.bool false)], args := [d1, d2] }
  | _ => none }
def NumberAnglesWrongFalsely : Prop := numberAnglesRow.holds Try.pinned (OpenSpec.ofChange numberAnglesWrong)

/-- 'speculumlaw01.NumberFactors': WHATEVER THE INPUT: true; the input reads as it did. -/
def numberFactorsSpec : ChangeSpec := { name := "numberFactors", fn := fun _ => fun
  | [d1, d2, d3] => { results := [.lit (.bool true)], args := [d1, d2, d3] }
  | _ => none }
def numberFactorsRow : OpenClaim := { program := "ytgncmamcgplcgaa", sum := "bdd389e99664d2a062c0c668e24a78b2fa8f77f69d24479820dc59df686f1c29", func := "speculum/speculumlaw01.NumberFactors", spec := "numberFactors", recurses := true, apart := false }
def NumberFactorsSaid : Prop := numberFactorsRow.holds Try.pinned (OpenSpec.ofChange numberFactorsSpec)

/-- ITS FALSE NEIGHBOUR: 'it returns false'. Refute it at one input. -/
def numberFactorsWrong : ChangeSpec := { name := "numberFactors", fn := fun _ => fun
  | [d1, d2, d3] => { results := [.lit (.bool false)], args := [d1, d2, d3] }
  | _ => none }
def NumberFactorsWrongFalsely : Prop := numberFactorsRow.holds Try.pinned (OpenSpec.ofChange numberFactorsWrong)

/-- 'speculumtop.TopRootsEnclosed': WHATEVER THE INPUT: true; the input reads as it did. -/
def topRootsEnclosedSpec : ChangeSpec := { name := "topRootsEnclosed", fn := fun _ => fun
  | [d1, d2, d3] => { results := [.lit (.bool true)], args := [d1, d2, d3] }
  | _ => none }
def topRootsEnclosedRow : OpenClaim := { program := "ytgncmamcgplcgaa", sum := "bdd389e99664d2a062c0c668e24a78b2fa8f77f69d24479820dc59df686f1c29", func := "speculum/speculumtop.TopRootsEnclosed", spec := "topRootsEnclosed", recurses := true, apart := false }
def TopRootsEnclosedSaid : Prop := topRootsEnclosedRow.holds Try.pinned (OpenSpec.ofChange topRootsEnclosedSpec)

/-- ITS FALSE NEIGHBOUR: 'it returns false'. Refute it at one input. -/
def topRootsEnclosedWrong : ChangeSpec := { name := "topRootsEnclosed", fn := fun _ => fun
  | [d1, d2, d3] => { results := [.lit (.bool false)], args := [d1, d2, d3] }
  | _ => none }
def TopRootsEnclosedWrongFalsely : Prop := topRootsEnclosedRow.holds Try.pinned (OpenSpec.ofChange topRootsEnclosedWrong)

/-- 'speculumtop.TopThreeSquares': WHATEVER THE INPUT: true; the input reads as it did. -/
def topThreeSquaresSpec : ChangeSpec := { name := "topThreeSquares", fn := fun _ => fun
  | [d1, d2] => { results := [.lit (.bool true)], args := [d1, d2] }
  | _ => none }
def topThreeSquaresRow : OpenClaim := { program := "ytgncmamcgplcgaa", sum := "bdd389e99664d2a062c0c668e24a78b2fa8f77f69d24479820dc59df686f1c29", func := "speculum/speculumtop.TopThreeSquares", spec := "topThreeSquares", recurses := true, apart := false }
def TopThreeSquaresSaid : Prop := topThreeSquaresRow.holds Try.pinned (OpenSpec.ofChange topThreeSquaresSpec)

/-- ITS FALSE NEIGHBOUR: 'it returns false'. Refute it at one input. -/
def topThreeSquaresWrong : ChangeSpec := { name := "topThreeSquares", fn := fun _ => fun
  | [d1, d2] => { results := [.lit (.bool false)], args := [d1, d2] }
  | _ => none }
def TopThreeSquaresWrongFalsely : Prop := topThreeSquaresRow.holds Try.pinned (OpenSpec.ofChange topThreeSquaresWrong)

/- THE SECOND FORM. 'bulk': how many values and letters a reading holds, each counted each time it is reached (what is shared counts as often as it is met; a slice's spare places count too). A statement '..UptoSaid' is the law's where the arguments, and the package variables that the reading takes, are together of bulk at most 1048576: NARROWER than '..Said'. Prove '..Said' where nothing that the law and all that it calls make is longer than what came in: it says more and counts as full. Else prove '..UptoSaid'. A law counts once. -/
mutual
def uptoBulk {H : Type} : DataW H → Nat
  | .lit (.string bytes) => bytes.length + 1
  | .lit _ => 1
  | .nil => 1
  | .ptr d => uptoBulk d + 1
  | .slice elems spare => uptoBulkAll elems + uptoBulkAll spare + 1
  | .agg parts => uptoBulkAll parts + 1
  | .iface _ d => uptoBulk d + 1
  | .map entries => uptoBulkEntries entries + 1
  | .held _ => 1
def uptoBulkAll {H : Type} : List (DataW H) → Nat
  | [] => 0
  | d :: r => uptoBulk d + uptoBulkAll r
def uptoBulkEntries {H : Type} : List (Lit × DataW H) → Nat
  | [] => 0
  | x :: r => uptoBulkEntry x + uptoBulkEntries r
def uptoBulkEntry {H : Type} : Lit × DataW H → Nat
  | (.string bytes, d) => bytes.length + uptoBulk d + 1
  | (_, d) => uptoBulk d + 1
 end
def uptoSmall : (H : Type) → List (DataW H) → Bool := fun _ ds => decide (uptoBulkAll ds ≤ 1048576)
def OpenSpec.upto (s : _root_.Go.ChangeSpec) : _root_.Go.OpenSpec := { _root_.Go.OpenSpec.ofChange s with cond := some uptoSmall }

/-- 'speculumlaw01.NumberSines', WHERE WHAT IT READS IS OF BULK AT MOST 1048576: true; the input reads as it did. -/
def numberSinesUptoRow : OpenClaim := { program := "ytgncmamcgplcgaa", sum := "bdd389e99664d2a062c0c668e24a78b2fa8f77f69d24479820dc59df686f1c29", func := "speculum/speculumlaw01.NumberSines", spec := "numberSines", recurses := true, apart := false, narrowed := true }
def NumberSinesUptoSaid : Prop := numberSinesUptoRow.holds Try.pinned (OpenSpec.upto numberSinesSpec)

/-- 'speculumlaw01.NumberCircle', WHERE WHAT IT READS IS OF BULK AT MOST 1048576: true; the input reads as it did. -/
def numberCircleUptoRow : OpenClaim := { program := "ytgncmamcgplcgaa", sum := "bdd389e99664d2a062c0c668e24a78b2fa8f77f69d24479820dc59df686f1c29", func := "speculum/speculumlaw01.NumberCircle", spec := "numberCircle", recurses := true, apart := false, narrowed := true }
def NumberCircleUptoSaid : Prop := numberCircleUptoRow.holds Try.pinned (OpenSpec.upto numberCircleSpec)

/-- 'speculumlaw01.NumberAdds', WHERE WHAT IT READS IS OF BULK AT MOST 1048576: true; the input reads as it did. -/
def numberAddsUptoRow : OpenClaim := { program := "ytgncmamcgplcgaa", sum := "bdd389e99664d2a062c0c668e24a78b2fa8f77f69d24479820dc59df686f1c29", func := "speculum/speculumlaw01.NumberAdds", spec := "numberAdds", recurses := true, apart := false, narrowed := true }
def NumberAddsUptoSaid : Prop := numberAddsUptoRow.holds Try.pinned (OpenSpec.upto numberAddsSpec)

/-- 'speculumlaw01.NumberTimes', WHERE WHAT IT READS IS OF BULK AT MOST 1048576: true; the input reads as it did. -/
def numberTimesUptoRow : OpenClaim := { program := "ytgncmamcgplcgaa", sum := "bdd389e99664d2a062c0c668e24a78b2fa8f77f69d24479820dc59df686f1c29", func := "speculum/speculumlaw01.NumberTimes", spec := "numberTimes", recurses := true, apart := false, narrowed := true }
def NumberTimesUptoSaid : Prop := numberTimesUptoRow.holds Try.pinned (OpenSpec.upto numberTimesSpec)

/-- 'speculumlaw01.NumberEnclosed', WHERE WHAT IT READS IS OF BULK AT MOST 1048576: true; the input reads as it did. -/
def numberEnclosedUptoRow : OpenClaim := { program := "ytgncmamcgplcgaa", sum := "bdd389e99664d2a062c0c668e24a78b2fa8f77f69d24479820dc59df686f1c29", func := "speculum/speculumlaw01.NumberEnclosed", spec := "numberEnclosed", recurses := true, apart := false, narrowed := true }
def NumberEnclosedUptoSaid : Prop := numberEnclosedUptoRow.holds Try.pinned (OpenSpec.upto numberEnclosedSpec)

/-- 'speculumlaw01.NumberAngles', WHERE WHAT IT READS IS OF BULK AT MOST 1048576: true; the input reads as it did. -/
def numberAnglesUptoRow : OpenClaim := { program := "ytgncmamcgplcgaa", sum := "bdd389e99664d2a062c0c668e24a78b2fa8f77f69d24479820dc59df686f1c29", func := "speculum/speculumlaw01.NumberAngles", spec := "numberAngles", recurses := true, apart := false, narrowed := true }
def NumberAnglesUptoSaid : Prop := numberAnglesUptoRow.holds Try.pinned (OpenSpec.upto numberAnglesSpec)

/-- 'speculumlaw01.NumberFactors', WHERE WHAT IT READS IS OF BULK AT MOST 1048576: true; the input reads as it did. -/
def numberFactorsUptoRow : OpenClaim := { program := "ytgncmamcgplcgaa", sum := "bdd389e99664d2a062c0c668e24a78b2fa8f77f69d24479820dc59df686f1c29", func := "speculum/speculumlaw01.NumberFactors", spec := "numberFactors", recurses := true, apart := false, narrowed := true }
def NumberFactorsUptoSaid : Prop := numberFactorsUptoRow.holds Try.pinned (OpenSpec.upto numberFactorsSpec)

/-- 'speculumtop.TopRootsEnclosed', WHERE WHAT IT READS IS OF BULK AT MOST 1048576: true; the input reads as it did. -/
def topRootsEnclosedUptoRow : OpenClaim := { program := "ytgncmamcgplcgaa", sum := "bdd389e99664d2a062c0c668e24a78b2fa8f77f69d24479820dc59df686f1c29", func := "speculum/speculumtop.TopRootsEnclosed", spec := "topRootsEnclosed", recurses := true, apart := false, narrowed := true }
def TopRootsEnclosedUptoSaid : Prop := topRootsEnclosedUptoRow.holds Try.pinned (OpenSpec.upto topRootsEnclosedSpec)

/-- 'speculumtop.TopThreeSquares', WHERE WHAT IT READS IS OF BULK AT MOST 1048576: true; the input reads as it did. -/
def topThreeSquaresUptoRow : OpenClaim := { program := "ytgncmamcgplcgaa", sum := "bdd389e99664d2a062c0c668e24a78b2fa8f77f69d24479820dc59df686f1c29", func := "speculum/speculumtop.TopThreeSquares", spec := "topThreeSquares", recurses := true, apart := false, narrowed := true }
def TopThreeSquaresUptoSaid : Prop := topThreeSquaresUptoRow.holds Try.pinned (OpenSpec.upto topThreeSquaresSpec)

end Rows
end Go.Proofs.Ytgncmamcgplcgaa
