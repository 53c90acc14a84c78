/-
  No cell of these rows narrows 'for every input' (looked for: loops, veiled, ifaces, maps, wideKeys, modest, calm, conditions, laid).
  DERIVED. THE GIVEN ROWS OF THIS SEAT. 12 by the template 'for every input the law returns true; each argument reads behind the call as it read before'; 0 by the template 'total and deterministic' (their statements: YtnkpnobdhoemoaaTotals.lean).
  GIVEN WITH THE SEED: the statements are not yours to turn. If you find one false, say at which input.
  Laid BY PROGRAM, IN A SANDBOX (cutbox-rows.mjs): the forced cells as the released guide's own fill.sh prints them over the translation 6d8819b98ac1eaaa… (all of the seat's roots in one cut). By AI agents, Wed Nov 11 2026. No macro, syntax, notation, axiom, sorry.
-/
import Derived.Test.YtnkpnobdhoemoaaChecked
import GoSem.Claim
import GoSem.ClaimJoined
import GoSem.ClaimMapViews
import Derived.JoinedTies
import Derived.KernelRfl
namespace Go.Proofs.Ytnkpnobdhoemoaa
/- THE CELL 'sum', in the pinned program and in every row, IS THE sha256 OF THE DUMP (.gsa) THAT YtnkpnobdhoemoaaProg.lean LOADS. Nothing in Lean hashes anything: it is a label: what it is worth is what the hold of that sum in a sandbox is worth. -/
noncomputable def Try.pinned : Pinned := { name := "ytnkpnobdhoemoaa", sum := "6d8819b98ac1eaaa821c23fc45b66061522a57a70053f847990d06982d391e00", checked := Try.checked }
namespace Rows
def none {H : Type} : Left H := { results := [], args := [] }

/-- 'speculumlaw03.BlankDivides': WHATEVER THE INPUT: true; the input reads as it did. -/
def blankDividesSpec : ChangeSpec := { name := "blankDivides", fn := fun _ => fun
  | [d1, d2] => { results := [.lit (.bool true)], args := [d1, d2] }
  | _ => none }
def blankDividesRow : OpenClaim := { program := "ytnkpnobdhoemoaa", sum := "6d8819b98ac1eaaa821c23fc45b66061522a57a70053f847990d06982d391e00", func := "speculum/speculumlaw03.BlankDivides", spec := "blankDivides", apart := false }
def BlankDividesSaid : Prop := blankDividesRow.holds Try.pinned (OpenSpec.ofChange blankDividesSpec)

/-- ITS FALSE NEIGHBOUR: 'it returns false'. Refute it at one input. -/
def blankDividesWrong : ChangeSpec := { name := "blankDivides", fn := fun _ => fun
  | [d1, d2] => { results := [.lit (.bool false)], args := [d1, d2] }
  | _ => none }
def BlankDividesWrongFalsely : Prop := blankDividesRow.holds Try.pinned (OpenSpec.ofChange blankDividesWrong)

/-- 'speculumlaw03.BlankGlasses': WHATEVER THE INPUT: true; the input reads as it did. -/
def blankGlassesSpec : ChangeSpec := { name := "blankGlasses", fn := fun _ => fun
  | [d] => { results := [.lit (.bool true)], args := [d] }
  | _ => none }
def blankGlassesRow : OpenClaim := { program := "ytnkpnobdhoemoaa", sum := "6d8819b98ac1eaaa821c23fc45b66061522a57a70053f847990d06982d391e00", func := "speculum/speculumlaw03.BlankGlasses", spec := "blankGlasses", apart := false }
def BlankGlassesSaid : Prop := blankGlassesRow.holds Try.pinned (OpenSpec.ofChange blankGlassesSpec)

/-- ITS FALSE NEIGHBOUR: 'it returns false'. Refute it at one input. -/
def blankGlassesWrong : ChangeSpec := { name := "blankGlasses", fn := fun _ => fun
  | [d] => { results := [.lit (.bool false)], args := [d] }
  | _ => none }
def BlankGlassesWrongFalsely : Prop := blankGlassesRow.holds Try.pinned (OpenSpec.ofChange blankGlassesWrong)

/-- 'speculumlaw03.BlankMasses': WHATEVER THE INPUT: true; the input reads as it did. -/
def blankMassesSpec : ChangeSpec := { name := "blankMasses", fn := fun _ => fun
  | [d] => { results := [.lit (.bool true)], args := [d] }
  | _ => none }
def blankMassesRow : OpenClaim := { program := "ytnkpnobdhoemoaa", sum := "6d8819b98ac1eaaa821c23fc45b66061522a57a70053f847990d06982d391e00", func := "speculum/speculumlaw03.BlankMasses", spec := "blankMasses", apart := false }
def BlankMassesSaid : Prop := blankMassesRow.holds Try.pinned (OpenSpec.ofChange blankMassesSpec)

/-- ITS FALSE NEIGHBOUR: 'it returns false'. Refute it at one input. -/
def blankMassesWrong : ChangeSpec := { name := "blankMasses", fn := fun _ => fun
  | [d] => { results := [.lit (.bool false)], args := [d] }
  | _ => none }
def BlankMassesWrongFalsely : Prop := blankMassesRow.holds Try.pinned (OpenSpec.ofChange blankMassesWrong)

/-- 'speculumlaw03.BlankSystems': WHATEVER THE INPUT: true; the input reads as it did. -/
def blankSystemsSpec : ChangeSpec := { name := "blankSystems", fn := fun _ => fun
  | [d] => { results := [.lit (.bool true)], args := [d] }
  | _ => none }
def blankSystemsRow : OpenClaim := { program := "ytnkpnobdhoemoaa", sum := "6d8819b98ac1eaaa821c23fc45b66061522a57a70053f847990d06982d391e00", func := "speculum/speculumlaw03.BlankSystems", spec := "blankSystems", apart := false }
def BlankSystemsSaid : Prop := blankSystemsRow.holds Try.pinned (OpenSpec.ofChange blankSystemsSpec)

/-- ITS FALSE NEIGHBOUR: 'it returns false'. Refute it at one input. -/
def blankSystemsWrong : ChangeSpec := { name := "blankSystems", fn := fun _ => fun
  | [d] => { results := [.lit (.bool false)], args := [d] }
  | _ => none }
def BlankSystemsWrongFalsely : Prop := blankSystemsRow.holds Try.pinned (OpenSpec.ofChange blankSystemsWrong)

/-- 'speculumlaw03.BlankThicker': WHATEVER THE INPUT: true; the input reads as it did. -/
def blankThickerSpec : ChangeSpec := { name := "blankThicker", fn := fun _ => fun
  | [d1, d2] => { results := [.lit (.bool true)], args := [d1, d2] }
  | _ => none }
def blankThickerRow : OpenClaim := { program := "ytnkpnobdhoemoaa", sum := "6d8819b98ac1eaaa821c23fc45b66061522a57a70053f847990d06982d391e00", func := "speculum/speculumlaw03.BlankThicker", spec := "blankThicker", apart := false }
def BlankThickerSaid : Prop := blankThickerRow.holds Try.pinned (OpenSpec.ofChange blankThickerSpec)

/-- ITS FALSE NEIGHBOUR: 'it returns false'. Refute it at one input. -/
def blankThickerWrong : ChangeSpec := { name := "blankThicker", fn := fun _ => fun
  | [d1, d2] => { results := [.lit (.bool false)], args := [d1, d2] }
  | _ => none }
def BlankThickerWrongFalsely : Prop := blankThickerRow.holds Try.pinned (OpenSpec.ofChange blankThickerWrong)

/-- 'speculumlaw03.BlankDemands': WHATEVER THE INPUT: true; the input reads as it did. -/
def blankDemandsSpec : ChangeSpec := { name := "blankDemands", fn := fun _ => fun
  | [d1, d2, d3] => { results := [.lit (.bool true)], args := [d1, d2, d3] }
  | _ => none }
def blankDemandsRow : OpenClaim := { program := "ytnkpnobdhoemoaa", sum := "6d8819b98ac1eaaa821c23fc45b66061522a57a70053f847990d06982d391e00", func := "speculum/speculumlaw03.BlankDemands", spec := "blankDemands", apart := false }
def BlankDemandsSaid : Prop := blankDemandsRow.holds Try.pinned (OpenSpec.ofChange blankDemandsSpec)

/-- ITS FALSE NEIGHBOUR: 'it returns false'. Refute it at one input. -/
def blankDemandsWrong : ChangeSpec := { name := "blankDemands", fn := fun _ => fun
  | [d1, d2, d3] => { results := [.lit (.bool false)], args := [d1, d2, d3] }
  | _ => none }
def BlankDemandsWrongFalsely : Prop := blankDemandsRow.holds Try.pinned (OpenSpec.ofChange blankDemandsWrong)

/-- 'speculumlaw03.BlankSchedules': WHATEVER THE INPUT: true; the input reads as it did. -/
def blankSchedulesSpec : ChangeSpec := { name := "blankSchedules", fn := fun _ => fun
  | [d] => { results := [.lit (.bool true)], args := [d] }
  | _ => none }
def blankSchedulesRow : OpenClaim := { program := "ytnkpnobdhoemoaa", sum := "6d8819b98ac1eaaa821c23fc45b66061522a57a70053f847990d06982d391e00", func := "speculum/speculumlaw03.BlankSchedules", spec := "blankSchedules", apart := false }
def BlankSchedulesSaid : Prop := blankSchedulesRow.holds Try.pinned (OpenSpec.ofChange blankSchedulesSpec)

/-- ITS FALSE NEIGHBOUR: 'it returns false'. Refute it at one input. -/
def blankSchedulesWrong : ChangeSpec := { name := "blankSchedules", fn := fun _ => fun
  | [d] => { results := [.lit (.bool false)], args := [d] }
  | _ => none }
def BlankSchedulesWrongFalsely : Prop := blankSchedulesRow.holds Try.pinned (OpenSpec.ofChange blankSchedulesWrong)

/-- 'speculumlaw03.BlankCircles': WHATEVER THE INPUT: true; the input reads as it did. -/
def blankCirclesSpec : ChangeSpec := { name := "blankCircles", fn := fun _ => fun
  | [d1, d2] => { results := [.lit (.bool true)], args := [d1, d2] }
  | _ => none }
def blankCirclesRow : OpenClaim := { program := "ytnkpnobdhoemoaa", sum := "6d8819b98ac1eaaa821c23fc45b66061522a57a70053f847990d06982d391e00", func := "speculum/speculumlaw03.BlankCircles", spec := "blankCircles", apart := false }
def BlankCirclesSaid : Prop := blankCirclesRow.holds Try.pinned (OpenSpec.ofChange blankCirclesSpec)

/-- ITS FALSE NEIGHBOUR: 'it returns false'. Refute it at one input. -/
def blankCirclesWrong : ChangeSpec := { name := "blankCircles", fn := fun _ => fun
  | [d1, d2] => { results := [.lit (.bool false)], args := [d1, d2] }
  | _ => none }
def BlankCirclesWrongFalsely : Prop := blankCirclesRow.holds Try.pinned (OpenSpec.ofChange blankCirclesWrong)

/-- 'speculumlaw03.BlankTimes': WHATEVER THE INPUT: true; the input reads as it did. -/
def blankTimesSpec : ChangeSpec := { name := "blankTimes", fn := fun _ => fun
  | [d1, d2] => { results := [.lit (.bool true)], args := [d1, d2] }
  | _ => none }
def blankTimesRow : OpenClaim := { program := "ytnkpnobdhoemoaa", sum := "6d8819b98ac1eaaa821c23fc45b66061522a57a70053f847990d06982d391e00", func := "speculum/speculumlaw03.BlankTimes", spec := "blankTimes", unfollowed := true, recurses := true, apart := false }
def BlankTimesSaid : Prop := blankTimesRow.holds Try.pinned (OpenSpec.ofChange blankTimesSpec)

/-- ITS FALSE NEIGHBOUR: 'it returns false'. Refute it at one input. -/
def blankTimesWrong : ChangeSpec := { name := "blankTimes", fn := fun _ => fun
  | [d1, d2] => { results := [.lit (.bool false)], args := [d1, d2] }
  | _ => none }
def BlankTimesWrongFalsely : Prop := blankTimesRow.holds Try.pinned (OpenSpec.ofChange blankTimesWrong)

/-- 'speculumtop.TopAnnealProved': WHATEVER THE INPUT: true; the input reads as it did. -/
def topAnnealProvedSpec : ChangeSpec := { name := "topAnnealProved", fn := fun _ => fun
  | [d1, d2, d3] => { results := [.lit (.bool true)], args := [d1, d2, d3] }
  | _ => none }
def topAnnealProvedRow : OpenClaim := { program := "ytnkpnobdhoemoaa", sum := "6d8819b98ac1eaaa821c23fc45b66061522a57a70053f847990d06982d391e00", func := "speculum/speculumtop.TopAnnealProved", spec := "topAnnealProved", unfollowed := true, recurses := true, apart := false }
def TopAnnealProvedSaid : Prop := topAnnealProvedRow.holds Try.pinned (OpenSpec.ofChange topAnnealProvedSpec)

/-- ITS FALSE NEIGHBOUR: 'it returns false'. Refute it at one input. -/
def topAnnealProvedWrong : ChangeSpec := { name := "topAnnealProved", fn := fun _ => fun
  | [d1, d2, d3] => { results := [.lit (.bool false)], args := [d1, d2, d3] }
  | _ => none }
def TopAnnealProvedWrongFalsely : Prop := topAnnealProvedRow.holds Try.pinned (OpenSpec.ofChange topAnnealProvedWrong)

/-- 'speculumlaw03.BlankStocks': WHATEVER THE INPUT: true; the input reads as it did. -/
def blankStocksSpec : ChangeSpec := { name := "blankStocks", fn := fun _ => fun
  | [d1, d2, d3] => { results := [.lit (.bool true)], args := [d1, d2, d3] }
  | _ => none }
def blankStocksRow : OpenClaim := { program := "ytnkpnobdhoemoaa", sum := "6d8819b98ac1eaaa821c23fc45b66061522a57a70053f847990d06982d391e00", func := "speculum/speculumlaw03.BlankStocks", spec := "blankStocks", unfollowed := true, recurses := true, apart := false }
def BlankStocksSaid : Prop := blankStocksRow.holds Try.pinned (OpenSpec.ofChange blankStocksSpec)

/-- ITS FALSE NEIGHBOUR: 'it returns false'. Refute it at one input. -/
def blankStocksWrong : ChangeSpec := { name := "blankStocks", fn := fun _ => fun
  | [d1, d2, d3] => { results := [.lit (.bool false)], args := [d1, d2, d3] }
  | _ => none }
def BlankStocksWrongFalsely : Prop := blankStocksRow.holds Try.pinned (OpenSpec.ofChange blankStocksWrong)

/-- 'speculumtop.TopBlankWeighed': WHATEVER THE INPUT: true; the input reads as it did. -/
def topBlankWeighedSpec : ChangeSpec := { name := "topBlankWeighed", fn := fun _ => fun
  | [d1, d2, d3] => { results := [.lit (.bool true)], args := [d1, d2, d3] }
  | _ => none }
def topBlankWeighedRow : OpenClaim := { program := "ytnkpnobdhoemoaa", sum := "6d8819b98ac1eaaa821c23fc45b66061522a57a70053f847990d06982d391e00", func := "speculum/speculumtop.TopBlankWeighed", spec := "topBlankWeighed", unfollowed := true, recurses := true, apart := false }
def TopBlankWeighedSaid : Prop := topBlankWeighedRow.holds Try.pinned (OpenSpec.ofChange topBlankWeighedSpec)

/-- ITS FALSE NEIGHBOUR: 'it returns false'. Refute it at one input. -/
def topBlankWeighedWrong : ChangeSpec := { name := "topBlankWeighed", fn := fun _ => fun
  | [d1, d2, d3] => { results := [.lit (.bool false)], args := [d1, d2, d3] }
  | _ => none }
def TopBlankWeighedWrongFalsely : Prop := topBlankWeighedRow.holds Try.pinned (OpenSpec.ofChange topBlankWeighedWrong)

/- THE SECOND FORM. 'bulk': how many values and letters a reading holds, each counted each time it is reached (what is shared counts as often as it is met; a slice's spare places count too). A statement '..UptoSaid' is the law's where the arguments, and the package variables that the reading takes, are together of bulk at most 1048576: NARROWER than '..Said'. Prove '..Said' where nothing that the law and all that it calls make is longer than what came in: it says more and counts as full. Else prove '..UptoSaid'. A law counts once. -/
mutual
def uptoBulk {H : Type} : DataW H → Nat
  | .lit (.string bytes) => bytes.length + 1
  | .lit _ => 1
  | .nil => 1
  | .ptr d => uptoBulk d + 1
  | .slice elems spare => uptoBulkAll elems + uptoBulkAll spare + 1
  | .agg parts => uptoBulkAll parts + 1
  | .iface _ d => uptoBulk d + 1
  | .map entries => uptoBulkEntries entries + 1
  | .held _ => 1
def uptoBulkAll {H : Type} : List (DataW H) → Nat
  | [] => 0
  | d :: r => uptoBulk d + uptoBulkAll r
def uptoBulkEntries {H : Type} : List (Lit × DataW H) → Nat
  | [] => 0
  | x :: r => uptoBulkEntry x + uptoBulkEntries r
def uptoBulkEntry {H : Type} : Lit × DataW H → Nat
  | (.string bytes, d) => bytes.length + uptoBulk d + 1
  | (_, d) => uptoBulk d + 1
 end
def uptoSmall : (H : Type) → List (DataW H) → Bool := fun _ ds => decide (uptoBulkAll ds ≤ 1048576)
def OpenSpec.upto (s : _root_.Go.ChangeSpec) : _root_.Go.OpenSpec := { _root_.Go.OpenSpec.ofChange s with cond := some uptoSmall }

/-- 'speculumlaw03.BlankDivides', WHERE WHAT IT READS IS OF BULK AT MOST 1048576: true; the input reads as it did. -/
def blankDividesUptoRow : OpenClaim := { program := "ytnkpnobdhoemoaa", sum := "6d8819b98ac1eaaa821c23fc45b66061522a57a70053f847990d06982d391e00", func := "speculum/speculumlaw03.BlankDivides", spec := "blankDivides", apart := false, narrowed := true }
def BlankDividesUptoSaid : Prop := blankDividesUptoRow.holds Try.pinned (OpenSpec.upto blankDividesSpec)

/-- 'speculumlaw03.BlankGlasses', WHERE WHAT IT READS IS OF BULK AT MOST 1048576: true; the input reads as it did. -/
def blankGlassesUptoRow : OpenClaim := { program := "ytnkpnobdhoemoaa", sum := "6d8819b98ac1eaaa821c23fc45b66061522a57a70053f847990d06982d391e00", func := "speculum/speculumlaw03.BlankGlasses", spec := "blankGlasses", apart := false, narrowed := true }
def BlankGlassesUptoSaid : Prop := blankGlassesUptoRow.holds Try.pinned (OpenSpec.upto blankGlassesSpec)

/-- 'speculumlaw03.BlankMasses', WHERE WHAT IT READS IS OF BULK AT MOST 1048576: true; the input reads as it did. -/
def blankMassesUptoRow : OpenClaim := { program := "ytnkpnobdhoemoaa", sum := "6d8819b98ac1eaaa821c23fc45b66061522a57a70053f847990d06982d391e00", func := "speculum/speculumlaw03.BlankMasses", spec := "blankMasses", apart := false, narrowed := true }
def BlankMassesUptoSaid : Prop := blankMassesUptoRow.holds Try.pinned (OpenSpec.upto blankMassesSpec)

/-- 'speculumlaw03.BlankSystems', WHERE WHAT IT READS IS OF BULK AT MOST 1048576: true; the input reads as it did. -/
def blankSystemsUptoRow : OpenClaim := { program := "ytnkpnobdhoemoaa", sum := "6d8819b98ac1eaaa821c23fc45b66061522a57a70053f847990d06982d391e00", func := "speculum/speculumlaw03.BlankSystems", spec := "blankSystems", apart := false, narrowed := true }
def BlankSystemsUptoSaid : Prop := blankSystemsUptoRow.holds Try.pinned (OpenSpec.upto blankSystemsSpec)

/-- 'speculumlaw03.BlankThicker', WHERE WHAT IT READS IS OF BULK AT MOST 1048576: true; the input reads as it did. -/
def blankThickerUptoRow : OpenClaim := { program := "ytnkpnobdhoemoaa", sum := "6d8819b98ac1eaaa821c23fc45b66061522a57a70053f847990d06982d391e00", func := "speculum/speculumlaw03.BlankThicker", spec := "blankThicker", apart := false, narrowed := true }
def BlankThickerUptoSaid : Prop := blankThickerUptoRow.holds Try.pinned (OpenSpec.upto blankThickerSpec)

/-- 'speculumlaw03.BlankDemands', WHERE WHAT IT READS IS OF BULK AT MOST 1048576: true; the input reads as it did. -/
def blankDemandsUptoRow : OpenClaim := { program := "ytnkpnobdhoemoaa", sum := "6d8819b98ac1eaaa821c23fc45b66061522a57a70053f847990d06982d391e00", func := "speculum/speculumlaw03.BlankDemands", spec := "blankDemands", apart := false, narrowed := true }
def BlankDemandsUptoSaid : Prop := blankDemandsUptoRow.holds Try.pinned (OpenSpec.upto blankDemandsSpec)

/-- 'speculumlaw03.BlankSchedules', WHERE WHAT IT READS IS OF BULK AT MOST 1048576: true; the input reads as it did. -/
def blankSchedulesUptoRow : OpenClaim := { program := "ytnkpnobdhoemoaa", sum := "6d8819b98ac1eaaa821c23fc45b66061522a57a70053f847990d06982d391e00", func := "speculum/speculumlaw03.BlankSchedules", spec := "blankSchedules", apart := false, narrowed := true }
def BlankSchedulesUptoSaid : Prop := blankSchedulesUptoRow.holds Try.pinned (OpenSpec.upto blankSchedulesSpec)

/-- 'speculumlaw03.BlankCircles', WHERE WHAT IT READS IS OF BULK AT MOST 1048576: true; the input reads as it did. -/
def blankCirclesUptoRow : OpenClaim := { program := "ytnkpnobdhoemoaa", sum := "6d8819b98ac1eaaa821c23fc45b66061522a57a70053f847990d06982d391e00", func := "speculum/speculumlaw03.BlankCircles", spec := "blankCircles", apart := false, narrowed := true }
def BlankCirclesUptoSaid : Prop := blankCirclesUptoRow.holds Try.pinned (OpenSpec.upto blankCirclesSpec)

/-- 'speculumlaw03.BlankTimes', WHERE WHAT IT READS IS OF BULK AT MOST 1048576: true; the input reads as it did. -/
def blankTimesUptoRow : OpenClaim := { program := "ytnkpnobdhoemoaa", sum := "6d8819b98ac1eaaa821c23fc45b66061522a57a70053f847990d06982d391e00", func := "speculum/speculumlaw03.BlankTimes", spec := "blankTimes", unfollowed := true, recurses := true, apart := false, narrowed := true }
def BlankTimesUptoSaid : Prop := blankTimesUptoRow.holds Try.pinned (OpenSpec.upto blankTimesSpec)

/-- 'speculumtop.TopAnnealProved', WHERE WHAT IT READS IS OF BULK AT MOST 1048576: true; the input reads as it did. -/
def topAnnealProvedUptoRow : OpenClaim := { program := "ytnkpnobdhoemoaa", sum := "6d8819b98ac1eaaa821c23fc45b66061522a57a70053f847990d06982d391e00", func := "speculum/speculumtop.TopAnnealProved", spec := "topAnnealProved", unfollowed := true, recurses := true, apart := false, narrowed := true }
def TopAnnealProvedUptoSaid : Prop := topAnnealProvedUptoRow.holds Try.pinned (OpenSpec.upto topAnnealProvedSpec)

/-- 'speculumlaw03.BlankStocks', WHERE WHAT IT READS IS OF BULK AT MOST 1048576: true; the input reads as it did. -/
def blankStocksUptoRow : OpenClaim := { program := "ytnkpnobdhoemoaa", sum := "6d8819b98ac1eaaa821c23fc45b66061522a57a70053f847990d06982d391e00", func := "speculum/speculumlaw03.BlankStocks", spec := "blankStocks", unfollowed := true, recurses := true, apart := false, narrowed := true }
def BlankStocksUptoSaid : Prop := blankStocksUptoRow.holds Try.pinned (OpenSpec.upto blankStocksSpec)

/-- 'speculumtop.TopBlankWeighed', WHERE WHAT IT READS IS OF BULK AT MOST 1048576: true; the input reads as it did. -/
def topBlankWeighedUptoRow : OpenClaim := { program := "ytnkpnobdhoemoaa", sum := "6d8819b98ac1eaaa821c23fc45b66061522a57a70053f847990d06982d391e00", func := "speculum/speculumtop.TopBlankWeighed", spec := "topBlankWeighed", unfollowed := true, recurses := true, apart := false, narrowed := true }
def TopBlankWeighedUptoSaid : Prop := topBlankWeighedUptoRow.holds Try.pinned (OpenSpec.upto topBlankWeighedSpec)

end Rows
end Go.Proofs.Ytnkpnobdhoemoaa
