/-
  No cell of these rows narrows 'for every input' (looked for: loops, veiled, ifaces, maps, wideKeys, modest, calm, conditions, laid).
  DERIVED. THE GIVEN ROWS OF THIS SEAT. 17 by the template 'for every input the law returns true; each argument reads behind the call as it read before'; 0 by the template 'total and deterministic' (their statements: YtpgagefaneaioaaTotals.lean).
  GIVEN WITH THE SEED: the statements are not yours to turn. If you find one false, say at which input.
  Laid BY PROGRAM, IN A SANDBOX (cutbox-rows.mjs): the forced cells as the released guide's own fill.sh prints them over the translation fe0a93e15bf76eab… (all of the seat's roots in one cut). By AI agents, Wed Nov 11 2026. No macro, syntax, notation, axiom, sorry.
-/
import Derived.Test.YtpgagefaneaioaaChecked
import GoSem.Claim
import GoSem.ClaimJoined
import GoSem.ClaimMapViews
import Derived.JoinedTies
import Derived.KernelRfl
namespace Go.Proofs.Ytpgagefaneaioaa
/- THE CELL 'sum', in the pinned program and in every row, IS THE sha256 OF THE DUMP (.gsa) THAT YtpgagefaneaioaaProg.lean LOADS. Nothing in Lean hashes anything: it is a label: what it is worth is what the hold of that sum in a sandbox is worth. -/
noncomputable def Try.pinned : Pinned := { name := "ytpgagefaneaioaa", sum := "fe0a93e15bf76eab3ecdfe558ac6db4cb30d035dd2a84e5f8a0c540ad45620bb", checked := Try.checked }
namespace Rows
def none {H : Type} : Left H := { results := [], args := [] }

/-- 'speculumlaw02.OpticsTrue': WHATEVER THE INPUT: true; the input reads as it did. -/
def opticsTrueSpec : ChangeSpec := { name := "opticsTrue", fn := fun _ => fun
  | [d1, d2] => { results := [.lit (.bool true)], args := [d1, d2] }
  | _ => none }
def opticsTrueRow : OpenClaim := { program := "ytpgagefaneaioaa", sum := "fe0a93e15bf76eab3ecdfe558ac6db4cb30d035dd2a84e5f8a0c540ad45620bb", func := "speculum/speculumlaw02.OpticsTrue", spec := "opticsTrue", recurses := true, apart := false }
def OpticsTrueSaid : Prop := opticsTrueRow.holds Try.pinned (OpenSpec.ofChange opticsTrueSpec)

/-- ITS FALSE NEIGHBOUR: 'it returns false'. Refute it at one input. -/
def opticsTrueWrong : ChangeSpec := { name := "opticsTrue", fn := fun _ => fun
  | [d1, d2] => { results := [.lit (.bool false)], args := [d1, d2] }
  | _ => none }
def OpticsTrueWrongFalsely : Prop := opticsTrueRow.holds Try.pinned (OpenSpec.ofChange opticsTrueWrong)

/-- 'speculumlaw02.OpticsGrow': WHATEVER THE INPUT: true; the input reads as it did. -/
def opticsGrowSpec : ChangeSpec := { name := "opticsGrow", fn := fun _ => fun
  | [d1, d2, d3] => { results := [.lit (.bool true)], args := [d1, d2, d3] }
  | _ => none }
def opticsGrowRow : OpenClaim := { program := "ytpgagefaneaioaa", sum := "fe0a93e15bf76eab3ecdfe558ac6db4cb30d035dd2a84e5f8a0c540ad45620bb", func := "speculum/speculumlaw02.OpticsGrow", spec := "opticsGrow", recurses := true, apart := false }
def OpticsGrowSaid : Prop := opticsGrowRow.holds Try.pinned (OpenSpec.ofChange opticsGrowSpec)

/-- ITS FALSE NEIGHBOUR: 'it returns false'. Refute it at one input. -/
def opticsGrowWrong : ChangeSpec := { name := "opticsGrow", fn := fun _ => fun
  | [d1, d2, d3] => { results := [.lit (.bool false)], args := [d1, d2, d3] }
  | _ => none }
def OpticsGrowWrongFalsely : Prop := opticsGrowRow.holds Try.pinned (OpenSpec.ofChange opticsGrowWrong)

/-- 'speculumlaw02.OpticsFoci': WHATEVER THE INPUT: true; the input reads as it did. -/
def opticsFociSpec : ChangeSpec := { name := "opticsFoci", fn := fun _ => fun
  | [d1, d2] => { results := [.lit (.bool true)], args := [d1, d2] }
  | _ => none }
def opticsFociRow : OpenClaim := { program := "ytpgagefaneaioaa", sum := "fe0a93e15bf76eab3ecdfe558ac6db4cb30d035dd2a84e5f8a0c540ad45620bb", func := "speculum/speculumlaw02.OpticsFoci", spec := "opticsFoci", recurses := true, apart := false }
def OpticsFociSaid : Prop := opticsFociRow.holds Try.pinned (OpenSpec.ofChange opticsFociSpec)

/-- ITS FALSE NEIGHBOUR: 'it returns false'. Refute it at one input. -/
def opticsFociWrong : ChangeSpec := { name := "opticsFoci", fn := fun _ => fun
  | [d1, d2] => { results := [.lit (.bool false)], args := [d1, d2] }
  | _ => none }
def OpticsFociWrongFalsely : Prop := opticsFociRow.holds Try.pinned (OpenSpec.ofChange opticsFociWrong)

/-- 'speculumtop.TopSagsMeet': WHATEVER THE INPUT: true; the input reads as it did. -/
def topSagsMeetSpec : ChangeSpec := { name := "topSagsMeet", fn := fun _ => fun
  | [d1, d2] => { results := [.lit (.bool true)], args := [d1, d2] }
  | _ => none }
def topSagsMeetRow : OpenClaim := { program := "ytpgagefaneaioaa", sum := "fe0a93e15bf76eab3ecdfe558ac6db4cb30d035dd2a84e5f8a0c540ad45620bb", func := "speculum/speculumtop.TopSagsMeet", spec := "topSagsMeet", recurses := true, apart := false }
def TopSagsMeetSaid : Prop := topSagsMeetRow.holds Try.pinned (OpenSpec.ofChange topSagsMeetSpec)

/-- ITS FALSE NEIGHBOUR: 'it returns false'. Refute it at one input. -/
def topSagsMeetWrong : ChangeSpec := { name := "topSagsMeet", fn := fun _ => fun
  | [d1, d2] => { results := [.lit (.bool false)], args := [d1, d2] }
  | _ => none }
def TopSagsMeetWrongFalsely : Prop := topSagsMeetRow.holds Try.pinned (OpenSpec.ofChange topSagsMeetWrong)

/-- 'speculumlaw02.OpticsReflects': WHATEVER THE INPUT: true; the input reads as it did. -/
def opticsReflectsSpec : ChangeSpec := { name := "opticsReflects", fn := fun _ => fun
  | [d1, d2, d3] => { results := [.lit (.bool true)], args := [d1, d2, d3] }
  | _ => none }
def opticsReflectsRow : OpenClaim := { program := "ytpgagefaneaioaa", sum := "fe0a93e15bf76eab3ecdfe558ac6db4cb30d035dd2a84e5f8a0c540ad45620bb", func := "speculum/speculumlaw02.OpticsReflects", spec := "opticsReflects", recurses := true, apart := false }
def OpticsReflectsSaid : Prop := opticsReflectsRow.holds Try.pinned (OpenSpec.ofChange opticsReflectsSpec)

/-- ITS FALSE NEIGHBOUR: 'it returns false'. Refute it at one input. -/
def opticsReflectsWrong : ChangeSpec := { name := "opticsReflects", fn := fun _ => fun
  | [d1, d2, d3] => { results := [.lit (.bool false)], args := [d1, d2, d3] }
  | _ => none }
def OpticsReflectsWrongFalsely : Prop := opticsReflectsRow.holds Try.pinned (OpenSpec.ofChange opticsReflectsWrong)

/-- 'speculumlaw02.OpticsMirrors': WHATEVER THE INPUT: true; the input reads as it did. -/
def opticsMirrorsSpec : ChangeSpec := { name := "opticsMirrors", fn := fun _ => fun
  | [d1, d2, d3] => { results := [.lit (.bool true)], args := [d1, d2, d3] }
  | _ => none }
def opticsMirrorsRow : OpenClaim := { program := "ytpgagefaneaioaa", sum := "fe0a93e15bf76eab3ecdfe558ac6db4cb30d035dd2a84e5f8a0c540ad45620bb", func := "speculum/speculumlaw02.OpticsMirrors", spec := "opticsMirrors", recurses := true, apart := false }
def OpticsMirrorsSaid : Prop := opticsMirrorsRow.holds Try.pinned (OpenSpec.ofChange opticsMirrorsSpec)

/-- ITS FALSE NEIGHBOUR: 'it returns false'. Refute it at one input. -/
def opticsMirrorsWrong : ChangeSpec := { name := "opticsMirrors", fn := fun _ => fun
  | [d1, d2, d3] => { results := [.lit (.bool false)], args := [d1, d2, d3] }
  | _ => none }
def OpticsMirrorsWrongFalsely : Prop := opticsMirrorsRow.holds Try.pinned (OpenSpec.ofChange opticsMirrorsWrong)

/-- 'speculumlaw02.OpticsSystems': WHATEVER THE INPUT: true; the input reads as it did. -/
def opticsSystemsSpec : ChangeSpec := { name := "opticsSystems", fn := fun _ => fun
  | [d] => { results := [.lit (.bool true)], args := [d] }
  | _ => none }
def opticsSystemsRow : OpenClaim := { program := "ytpgagefaneaioaa", sum := "fe0a93e15bf76eab3ecdfe558ac6db4cb30d035dd2a84e5f8a0c540ad45620bb", func := "speculum/speculumlaw02.OpticsSystems", spec := "opticsSystems", recurses := true, apart := false }
def OpticsSystemsSaid : Prop := opticsSystemsRow.holds Try.pinned (OpenSpec.ofChange opticsSystemsSpec)

/-- ITS FALSE NEIGHBOUR: 'it returns false'. Refute it at one input. -/
def opticsSystemsWrong : ChangeSpec := { name := "opticsSystems", fn := fun _ => fun
  | [d] => { results := [.lit (.bool false)], args := [d] }
  | _ => none }
def OpticsSystemsWrongFalsely : Prop := opticsSystemsRow.holds Try.pinned (OpenSpec.ofChange opticsSystemsWrong)

/-- 'speculumlaw02.OpticsParts': WHATEVER THE INPUT: true; the input reads as it did. -/
def opticsPartsSpec : ChangeSpec := { name := "opticsParts", fn := fun _ => fun
  | [d1, d2] => { results := [.lit (.bool true)], args := [d1, d2] }
  | _ => none }
def opticsPartsRow : OpenClaim := { program := "ytpgagefaneaioaa", sum := "fe0a93e15bf76eab3ecdfe558ac6db4cb30d035dd2a84e5f8a0c540ad45620bb", func := "speculum/speculumlaw02.OpticsParts", spec := "opticsParts", recurses := true, apart := false }
def OpticsPartsSaid : Prop := opticsPartsRow.holds Try.pinned (OpenSpec.ofChange opticsPartsSpec)

/-- ITS FALSE NEIGHBOUR: 'it returns false'. Refute it at one input. -/
def opticsPartsWrong : ChangeSpec := { name := "opticsParts", fn := fun _ => fun
  | [d1, d2] => { results := [.lit (.bool false)], args := [d1, d2] }
  | _ => none }
def OpticsPartsWrongFalsely : Prop := opticsPartsRow.holds Try.pinned (OpenSpec.ofChange opticsPartsWrong)

/-- 'speculumlaw02.OpticsConics': WHATEVER THE INPUT: true; the input reads as it did. -/
def opticsConicsSpec : ChangeSpec := { name := "opticsConics", fn := fun _ => fun
  | [d] => { results := [.lit (.bool true)], args := [d] }
  | _ => none }
def opticsConicsRow : OpenClaim := { program := "ytpgagefaneaioaa", sum := "fe0a93e15bf76eab3ecdfe558ac6db4cb30d035dd2a84e5f8a0c540ad45620bb", func := "speculum/speculumlaw02.OpticsConics", spec := "opticsConics", recurses := true, apart := false }
def OpticsConicsSaid : Prop := opticsConicsRow.holds Try.pinned (OpenSpec.ofChange opticsConicsSpec)

/-- ITS FALSE NEIGHBOUR: 'it returns false'. Refute it at one input. -/
def opticsConicsWrong : ChangeSpec := { name := "opticsConics", fn := fun _ => fun
  | [d] => { results := [.lit (.bool false)], args := [d] }
  | _ => none }
def OpticsConicsWrongFalsely : Prop := opticsConicsRow.holds Try.pinned (OpenSpec.ofChange opticsConicsWrong)

/-- 'speculumlaw02.OpticsSags': WHATEVER THE INPUT: true; the input reads as it did. -/
def opticsSagsSpec : ChangeSpec := { name := "opticsSags", fn := fun _ => fun
  | [d1, d2] => { results := [.lit (.bool true)], args := [d1, d2] }
  | _ => none }
def opticsSagsRow : OpenClaim := { program := "ytpgagefaneaioaa", sum := "fe0a93e15bf76eab3ecdfe558ac6db4cb30d035dd2a84e5f8a0c540ad45620bb", func := "speculum/speculumlaw02.OpticsSags", spec := "opticsSags", recurses := true, apart := false }
def OpticsSagsSaid : Prop := opticsSagsRow.holds Try.pinned (OpenSpec.ofChange opticsSagsSpec)

/-- ITS FALSE NEIGHBOUR: 'it returns false'. Refute it at one input. -/
def opticsSagsWrong : ChangeSpec := { name := "opticsSags", fn := fun _ => fun
  | [d1, d2] => { results := [.lit (.bool false)], args := [d1, d2] }
  | _ => none }
def OpticsSagsWrongFalsely : Prop := opticsSagsRow.holds Try.pinned (OpenSpec.ofChange opticsSagsWrong)

/-- 'speculumlaw02.OpticsJoins': WHATEVER THE INPUT: true; the input reads as it did. -/
def opticsJoinsSpec : ChangeSpec := { name := "opticsJoins", fn := fun _ => fun
  | [d1, d2] => { results := [.lit (.bool true)], args := [d1, d2] }
  | _ => none }
def opticsJoinsRow : OpenClaim := { program := "ytpgagefaneaioaa", sum := "fe0a93e15bf76eab3ecdfe558ac6db4cb30d035dd2a84e5f8a0c540ad45620bb", func := "speculum/speculumlaw02.OpticsJoins", spec := "opticsJoins", recurses := true, apart := false }
def OpticsJoinsSaid : Prop := opticsJoinsRow.holds Try.pinned (OpenSpec.ofChange opticsJoinsSpec)

/-- ITS FALSE NEIGHBOUR: 'it returns false'. Refute it at one input. -/
def opticsJoinsWrong : ChangeSpec := { name := "opticsJoins", fn := fun _ => fun
  | [d1, d2] => { results := [.lit (.bool false)], args := [d1, d2] }
  | _ => none }
def OpticsJoinsWrongFalsely : Prop := opticsJoinsRow.holds Try.pinned (OpenSpec.ofChange opticsJoinsWrong)

/-- 'speculumlaw02.OpticsHeights': WHATEVER THE INPUT: true; the input reads as it did. -/
def opticsHeightsSpec : ChangeSpec := { name := "opticsHeights", fn := fun _ => fun
  | [d1, d2] => { results := [.lit (.bool true)], args := [d1, d2] }
  | _ => none }
def opticsHeightsRow : OpenClaim := { program := "ytpgagefaneaioaa", sum := "fe0a93e15bf76eab3ecdfe558ac6db4cb30d035dd2a84e5f8a0c540ad45620bb", func := "speculum/speculumlaw02.OpticsHeights", spec := "opticsHeights", recurses := true, apart := false }
def OpticsHeightsSaid : Prop := opticsHeightsRow.holds Try.pinned (OpenSpec.ofChange opticsHeightsSpec)

/-- ITS FALSE NEIGHBOUR: 'it returns false'. Refute it at one input. -/
def opticsHeightsWrong : ChangeSpec := { name := "opticsHeights", fn := fun _ => fun
  | [d1, d2] => { results := [.lit (.bool false)], args := [d1, d2] }
  | _ => none }
def OpticsHeightsWrongFalsely : Prop := opticsHeightsRow.holds Try.pinned (OpenSpec.ofChange opticsHeightsWrong)

/-- 'speculumlaw02.OpticsTables': WHATEVER THE INPUT: true; the input reads as it did. -/
def opticsTablesSpec : ChangeSpec := { name := "opticsTables", fn := fun _ => fun
  | [d1, d2, d3] => { results := [.lit (.bool true)], args := [d1, d2, d3] }
  | _ => none }
def opticsTablesRow : OpenClaim := { program := "ytpgagefaneaioaa", sum := "fe0a93e15bf76eab3ecdfe558ac6db4cb30d035dd2a84e5f8a0c540ad45620bb", func := "speculum/speculumlaw02.OpticsTables", spec := "opticsTables", recurses := true, apart := false }
def OpticsTablesSaid : Prop := opticsTablesRow.holds Try.pinned (OpenSpec.ofChange opticsTablesSpec)

/-- ITS FALSE NEIGHBOUR: 'it returns false'. Refute it at one input. -/
def opticsTablesWrong : ChangeSpec := { name := "opticsTables", fn := fun _ => fun
  | [d1, d2, d3] => { results := [.lit (.bool false)], args := [d1, d2, d3] }
  | _ => none }
def OpticsTablesWrongFalsely : Prop := opticsTablesRow.holds Try.pinned (OpenSpec.ofChange opticsTablesWrong)

/-- 'speculumlaw02.OpticsHits': WHATEVER THE INPUT: true; the input reads as it did. -/
def opticsHitsSpec : ChangeSpec := { name := "opticsHits", fn := fun _ => fun
  | [d1, d2] => { results := [.lit (.bool true)], args := [d1, d2] }
  | _ => none }
def opticsHitsRow : OpenClaim := { program := "ytpgagefaneaioaa", sum := "fe0a93e15bf76eab3ecdfe558ac6db4cb30d035dd2a84e5f8a0c540ad45620bb", func := "speculum/speculumlaw02.OpticsHits", spec := "opticsHits", recurses := true, apart := false }
def OpticsHitsSaid : Prop := opticsHitsRow.holds Try.pinned (OpenSpec.ofChange opticsHitsSpec)

/-- ITS FALSE NEIGHBOUR: 'it returns false'. Refute it at one input. -/
def opticsHitsWrong : ChangeSpec := { name := "opticsHits", fn := fun _ => fun
  | [d1, d2] => { results := [.lit (.bool false)], args := [d1, d2] }
  | _ => none }
def OpticsHitsWrongFalsely : Prop := opticsHitsRow.holds Try.pinned (OpenSpec.ofChange opticsHitsWrong)

/-- 'speculumlaw02.OpticsBudgets': WHATEVER THE INPUT: true; the input reads as it did. -/
def opticsBudgetsSpec : ChangeSpec := { name := "opticsBudgets", fn := fun _ => fun
  | [d] => { results := [.lit (.bool true)], args := [d] }
  | _ => none }
def opticsBudgetsRow : OpenClaim := { program := "ytpgagefaneaioaa", sum := "fe0a93e15bf76eab3ecdfe558ac6db4cb30d035dd2a84e5f8a0c540ad45620bb", func := "speculum/speculumlaw02.OpticsBudgets", spec := "opticsBudgets", unfollowed := true, recurses := true, apart := false }
def OpticsBudgetsSaid : Prop := opticsBudgetsRow.holds Try.pinned (OpenSpec.ofChange opticsBudgetsSpec)

/-- ITS FALSE NEIGHBOUR: 'it returns false'. Refute it at one input. -/
def opticsBudgetsWrong : ChangeSpec := { name := "opticsBudgets", fn := fun _ => fun
  | [d] => { results := [.lit (.bool false)], args := [d] }
  | _ => none }
def OpticsBudgetsWrongFalsely : Prop := opticsBudgetsRow.holds Try.pinned (OpenSpec.ofChange opticsBudgetsWrong)

/-- 'speculumtop.TopSphereMiddle': WHATEVER THE INPUT: true; the input reads as it did. -/
def topSphereMiddleSpec : ChangeSpec := { name := "topSphereMiddle", fn := fun _ => fun
  | [d1, d2] => { results := [.lit (.bool true)], args := [d1, d2] }
  | _ => none }
def topSphereMiddleRow : OpenClaim := { program := "ytpgagefaneaioaa", sum := "fe0a93e15bf76eab3ecdfe558ac6db4cb30d035dd2a84e5f8a0c540ad45620bb", func := "speculum/speculumtop.TopSphereMiddle", spec := "topSphereMiddle", recurses := true, apart := false }
def TopSphereMiddleSaid : Prop := topSphereMiddleRow.holds Try.pinned (OpenSpec.ofChange topSphereMiddleSpec)

/-- ITS FALSE NEIGHBOUR: 'it returns false'. Refute it at one input. -/
def topSphereMiddleWrong : ChangeSpec := { name := "topSphereMiddle", fn := fun _ => fun
  | [d1, d2] => { results := [.lit (.bool false)], args := [d1, d2] }
  | _ => none }
def TopSphereMiddleWrongFalsely : Prop := topSphereMiddleRow.holds Try.pinned (OpenSpec.ofChange topSphereMiddleWrong)

/-- 'speculumtop.TopParabolaFocus': WHATEVER THE INPUT: true; the input reads as it did. -/
def topParabolaFocusSpec : ChangeSpec := { name := "topParabolaFocus", fn := fun _ => fun
  | [d1, d2] => { results := [.lit (.bool true)], args := [d1, d2] }
  | _ => none }
def topParabolaFocusRow : OpenClaim := { program := "ytpgagefaneaioaa", sum := "fe0a93e15bf76eab3ecdfe558ac6db4cb30d035dd2a84e5f8a0c540ad45620bb", func := "speculum/speculumtop.TopParabolaFocus", spec := "topParabolaFocus", recurses := true, apart := false }
def TopParabolaFocusSaid : Prop := topParabolaFocusRow.holds Try.pinned (OpenSpec.ofChange topParabolaFocusSpec)

/-- ITS FALSE NEIGHBOUR: 'it returns false'. Refute it at one input. -/
def topParabolaFocusWrong : ChangeSpec := { name := "topParabolaFocus", fn := fun _ => fun
  | [d1, d2] => { results := [.lit (.bool false)], args := [d1, d2] }
  | _ => none }
def TopParabolaFocusWrongFalsely : Prop := topParabolaFocusRow.holds Try.pinned (OpenSpec.ofChange topParabolaFocusWrong)

/- THE SECOND FORM. 'bulk': how many values and letters a reading holds, each counted each time it is reached (what is shared counts as often as it is met; a slice's spare places count too). A statement '..UptoSaid' is the law's where the arguments, and the package variables that the reading takes, are together of bulk at most 1048576: NARROWER than '..Said'. Prove '..Said' where nothing that the law and all that it calls make is longer than what came in: it says more and counts as full. Else prove '..UptoSaid'. A law counts once. -/
mutual
def uptoBulk {H : Type} : DataW H → Nat
  | .lit (.string bytes) => bytes.length + 1
  | .lit _ => 1
  | .nil => 1
  | .ptr d => uptoBulk d + 1
  | .slice elems spare => uptoBulkAll elems + uptoBulkAll spare + 1
  | .agg parts => uptoBulkAll parts + 1
  | .iface _ d => uptoBulk d + 1
  | .map entries => uptoBulkEntries entries + 1
  | .held _ => 1
def uptoBulkAll {H : Type} : List (DataW H) → Nat
  | [] => 0
  | d :: r => uptoBulk d + uptoBulkAll r
def uptoBulkEntries {H : Type} : List (Lit × DataW H) → Nat
  | [] => 0
  | x :: r => uptoBulkEntry x + uptoBulkEntries r
def uptoBulkEntry {H : Type} : Lit × DataW H → Nat
  | (.string bytes, d) => bytes.length + uptoBulk d + 1
  | (_, d) => uptoBulk d + 1
 end
def uptoSmall : (H : Type) → List (DataW H) → Bool := fun _ ds => decide (uptoBulkAll ds ≤ 1048576)
def OpenSpec.upto (s : _root_.Go.ChangeSpec) : _root_.Go.OpenSpec := { _root_.Go.OpenSpec.ofChange s with cond := some uptoSmall }

/-- 'speculumlaw02.OpticsTrue', WHERE WHAT IT READS IS OF BULK AT MOST 1048576: true; the input reads as it did. -/
def opticsTrueUptoRow : OpenClaim := { program := "ytpgagefaneaioaa", sum := "fe0a93e15bf76eab3ecdfe558ac6db4cb30d035dd2a84e5f8a0c540ad45620bb", func := "speculum/speculumlaw02.OpticsTrue", spec := "opticsTrue", recurses := true, apart := false, narrowed := true }
def OpticsTrueUptoSaid : Prop := opticsTrueUptoRow.holds Try.pinned (OpenSpec.upto opticsTrueSpec)

/-- 'speculumlaw02.OpticsGrow', WHERE WHAT IT READS IS OF BULK AT MOST 1048576: true; the input reads as it did. -/
def opticsGrowUptoRow : OpenClaim := { program := "ytpgagefaneaioaa", sum := "fe0a93e15bf76eab3ecdfe558ac6db4cb30d035dd2a84e5f8a0c540ad45620bb", func := "speculum/speculumlaw02.OpticsGrow", spec := "opticsGrow", recurses := true, apart := false, narrowed := true }
def OpticsGrowUptoSaid : Prop := opticsGrowUptoRow.holds Try.pinned (OpenSpec.upto opticsGrowSpec)

/-- 'speculumlaw02.OpticsFoci', WHERE WHAT IT READS IS OF BULK AT MOST 1048576: true; the input reads as it did. -/
def opticsFociUptoRow : OpenClaim := { program := "ytpgagefaneaioaa", sum := "fe0a93e15bf76eab3ecdfe558ac6db4cb30d035dd2a84e5f8a0c540ad45620bb", func := "speculum/speculumlaw02.OpticsFoci", spec := "opticsFoci", recurses := true, apart := false, narrowed := true }
def OpticsFociUptoSaid : Prop := opticsFociUptoRow.holds Try.pinned (OpenSpec.upto opticsFociSpec)

/-- 'speculumtop.TopSagsMeet', WHERE WHAT IT READS IS OF BULK AT MOST 1048576: true; the input reads as it did. -/
def topSagsMeetUptoRow : OpenClaim := { program := "ytpgagefaneaioaa", sum := "fe0a93e15bf76eab3ecdfe558ac6db4cb30d035dd2a84e5f8a0c540ad45620bb", func := "speculum/speculumtop.TopSagsMeet", spec := "topSagsMeet", recurses := true, apart := false, narrowed := true }
def TopSagsMeetUptoSaid : Prop := topSagsMeetUptoRow.holds Try.pinned (OpenSpec.upto topSagsMeetSpec)

/-- 'speculumlaw02.OpticsReflects', WHERE WHAT IT READS IS OF BULK AT MOST 1048576: true; the input reads as it did. -/
def opticsReflectsUptoRow : OpenClaim := { program := "ytpgagefaneaioaa", sum := "fe0a93e15bf76eab3ecdfe558ac6db4cb30d035dd2a84e5f8a0c540ad45620bb", func := "speculum/speculumlaw02.OpticsReflects", spec := "opticsReflects", recurses := true, apart := false, narrowed := true }
def OpticsReflectsUptoSaid : Prop := opticsReflectsUptoRow.holds Try.pinned (OpenSpec.upto opticsReflectsSpec)

/-- 'speculumlaw02.OpticsMirrors', WHERE WHAT IT READS IS OF BULK AT MOST 1048576: true; the input reads as it did. -/
def opticsMirrorsUptoRow : OpenClaim := { program := "ytpgagefaneaioaa", sum := "fe0a93e15bf76eab3ecdfe558ac6db4cb30d035dd2a84e5f8a0c540ad45620bb", func := "speculum/speculumlaw02.OpticsMirrors", spec := "opticsMirrors", recurses := true, apart := false, narrowed := true }
def OpticsMirrorsUptoSaid : Prop := opticsMirrorsUptoRow.holds Try.pinned (OpenSpec.upto opticsMirrorsSpec)

/-- 'speculumlaw02.OpticsSystems', WHERE WHAT IT READS IS OF BULK AT MOST 1048576: true; the input reads as it did. -/
def opticsSystemsUptoRow : OpenClaim := { program := "ytpgagefaneaioaa", sum := "fe0a93e15bf76eab3ecdfe558ac6db4cb30d035dd2a84e5f8a0c540ad45620bb", func := "speculum/speculumlaw02.OpticsSystems", spec := "opticsSystems", recurses := true, apart := false, narrowed := true }
def OpticsSystemsUptoSaid : Prop := opticsSystemsUptoRow.holds Try.pinned (OpenSpec.upto opticsSystemsSpec)

/-- 'speculumlaw02.OpticsParts', WHERE WHAT IT READS IS OF BULK AT MOST 1048576: true; the input reads as it did. -/
def opticsPartsUptoRow : OpenClaim := { program := "ytpgagefaneaioaa", sum := "fe0a93e15bf76eab3ecdfe558ac6db4cb30d035dd2a84e5f8a0c540ad45620bb", func := "speculum/speculumlaw02.OpticsParts", spec := "opticsParts", recurses := true, apart := false, narrowed := true }
def OpticsPartsUptoSaid : Prop := opticsPartsUptoRow.holds Try.pinned (OpenSpec.upto opticsPartsSpec)

/-- 'speculumlaw02.OpticsConics', WHERE WHAT IT READS IS OF BULK AT MOST 1048576: true; the input reads as it did. -/
def opticsConicsUptoRow : OpenClaim := { program := "ytpgagefaneaioaa", sum := "fe0a93e15bf76eab3ecdfe558ac6db4cb30d035dd2a84e5f8a0c540ad45620bb", func := "speculum/speculumlaw02.OpticsConics", spec := "opticsConics", recurses := true, apart := false, narrowed := true }
def OpticsConicsUptoSaid : Prop := opticsConicsUptoRow.holds Try.pinned (OpenSpec.upto opticsConicsSpec)

/-- 'speculumlaw02.OpticsSags', WHERE WHAT IT READS IS OF BULK AT MOST 1048576: true; the input reads as it did. -/
def opticsSagsUptoRow : OpenClaim := { program := "ytpgagefaneaioaa", sum := "fe0a93e15bf76eab3ecdfe558ac6db4cb30d035dd2a84e5f8a0c540ad45620bb", func := "speculum/speculumlaw02.OpticsSags", spec := "opticsSags", recurses := true, apart := false, narrowed := true }
def OpticsSagsUptoSaid : Prop := opticsSagsUptoRow.holds Try.pinned (OpenSpec.upto opticsSagsSpec)

/-- 'speculumlaw02.OpticsJoins', WHERE WHAT IT READS IS OF BULK AT MOST 1048576: true; the input reads as it did. -/
def opticsJoinsUptoRow : OpenClaim := { program := "ytpgagefaneaioaa", sum := "fe0a93e15bf76eab3ecdfe558ac6db4cb30d035dd2a84e5f8a0c540ad45620bb", func := "speculum/speculumlaw02.OpticsJoins", spec := "opticsJoins", recurses := true, apart := false, narrowed := true }
def OpticsJoinsUptoSaid : Prop := opticsJoinsUptoRow.holds Try.pinned (OpenSpec.upto opticsJoinsSpec)

/-- 'speculumlaw02.OpticsHeights', WHERE WHAT IT READS IS OF BULK AT MOST 1048576: true; the input reads as it did. -/
def opticsHeightsUptoRow : OpenClaim := { program := "ytpgagefaneaioaa", sum := "fe0a93e15bf76eab3ecdfe558ac6db4cb30d035dd2a84e5f8a0c540ad45620bb", func := "speculum/speculumlaw02.OpticsHeights", spec := "opticsHeights", recurses := true, apart := false, narrowed := true }
def OpticsHeightsUptoSaid : Prop := opticsHeightsUptoRow.holds Try.pinned (OpenSpec.upto opticsHeightsSpec)

/-- 'speculumlaw02.OpticsTables', WHERE WHAT IT READS IS OF BULK AT MOST 1048576: true; the input reads as it did. -/
def opticsTablesUptoRow : OpenClaim := { program := "ytpgagefaneaioaa", sum := "fe0a93e15bf76eab3ecdfe558ac6db4cb30d035dd2a84e5f8a0c540ad45620bb", func := "speculum/speculumlaw02.OpticsTables", spec := "opticsTables", recurses := true, apart := false, narrowed := true }
def OpticsTablesUptoSaid : Prop := opticsTablesUptoRow.holds Try.pinned (OpenSpec.upto opticsTablesSpec)

/-- 'speculumlaw02.OpticsHits', WHERE WHAT IT READS IS OF BULK AT MOST 1048576: true; the input reads as it did. -/
def opticsHitsUptoRow : OpenClaim := { program := "ytpgagefaneaioaa", sum := "fe0a93e15bf76eab3ecdfe558ac6db4cb30d035dd2a84e5f8a0c540ad45620bb", func := "speculum/speculumlaw02.OpticsHits", spec := "opticsHits", recurses := true, apart := false, narrowed := true }
def OpticsHitsUptoSaid : Prop := opticsHitsUptoRow.holds Try.pinned (OpenSpec.upto opticsHitsSpec)

/-- 'speculumlaw02.OpticsBudgets', WHERE WHAT IT READS IS OF BULK AT MOST 1048576: true; the input reads as it did. -/
def opticsBudgetsUptoRow : OpenClaim := { program := "ytpgagefaneaioaa", sum := "fe0a93e15bf76eab3ecdfe558ac6db4cb30d035dd2a84e5f8a0c540ad45620bb", func := "speculum/speculumlaw02.OpticsBudgets", spec := "opticsBudgets", unfollowed := true, recurses := true, apart := false, narrowed := true }
def OpticsBudgetsUptoSaid : Prop := opticsBudgetsUptoRow.holds Try.pinned (OpenSpec.upto opticsBudgetsSpec)

/-- 'speculumtop.TopSphereMiddle', WHERE WHAT IT READS IS OF BULK AT MOST 1048576: true; the input reads as it did. -/
def topSphereMiddleUptoRow : OpenClaim := { program := "ytpgagefaneaioaa", sum := "fe0a93e15bf76eab3ecdfe558ac6db4cb30d035dd2a84e5f8a0c540ad45620bb", func := "speculum/speculumtop.TopSphereMiddle", spec := "topSphereMiddle", recurses := true, apart := false, narrowed := true }
def TopSphereMiddleUptoSaid : Prop := topSphereMiddleUptoRow.holds Try.pinned (OpenSpec.upto topSphereMiddleSpec)

/-- 'speculumtop.TopParabolaFocus', WHERE WHAT IT READS IS OF BULK AT MOST 1048576: true; the input reads as it did. -/
def topParabolaFocusUptoRow : OpenClaim := { program := "ytpgagefaneaioaa", sum := "fe0a93e15bf76eab3ecdfe558ac6db4cb30d035dd2a84e5f8a0c540ad45620bb", func := "speculum/speculumtop.TopParabolaFocus", spec := "topParabolaFocus", recurses := true, apart := false, narrowed := true }
def TopParabolaFocusUptoSaid : Prop := topParabolaFocusUptoRow.holds Try.pinned (OpenSpec.upto topParabolaFocusSpec)

end Rows
end Go.Proofs.Ytpgagefaneaioaa
