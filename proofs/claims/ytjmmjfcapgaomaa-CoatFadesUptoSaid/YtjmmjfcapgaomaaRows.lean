/-
  No cell of these rows narrows 'for every input' (looked for: loops, veiled, ifaces, maps, wideKeys, modest, calm, conditions, laid).
  DERIVED. THE GIVEN ROWS OF THIS SEAT. 15 by the template 'for every input the law returns true; each argument reads behind the call as it read before'; 0 by the template 'total and deterministic' (their statements: YtjmmjfcapgaomaaTotals.lean).
  GIVEN WITH THE SEED: the statements are not yours to turn. If you find one false, say at which input.
  Laid BY PROGRAM, IN A SANDBOX (cutbox-rows.mjs): the forced cells as the released guide's own fill.sh prints them over the translation 06f63b07977659e3… (all of the seat's roots in one cut). By AI agents, Wed Nov 11 2026. No macro, syntax, notation, axiom, sorry.
-/
import Derived.Test.YtjmmjfcapgaomaaChecked
import GoSem.Claim
import GoSem.ClaimJoined
import GoSem.ClaimMapViews
import Derived.JoinedTies
import Derived.KernelRfl
namespace Go.Proofs.Ytjmmjfcapgaomaa
/- THE CELL 'sum', in the pinned program and in every row, IS THE sha256 OF THE DUMP (.gsa) THAT YtjmmjfcapgaomaaProg.lean LOADS. Nothing in Lean hashes anything: it is a label: what it is worth is what the hold of that sum in a sandbox is worth. -/
noncomputable def Try.pinned : Pinned := { name := "ytjmmjfcapgaomaa", sum := "06f63b07977659e39c4d89bc5a7069a839265e88c6104f65cfd605739e80c1f7", checked := Try.checked }
namespace Rows
def none {H : Type} : Left H := { results := [], args := [] }

/-- 'speculumlaw08.CoatEvens': WHATEVER THE INPUT: true; the input reads as it did. -/
def coatEvensSpec : ChangeSpec := { name := "coatEvens", fn := fun _ => fun
  | [d1, d2] => { results := [.lit (.bool true)], args := [d1, d2] }
  | _ => none }
def coatEvensRow : OpenClaim := { program := "ytjmmjfcapgaomaa", sum := "06f63b07977659e39c4d89bc5a7069a839265e88c6104f65cfd605739e80c1f7", func := "speculum/speculumlaw08.CoatEvens", spec := "coatEvens", unfollowed := true, recurses := true, apart := false }
def CoatEvensSaid : Prop := coatEvensRow.holds Try.pinned (OpenSpec.ofChange coatEvensSpec)

/-- ITS FALSE NEIGHBOUR: 'it returns false'. Refute it at one input. -/
def coatEvensWrong : ChangeSpec := { name := "coatEvens", fn := fun _ => fun
  | [d1, d2] => { results := [.lit (.bool false)], args := [d1, d2] }
  | _ => none }
def CoatEvensWrongFalsely : Prop := coatEvensRow.holds Try.pinned (OpenSpec.ofChange coatEvensWrong)

/-- 'speculumlaw08.CoatLayers': WHATEVER THE INPUT: true; the input reads as it did. -/
def coatLayersSpec : ChangeSpec := { name := "coatLayers", fn := fun _ => fun
  | [d1, d2] => { results := [.lit (.bool true)], args := [d1, d2] }
  | _ => none }
def coatLayersRow : OpenClaim := { program := "ytjmmjfcapgaomaa", sum := "06f63b07977659e39c4d89bc5a7069a839265e88c6104f65cfd605739e80c1f7", func := "speculum/speculumlaw08.CoatLayers", spec := "coatLayers", unfollowed := true, recurses := true, apart := false }
def CoatLayersSaid : Prop := coatLayersRow.holds Try.pinned (OpenSpec.ofChange coatLayersSpec)

/-- ITS FALSE NEIGHBOUR: 'it returns false'. Refute it at one input. -/
def coatLayersWrong : ChangeSpec := { name := "coatLayers", fn := fun _ => fun
  | [d1, d2] => { results := [.lit (.bool false)], args := [d1, d2] }
  | _ => none }
def CoatLayersWrongFalsely : Prop := coatLayersRow.holds Try.pinned (OpenSpec.ofChange coatLayersWrong)

/-- 'speculumlaw08.CoatHistories': WHATEVER THE INPUT: true; the input reads as it did. -/
def coatHistoriesSpec : ChangeSpec := { name := "coatHistories", fn := fun _ => fun
  | [d1, d2] => { results := [.lit (.bool true)], args := [d1, d2] }
  | _ => none }
def coatHistoriesRow : OpenClaim := { program := "ytjmmjfcapgaomaa", sum := "06f63b07977659e39c4d89bc5a7069a839265e88c6104f65cfd605739e80c1f7", func := "speculum/speculumlaw08.CoatHistories", spec := "coatHistories", unfollowed := true, recurses := true, apart := false }
def CoatHistoriesSaid : Prop := coatHistoriesRow.holds Try.pinned (OpenSpec.ofChange coatHistoriesSpec)

/-- ITS FALSE NEIGHBOUR: 'it returns false'. Refute it at one input. -/
def coatHistoriesWrong : ChangeSpec := { name := "coatHistories", fn := fun _ => fun
  | [d1, d2] => { results := [.lit (.bool false)], args := [d1, d2] }
  | _ => none }
def CoatHistoriesWrongFalsely : Prop := coatHistoriesRow.holds Try.pinned (OpenSpec.ofChange coatHistoriesWrong)

/-- 'speculumlaw08.CoatBright': WHATEVER THE INPUT: true; the input reads as it did. -/
def coatBrightSpec : ChangeSpec := { name := "coatBright", fn := fun _ => fun
  | [d1, d2, d3] => { results := [.lit (.bool true)], args := [d1, d2, d3] }
  | _ => none }
def coatBrightRow : OpenClaim := { program := "ytjmmjfcapgaomaa", sum := "06f63b07977659e39c4d89bc5a7069a839265e88c6104f65cfd605739e80c1f7", func := "speculum/speculumlaw08.CoatBright", spec := "coatBright", unfollowed := true, recurses := true, apart := false }
def CoatBrightSaid : Prop := coatBrightRow.holds Try.pinned (OpenSpec.ofChange coatBrightSpec)

/-- ITS FALSE NEIGHBOUR: 'it returns false'. Refute it at one input. -/
def coatBrightWrong : ChangeSpec := { name := "coatBright", fn := fun _ => fun
  | [d1, d2, d3] => { results := [.lit (.bool false)], args := [d1, d2, d3] }
  | _ => none }
def CoatBrightWrongFalsely : Prop := coatBrightRow.holds Try.pinned (OpenSpec.ofChange coatBrightWrong)

/-- 'speculumlaw08.CoatFades': WHATEVER THE INPUT: true; the input reads as it did. -/
def coatFadesSpec : ChangeSpec := { name := "coatFades", fn := fun _ => fun
  | [d1, d2, d3] => { results := [.lit (.bool true)], args := [d1, d2, d3] }
  | _ => none }
def coatFadesRow : OpenClaim := { program := "ytjmmjfcapgaomaa", sum := "06f63b07977659e39c4d89bc5a7069a839265e88c6104f65cfd605739e80c1f7", func := "speculum/speculumlaw08.CoatFades", spec := "coatFades", unfollowed := true, recurses := true, apart := false }
def CoatFadesSaid : Prop := coatFadesRow.holds Try.pinned (OpenSpec.ofChange coatFadesSpec)

/-- ITS FALSE NEIGHBOUR: 'it returns false'. Refute it at one input. -/
def coatFadesWrong : ChangeSpec := { name := "coatFades", fn := fun _ => fun
  | [d1, d2, d3] => { results := [.lit (.bool false)], args := [d1, d2, d3] }
  | _ => none }
def CoatFadesWrongFalsely : Prop := coatFadesRow.holds Try.pinned (OpenSpec.ofChange coatFadesWrong)

/-- 'speculumlaw08.CoatDue': WHATEVER THE INPUT: true; the input reads as it did. -/
def coatDueSpec : ChangeSpec := { name := "coatDue", fn := fun _ => fun
  | [d1, d2, d3] => { results := [.lit (.bool true)], args := [d1, d2, d3] }
  | _ => none }
def coatDueRow : OpenClaim := { program := "ytjmmjfcapgaomaa", sum := "06f63b07977659e39c4d89bc5a7069a839265e88c6104f65cfd605739e80c1f7", func := "speculum/speculumlaw08.CoatDue", spec := "coatDue", unfollowed := true, recurses := true, apart := false }
def CoatDueSaid : Prop := coatDueRow.holds Try.pinned (OpenSpec.ofChange coatDueSpec)

/-- ITS FALSE NEIGHBOUR: 'it returns false'. Refute it at one input. -/
def coatDueWrong : ChangeSpec := { name := "coatDue", fn := fun _ => fun
  | [d1, d2, d3] => { results := [.lit (.bool false)], args := [d1, d2, d3] }
  | _ => none }
def CoatDueWrongFalsely : Prop := coatDueRow.holds Try.pinned (OpenSpec.ofChange coatDueWrong)

/-- 'speculumlaw08.CoatNext': WHATEVER THE INPUT: true; the input reads as it did. -/
def coatNextSpec : ChangeSpec := { name := "coatNext", fn := fun _ => fun
  | [d1, d2, d3] => { results := [.lit (.bool true)], args := [d1, d2, d3] }
  | _ => none }
def coatNextRow : OpenClaim := { program := "ytjmmjfcapgaomaa", sum := "06f63b07977659e39c4d89bc5a7069a839265e88c6104f65cfd605739e80c1f7", func := "speculum/speculumlaw08.CoatNext", spec := "coatNext", unfollowed := true, recurses := true, apart := false }
def CoatNextSaid : Prop := coatNextRow.holds Try.pinned (OpenSpec.ofChange coatNextSpec)

/-- ITS FALSE NEIGHBOUR: 'it returns false'. Refute it at one input. -/
def coatNextWrong : ChangeSpec := { name := "coatNext", fn := fun _ => fun
  | [d1, d2, d3] => { results := [.lit (.bool false)], args := [d1, d2, d3] }
  | _ => none }
def CoatNextWrongFalsely : Prop := coatNextRow.holds Try.pinned (OpenSpec.ofChange coatNextWrong)

/-- 'speculumlaw08.CoatCounts': WHATEVER THE INPUT: true; the input reads as it did. -/
def coatCountsSpec : ChangeSpec := { name := "coatCounts", fn := fun _ => fun
  | [d1, d2, d3] => { results := [.lit (.bool true)], args := [d1, d2, d3] }
  | _ => none }
def coatCountsRow : OpenClaim := { program := "ytjmmjfcapgaomaa", sum := "06f63b07977659e39c4d89bc5a7069a839265e88c6104f65cfd605739e80c1f7", func := "speculum/speculumlaw08.CoatCounts", spec := "coatCounts", unfollowed := true, recurses := true, apart := false }
def CoatCountsSaid : Prop := coatCountsRow.holds Try.pinned (OpenSpec.ofChange coatCountsSpec)

/-- ITS FALSE NEIGHBOUR: 'it returns false'. Refute it at one input. -/
def coatCountsWrong : ChangeSpec := { name := "coatCounts", fn := fun _ => fun
  | [d1, d2, d3] => { results := [.lit (.bool false)], args := [d1, d2, d3] }
  | _ => none }
def CoatCountsWrongFalsely : Prop := coatCountsRow.holds Try.pinned (OpenSpec.ofChange coatCountsWrong)

/-- 'speculumtop.TopCoatWithin': WHATEVER THE INPUT: true; the input reads as it did. -/
def topCoatWithinSpec : ChangeSpec := { name := "topCoatWithin", fn := fun _ => fun
  | [d1, d2, d3] => { results := [.lit (.bool true)], args := [d1, d2, d3] }
  | _ => none }
def topCoatWithinRow : OpenClaim := { program := "ytjmmjfcapgaomaa", sum := "06f63b07977659e39c4d89bc5a7069a839265e88c6104f65cfd605739e80c1f7", func := "speculum/speculumtop.TopCoatWithin", spec := "topCoatWithin", unfollowed := true, recurses := true, apart := false }
def TopCoatWithinSaid : Prop := topCoatWithinRow.holds Try.pinned (OpenSpec.ofChange topCoatWithinSpec)

/-- ITS FALSE NEIGHBOUR: 'it returns false'. Refute it at one input. -/
def topCoatWithinWrong : ChangeSpec := { name := "topCoatWithin", fn := fun _ => fun
  | [d1, d2, d3] => { results := [.lit (.bool false)], args := [d1, d2, d3] }
  | _ => none }
def TopCoatWithinWrongFalsely : Prop := topCoatWithinRow.holds Try.pinned (OpenSpec.ofChange topCoatWithinWrong)

/-- 'speculumlaw08.CoatWithin': WHATEVER THE INPUT: true; the input reads as it did. -/
def coatWithinSpec : ChangeSpec := { name := "coatWithin", fn := fun _ => fun
  | [d1, d2, d3] => { results := [.lit (.bool true)], args := [d1, d2, d3] }
  | _ => none }
def coatWithinRow : OpenClaim := { program := "ytjmmjfcapgaomaa", sum := "06f63b07977659e39c4d89bc5a7069a839265e88c6104f65cfd605739e80c1f7", func := "speculum/speculumlaw08.CoatWithin", spec := "coatWithin", unfollowed := true, recurses := true, apart := false }
def CoatWithinSaid : Prop := coatWithinRow.holds Try.pinned (OpenSpec.ofChange coatWithinSpec)

/-- ITS FALSE NEIGHBOUR: 'it returns false'. Refute it at one input. -/
def coatWithinWrong : ChangeSpec := { name := "coatWithin", fn := fun _ => fun
  | [d1, d2, d3] => { results := [.lit (.bool false)], args := [d1, d2, d3] }
  | _ => none }
def CoatWithinWrongFalsely : Prop := coatWithinRow.holds Try.pinned (OpenSpec.ofChange coatWithinWrong)

/-- 'speculumlaw08.CoatReflects': WHATEVER THE INPUT: true; the input reads as it did. -/
def coatReflectsSpec : ChangeSpec := { name := "coatReflects", fn := fun _ => fun
  | [d1, d2] => { results := [.lit (.bool true)], args := [d1, d2] }
  | _ => none }
def coatReflectsRow : OpenClaim := { program := "ytjmmjfcapgaomaa", sum := "06f63b07977659e39c4d89bc5a7069a839265e88c6104f65cfd605739e80c1f7", func := "speculum/speculumlaw08.CoatReflects", spec := "coatReflects", unfollowed := true, recurses := true, apart := false }
def CoatReflectsSaid : Prop := coatReflectsRow.holds Try.pinned (OpenSpec.ofChange coatReflectsSpec)

/-- ITS FALSE NEIGHBOUR: 'it returns false'. Refute it at one input. -/
def coatReflectsWrong : ChangeSpec := { name := "coatReflects", fn := fun _ => fun
  | [d1, d2] => { results := [.lit (.bool false)], args := [d1, d2] }
  | _ => none }
def CoatReflectsWrongFalsely : Prop := coatReflectsRow.holds Try.pinned (OpenSpec.ofChange coatReflectsWrong)

/-- 'speculumlaw08.CoatMasks': WHATEVER THE INPUT: true; the input reads as it did. -/
def coatMasksSpec : ChangeSpec := { name := "coatMasks", fn := fun _ => fun
  | [d1, d2] => { results := [.lit (.bool true)], args := [d1, d2] }
  | _ => none }
def coatMasksRow : OpenClaim := { program := "ytjmmjfcapgaomaa", sum := "06f63b07977659e39c4d89bc5a7069a839265e88c6104f65cfd605739e80c1f7", func := "speculum/speculumlaw08.CoatMasks", spec := "coatMasks", unfollowed := true, recurses := true, apart := false }
def CoatMasksSaid : Prop := coatMasksRow.holds Try.pinned (OpenSpec.ofChange coatMasksSpec)

/-- ITS FALSE NEIGHBOUR: 'it returns false'. Refute it at one input. -/
def coatMasksWrong : ChangeSpec := { name := "coatMasks", fn := fun _ => fun
  | [d1, d2] => { results := [.lit (.bool false)], args := [d1, d2] }
  | _ => none }
def CoatMasksWrongFalsely : Prop := coatMasksRow.holds Try.pinned (OpenSpec.ofChange coatMasksWrong)

/-- 'speculumlaw08.CoatAllowed': WHATEVER THE INPUT: true; the input reads as it did. -/
def coatAllowedSpec : ChangeSpec := { name := "coatAllowed", fn := fun _ => fun
  | [d1, d2, d3] => { results := [.lit (.bool true)], args := [d1, d2, d3] }
  | _ => none }
def coatAllowedRow : OpenClaim := { program := "ytjmmjfcapgaomaa", sum := "06f63b07977659e39c4d89bc5a7069a839265e88c6104f65cfd605739e80c1f7", func := "speculum/speculumlaw08.CoatAllowed", spec := "coatAllowed", unfollowed := true, recurses := true, apart := false }
def CoatAllowedSaid : Prop := coatAllowedRow.holds Try.pinned (OpenSpec.ofChange coatAllowedSpec)

/-- ITS FALSE NEIGHBOUR: 'it returns false'. Refute it at one input. -/
def coatAllowedWrong : ChangeSpec := { name := "coatAllowed", fn := fun _ => fun
  | [d1, d2, d3] => { results := [.lit (.bool false)], args := [d1, d2, d3] }
  | _ => none }
def CoatAllowedWrongFalsely : Prop := coatAllowedRow.holds Try.pinned (OpenSpec.ofChange coatAllowedWrong)

/-- 'speculumlaw08.CoatChains': WHATEVER THE INPUT: true; the input reads as it did. -/
def coatChainsSpec : ChangeSpec := { name := "coatChains", fn := fun _ => fun
  | [d1, d2] => { results := [.lit (.bool true)], args := [d1, d2] }
  | _ => none }
def coatChainsRow : OpenClaim := { program := "ytjmmjfcapgaomaa", sum := "06f63b07977659e39c4d89bc5a7069a839265e88c6104f65cfd605739e80c1f7", func := "speculum/speculumlaw08.CoatChains", spec := "coatChains", unfollowed := true, recurses := true, apart := false }
def CoatChainsSaid : Prop := coatChainsRow.holds Try.pinned (OpenSpec.ofChange coatChainsSpec)

/-- ITS FALSE NEIGHBOUR: 'it returns false'. Refute it at one input. -/
def coatChainsWrong : ChangeSpec := { name := "coatChains", fn := fun _ => fun
  | [d1, d2] => { results := [.lit (.bool false)], args := [d1, d2] }
  | _ => none }
def CoatChainsWrongFalsely : Prop := coatChainsRow.holds Try.pinned (OpenSpec.ofChange coatChainsWrong)

/-- 'speculumlaw08.CoatLeast': WHATEVER THE INPUT: true; the input reads as it did. -/
def coatLeastSpec : ChangeSpec := { name := "coatLeast", fn := fun _ => fun
  | [d1, d2, d3] => { results := [.lit (.bool true)], args := [d1, d2, d3] }
  | _ => none }
def coatLeastRow : OpenClaim := { program := "ytjmmjfcapgaomaa", sum := "06f63b07977659e39c4d89bc5a7069a839265e88c6104f65cfd605739e80c1f7", func := "speculum/speculumlaw08.CoatLeast", spec := "coatLeast", unfollowed := true, recurses := true, apart := false }
def CoatLeastSaid : Prop := coatLeastRow.holds Try.pinned (OpenSpec.ofChange coatLeastSpec)

/-- ITS FALSE NEIGHBOUR: 'it returns false'. Refute it at one input. -/
def coatLeastWrong : ChangeSpec := { name := "coatLeast", fn := fun _ => fun
  | [d1, d2, d3] => { results := [.lit (.bool false)], args := [d1, d2, d3] }
  | _ => none }
def CoatLeastWrongFalsely : Prop := coatLeastRow.holds Try.pinned (OpenSpec.ofChange coatLeastWrong)

/- THE SECOND FORM. 'bulk': how many values and letters a reading holds, each counted each time it is reached (what is shared counts as often as it is met; a slice's spare places count too). A statement '..UptoSaid' is the law's where the arguments, and the package variables that the reading takes, are together of bulk at most 1048576: NARROWER than '..Said'. Prove '..Said' where nothing that the law and all that it calls make is longer than what came in: it says more and counts as full. Else prove '..UptoSaid'. A law counts once. -/
mutual
def uptoBulk {H : Type} : DataW H → Nat
  | .lit (.string bytes) => bytes.length + 1
  | .lit _ => 1
  | .nil => 1
  | .ptr d => uptoBulk d + 1
  | .slice elems spare => uptoBulkAll elems + uptoBulkAll spare + 1
  | .agg parts => uptoBulkAll parts + 1
  | .iface _ d => uptoBulk d + 1
  | .map entries => uptoBulkEntries entries + 1
  | .held _ => 1
def uptoBulkAll {H : Type} : List (DataW H) → Nat
  | [] => 0
  | d :: r => uptoBulk d + uptoBulkAll r
def uptoBulkEntries {H : Type} : List (Lit × DataW H) → Nat
  | [] => 0
  | x :: r => uptoBulkEntry x + uptoBulkEntries r
def uptoBulkEntry {H : Type} : Lit × DataW H → Nat
  | (.string bytes, d) => bytes.length + uptoBulk d + 1
  | (_, d) => uptoBulk d + 1
 end
def uptoSmall : (H : Type) → List (DataW H) → Bool := fun _ ds => decide (uptoBulkAll ds ≤ 1048576)
def OpenSpec.upto (s : _root_.Go.ChangeSpec) : _root_.Go.OpenSpec := { _root_.Go.OpenSpec.ofChange s with cond := some uptoSmall }

/-- 'speculumlaw08.CoatEvens', WHERE WHAT IT READS IS OF BULK AT MOST 1048576: true; the input reads as it did. -/
def coatEvensUptoRow : OpenClaim := { program := "ytjmmjfcapgaomaa", sum := "06f63b07977659e39c4d89bc5a7069a839265e88c6104f65cfd605739e80c1f7", func := "speculum/speculumlaw08.CoatEvens", spec := "coatEvens", unfollowed := true, recurses := true, apart := false, narrowed := true }
def CoatEvensUptoSaid : Prop := coatEvensUptoRow.holds Try.pinned (OpenSpec.upto coatEvensSpec)

/-- 'speculumlaw08.CoatLayers', WHERE WHAT IT READS IS OF BULK AT MOST 1048576: true; the input reads as it did. -/
def coatLayersUptoRow : OpenClaim := { program := "ytjmmjfcapgaomaa", sum := "06f63b07977659e39c4d89bc5a7069a839265e88c6104f65cfd605739e80c1f7", func := "speculum/speculumlaw08.CoatLayers", spec := "coatLayers", unfollowed := true, recurses := true, apart := false, narrowed := true }
def CoatLayersUptoSaid : Prop := coatLayersUptoRow.holds Try.pinned (OpenSpec.upto coatLayersSpec)

/-- 'speculumlaw08.CoatHistories', WHERE WHAT IT READS IS OF BULK AT MOST 1048576: true; the input reads as it did. -/
def coatHistoriesUptoRow : OpenClaim := { program := "ytjmmjfcapgaomaa", sum := "06f63b07977659e39c4d89bc5a7069a839265e88c6104f65cfd605739e80c1f7", func := "speculum/speculumlaw08.CoatHistories", spec := "coatHistories", unfollowed := true, recurses := true, apart := false, narrowed := true }
def CoatHistoriesUptoSaid : Prop := coatHistoriesUptoRow.holds Try.pinned (OpenSpec.upto coatHistoriesSpec)

/-- 'speculumlaw08.CoatBright', WHERE WHAT IT READS IS OF BULK AT MOST 1048576: true; the input reads as it did. -/
def coatBrightUptoRow : OpenClaim := { program := "ytjmmjfcapgaomaa", sum := "06f63b07977659e39c4d89bc5a7069a839265e88c6104f65cfd605739e80c1f7", func := "speculum/speculumlaw08.CoatBright", spec := "coatBright", unfollowed := true, recurses := true, apart := false, narrowed := true }
def CoatBrightUptoSaid : Prop := coatBrightUptoRow.holds Try.pinned (OpenSpec.upto coatBrightSpec)

/-- 'speculumlaw08.CoatFades', WHERE WHAT IT READS IS OF BULK AT MOST 1048576: true; the input reads as it did. -/
def coatFadesUptoRow : OpenClaim := { program := "ytjmmjfcapgaomaa", sum := "06f63b07977659e39c4d89bc5a7069a839265e88c6104f65cfd605739e80c1f7", func := "speculum/speculumlaw08.CoatFades", spec := "coatFades", unfollowed := true, recurses := true, apart := false, narrowed := true }
def CoatFadesUptoSaid : Prop := coatFadesUptoRow.holds Try.pinned (OpenSpec.upto coatFadesSpec)

/-- 'speculumlaw08.CoatDue', WHERE WHAT IT READS IS OF BULK AT MOST 1048576: true; the input reads as it did. -/
def coatDueUptoRow : OpenClaim := { program := "ytjmmjfcapgaomaa", sum := "06f63b07977659e39c4d89bc5a7069a839265e88c6104f65cfd605739e80c1f7", func := "speculum/speculumlaw08.CoatDue", spec := "coatDue", unfollowed := true, recurses := true, apart := false, narrowed := true }
def CoatDueUptoSaid : Prop := coatDueUptoRow.holds Try.pinned (OpenSpec.upto coatDueSpec)

/-- 'speculumlaw08.CoatNext', WHERE WHAT IT READS IS OF BULK AT MOST 1048576: true; the input reads as it did. -/
def coatNextUptoRow : OpenClaim := { program := "ytjmmjfcapgaomaa", sum := "06f63b07977659e39c4d89bc5a7069a839265e88c6104f65cfd605739e80c1f7", func := "speculum/speculumlaw08.CoatNext", spec := "coatNext", unfollowed := true, recurses := true, apart := false, narrowed := true }
def CoatNextUptoSaid : Prop := coatNextUptoRow.holds Try.pinned (OpenSpec.upto coatNextSpec)

/-- 'speculumlaw08.CoatCounts', WHERE WHAT IT READS IS OF BULK AT MOST 1048576: true; the input reads as it did. -/
def coatCountsUptoRow : OpenClaim := { program := "ytjmmjfcapgaomaa", sum := "06f63b07977659e39c4d89bc5a7069a839265e88c6104f65cfd605739e80c1f7", func := "speculum/speculumlaw08.CoatCounts", spec := "coatCounts", unfollowed := true, recurses := true, apart := false, narrowed := true }
def CoatCountsUptoSaid : Prop := coatCountsUptoRow.holds Try.pinned (OpenSpec.upto coatCountsSpec)

/-- 'speculumtop.TopCoatWithin', WHERE WHAT IT READS IS OF BULK AT MOST 1048576: true; the input reads as it did. -/
def topCoatWithinUptoRow : OpenClaim := { program := "ytjmmjfcapgaomaa", sum := "06f63b07977659e39c4d89bc5a7069a839265e88c6104f65cfd605739e80c1f7", func := "speculum/speculumtop.TopCoatWithin", spec := "topCoatWithin", unfollowed := true, recurses := true, apart := false, narrowed := true }
def TopCoatWithinUptoSaid : Prop := topCoatWithinUptoRow.holds Try.pinned (OpenSpec.upto topCoatWithinSpec)

/-- 'speculumlaw08.CoatWithin', WHERE WHAT IT READS IS OF BULK AT MOST 1048576: true; the input reads as it did. -/
def coatWithinUptoRow : OpenClaim := { program := "ytjmmjfcapgaomaa", sum := "06f63b07977659e39c4d89bc5a7069a839265e88c6104f65cfd605739e80c1f7", func := "speculum/speculumlaw08.CoatWithin", spec := "coatWithin", unfollowed := true, recurses := true, apart := false, narrowed := true }
def CoatWithinUptoSaid : Prop := coatWithinUptoRow.holds Try.pinned (OpenSpec.upto coatWithinSpec)

/-- 'speculumlaw08.CoatReflects', WHERE WHAT IT READS IS OF BULK AT MOST 1048576: true; the input reads as it did. -/
def coatReflectsUptoRow : OpenClaim := { program := "ytjmmjfcapgaomaa", sum := "06f63b07977659e39c4d89bc5a7069a839265e88c6104f65cfd605739e80c1f7", func := "speculum/speculumlaw08.CoatReflects", spec := "coatReflects", unfollowed := true, recurses := true, apart := false, narrowed := true }
def CoatReflectsUptoSaid : Prop := coatReflectsUptoRow.holds Try.pinned (OpenSpec.upto coatReflectsSpec)

/-- 'speculumlaw08.CoatMasks', WHERE WHAT IT READS IS OF BULK AT MOST 1048576: true; the input reads as it did. -/
def coatMasksUptoRow : OpenClaim := { program := "ytjmmjfcapgaomaa", sum := "06f63b07977659e39c4d89bc5a7069a839265e88c6104f65cfd605739e80c1f7", func := "speculum/speculumlaw08.CoatMasks", spec := "coatMasks", unfollowed := true, recurses := true, apart := false, narrowed := true }
def CoatMasksUptoSaid : Prop := coatMasksUptoRow.holds Try.pinned (OpenSpec.upto coatMasksSpec)

/-- 'speculumlaw08.CoatAllowed', WHERE WHAT IT READS IS OF BULK AT MOST 1048576: true; the input reads as it did. -/
def coatAllowedUptoRow : OpenClaim := { program := "ytjmmjfcapgaomaa", sum := "06f63b07977659e39c4d89bc5a7069a839265e88c6104f65cfd605739e80c1f7", func := "speculum/speculumlaw08.CoatAllowed", spec := "coatAllowed", unfollowed := true, recurses := true, apart := false, narrowed := true }
def CoatAllowedUptoSaid : Prop := coatAllowedUptoRow.holds Try.pinned (OpenSpec.upto coatAllowedSpec)

/-- 'speculumlaw08.CoatChains', WHERE WHAT IT READS IS OF BULK AT MOST 1048576: true; the input reads as it did. -/
def coatChainsUptoRow : OpenClaim := { program := "ytjmmjfcapgaomaa", sum := "06f63b07977659e39c4d89bc5a7069a839265e88c6104f65cfd605739e80c1f7", func := "speculum/speculumlaw08.CoatChains", spec := "coatChains", unfollowed := true, recurses := true, apart := false, narrowed := true }
def CoatChainsUptoSaid : Prop := coatChainsUptoRow.holds Try.pinned (OpenSpec.upto coatChainsSpec)

/-- 'speculumlaw08.CoatLeast', WHERE WHAT IT READS IS OF BULK AT MOST 1048576: true; the input reads as it did. -/
def coatLeastUptoRow : OpenClaim := { program := "ytjmmjfcapgaomaa", sum := "06f63b07977659e39c4d89bc5a7069a839265e88c6104f65cfd605739e80c1f7", func := "speculum/speculumlaw08.CoatLeast", spec := "coatLeast", unfollowed := true, recurses := true, apart := false, narrowed := true }
def CoatLeastUptoSaid : Prop := coatLeastUptoRow.holds Try.pinned (OpenSpec.upto coatLeastSpec)

end Rows
end Go.Proofs.Ytjmmjfcapgaomaa
