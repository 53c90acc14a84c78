/-
  No cell of these rows narrows 'for every input' (looked for: loops, veiled, ifaces, maps, wideKeys, modest, calm, conditions, laid).
  DERIVED. THE GIVEN ROWS OF THIS SEAT. 5 by the template 'for every input the law returns true; each argument reads behind the call as it read before'; 0 by the template 'total and deterministic' (their statements: YtpnpehoebfdcoaaTotals.lean).
  GIVEN WITH THE SEED: the statements are not yours to turn. If you find one false, say at which input.
  Laid BY PROGRAM, IN A SANDBOX (cutbox-rows.mjs): the forced cells as the released guide's own fill.sh prints them over the translation af4dfc38f6e35821… (all of the seat's roots in one cut). By AI agents, Wed Nov 11 2026. No macro, syntax, notation, axiom, sorry.
-/
import Derived.Test.YtpnpehoebfdcoaaChecked
import GoSem.Claim
import GoSem.ClaimJoined
import GoSem.ClaimMapViews
import Derived.JoinedTies
import Derived.KernelRfl
namespace Go.Proofs.Ytpnpehoebfdcoaa
/- THE CELL 'sum', in the pinned program and in every row, IS THE sha256 OF THE DUMP (.gsa) THAT YtpnpehoebfdcoaaProg.lean LOADS. Nothing in Lean hashes anything: it is a label: what it is worth is what the hold of that sum in a sandbox is worth. -/
noncomputable def Try.pinned : Pinned := { name := "ytpnpehoebfdcoaa", sum := "af4dfc38f6e35821802b7dd349cccc48250881594211d5054beadf1c040045c1", checked := Try.checked }
namespace Rows
def none {H : Type} : Left H := { results := [], args := [] }

/-- 'speculumlaw08.CoatNext': WHATEVER THE INPUT: true; the input reads as it did. -/
def coatNextSpec : ChangeSpec := { name := "coatNext", fn := fun _ => fun
  | [d1, d2, d3] => { results := [.lit (.bool true)], args := [d1, d2, d3] }
  | _ => none }
def coatNextRow : OpenClaim := { program := "ytpnpehoebfdcoaa", sum := "af4dfc38f6e35821802b7dd349cccc48250881594211d5054beadf1c040045c1", func := "speculum/speculumlaw08.CoatNext", spec := "coatNext", unfollowed := true, recurses := true, apart := false }
def CoatNextSaid : Prop := coatNextRow.holds Try.pinned (OpenSpec.ofChange coatNextSpec)

/-- ITS FALSE NEIGHBOUR: 'it returns false'. Refute it at one input. -/
def coatNextWrong : ChangeSpec := { name := "coatNext", fn := fun _ => fun
  | [d1, d2, d3] => { results := [.lit (.bool false)], args := [d1, d2, d3] }
  | _ => none }
def CoatNextWrongFalsely : Prop := coatNextRow.holds Try.pinned (OpenSpec.ofChange coatNextWrong)

/-- 'speculumlaw08.CoatReflects': WHATEVER THE INPUT: true; the input reads as it did. -/
def coatReflectsSpec : ChangeSpec := { name := "coatReflects", fn := fun _ => fun
  | [d1, d2] => { results := [.lit (.bool true)], args := [d1, d2] }
  | _ => none }
def coatReflectsRow : OpenClaim := { program := "ytpnpehoebfdcoaa", sum := "af4dfc38f6e35821802b7dd349cccc48250881594211d5054beadf1c040045c1", func := "speculum/speculumlaw08.CoatReflects", spec := "coatReflects", unfollowed := true, recurses := true, apart := false }
def CoatReflectsSaid : Prop := coatReflectsRow.holds Try.pinned (OpenSpec.ofChange coatReflectsSpec)

/-- ITS FALSE NEIGHBOUR: 'it returns false'. Refute it at one input. -/
def coatReflectsWrong : ChangeSpec := { name := "coatReflects", fn := fun _ => fun
  | [d1, d2] => { results := [.lit (.bool false)], args := [d1, d2] }
  | _ => none }
def CoatReflectsWrongFalsely : Prop := coatReflectsRow.holds Try.pinned (OpenSpec.ofChange coatReflectsWrong)

/-- 'speculumlaw08.CoatAllowed': WHATEVER THE INPUT: true; the input reads as it did. -/
def coatAllowedSpec : ChangeSpec := { name := "coatAllowed", fn := fun _ => fun
  | [d1, d2, d3] => { results := [.lit (.bool true)], args := [d1, d2, d3] }
  | _ => none }
def coatAllowedRow : OpenClaim := { program := "ytpnpehoebfdcoaa", sum := "af4dfc38f6e35821802b7dd349cccc48250881594211d5054beadf1c040045c1", func := "speculum/speculumlaw08.CoatAllowed", spec := "coatAllowed", unfollowed := true, recurses := true, apart := false }
def CoatAllowedSaid : Prop := coatAllowedRow.holds Try.pinned (OpenSpec.ofChange coatAllowedSpec)

/-- ITS FALSE NEIGHBOUR: 'it returns false'. Refute it at one input. -/
def coatAllowedWrong : ChangeSpec := { name := "coatAllowed", fn := fun _ => fun
  | [d1, d2, d3] => { results := [.lit (.bool false)], args := [d1, d2, d3] }
  | _ => none }
def CoatAllowedWrongFalsely : Prop := coatAllowedRow.holds Try.pinned (OpenSpec.ofChange coatAllowedWrong)

/-- 'speculumlaw08.CoatChains': WHATEVER THE INPUT: true; the input reads as it did. -/
def coatChainsSpec : ChangeSpec := { name := "coatChains", fn := fun _ => fun
  | [d1, d2] => { results := [.lit (.bool true)], args := [d1, d2] }
  | _ => none }
def coatChainsRow : OpenClaim := { program := "ytpnpehoebfdcoaa", sum := "af4dfc38f6e35821802b7dd349cccc48250881594211d5054beadf1c040045c1", func := "speculum/speculumlaw08.CoatChains", spec := "coatChains", unfollowed := true, recurses := true, apart := false }
def CoatChainsSaid : Prop := coatChainsRow.holds Try.pinned (OpenSpec.ofChange coatChainsSpec)

/-- ITS FALSE NEIGHBOUR: 'it returns false'. Refute it at one input. -/
def coatChainsWrong : ChangeSpec := { name := "coatChains", fn := fun _ => fun
  | [d1, d2] => { results := [.lit (.bool false)], args := [d1, d2] }
  | _ => none }
def CoatChainsWrongFalsely : Prop := coatChainsRow.holds Try.pinned (OpenSpec.ofChange coatChainsWrong)

/-- 'speculumlaw08.CoatLeast': WHATEVER THE INPUT: true; the input reads as it did. -/
def coatLeastSpec : ChangeSpec := { name := "coatLeast", fn := fun _ => fun
  | [d1, d2, d3] => { results := [.lit (.bool true)], args := [d1, d2, d3] }
  | _ => none }
def coatLeastRow : OpenClaim := { program := "ytpnpehoebfdcoaa", sum := "af4dfc38f6e35821802b7dd349cccc48250881594211d5054beadf1c040045c1", func := "speculum/speculumlaw08.CoatLeast", spec := "coatLeast", unfollowed := true, recurses := true, apart := false }
def CoatLeastSaid : Prop := coatLeastRow.holds Try.pinned (OpenSpec.ofChange coatLeastSpec)

/-- ITS FALSE NEIGHBOUR: 'it returns false'. Refute it at one input. -/
def coatLeastWrong : ChangeSpec := { name := "coatLeast", fn := fun _ => fun
  | [d1, d2, d3] => { results := [.lit (.bool false)], args := [d1, d2, d3] }
  | _ => none }
def CoatLeastWrongFalsely : Prop := coatLeastRow.holds Try.pinned (OpenSpec.ofChange coatLeastWrong)

/- THE SECOND FORM. 'bulk': how many values and letters a reading holds, each counted each time it is reached (what is shared counts as often as it is met; a slice's spare places count too). A statement '..UptoSaid' is the law's where the arguments, and the package variables that the reading takes, are together of bulk at most 1048576: NARROWER than '..Said'. Prove '..Said' where nothing that the law and all that it calls make is longer than what came in: it says more and counts as full. Else prove '..UptoSaid'. A law counts once. -/
mutual
def uptoBulk {H : Type} : DataW H → Nat
  | .lit (.string bytes) => bytes.length + 1
  | .lit _ => 1
  | .nil => 1
  | .ptr d => uptoBulk d + 1
  | .slice elems spare => uptoBulkAll elems + uptoBulkAll spare + 1
  | .agg parts => uptoBulkAll parts + 1
  | .iface _ d => uptoBulk d + 1
  | .map entries => uptoBulkEntries entries + 1
  | .held _ => 1
def uptoBulkAll {H : Type} : List (DataW H) → Nat
  | [] => 0
  | d :: r => uptoBulk d + uptoBulkAll r
def uptoBulkEntries {H : Type} : List (Lit × DataW H) → Nat
  | [] => 0
  | x :: r => uptoBulkEntry x + uptoBulkEntries r
def uptoBulkEntry {H : Type} : Lit × DataW H → Nat
  | (.string bytes, d) => bytes.length + uptoBulk d + 1
  | (_, d) => uptoBulk d + 1
 end
def uptoSmall : (H : Type) → List (DataW H) → Bool := fun _ ds => decide (uptoBulkAll ds ≤ 1048576)
def OpenSpec.upto (s : _root_.Go.ChangeSpec) : _root_.Go.OpenSpec := { _root_.Go.OpenSpec.ofChange s with cond := some uptoSmall }

/-- 'speculumlaw08.CoatNext', WHERE WHAT IT READS IS OF BULK AT MOST 1048576: true; the input reads as it did. -/
def coatNextUptoRow : OpenClaim := { program := "ytpnpehoebfdcoaa", sum := "af4dfc38f6e35821802b7dd349cccc48250881594211d5054beadf1c040045c1", func := "speculum/speculumlaw08.CoatNext", spec := "coatNext", unfollowed := true, recurses := true, apart := false, narrowed := true }
def CoatNextUptoSaid : Prop := coatNextUptoRow.holds Try.pinned (OpenSpec.upto coatNextSpec)

/-- 'speculumlaw08.CoatReflects', WHERE WHAT IT READS IS OF BULK AT MOST 1048576: true; the input reads as it did. -/
def coatReflectsUptoRow : OpenClaim := { program := "ytpnpehoebfdcoaa", sum := "af4dfc38f6e35821802b7dd349cccc48250881594211d5054beadf1c040045c1", func := "speculum/speculumlaw08.CoatReflects", spec := "coatReflects", unfollowed := true, recurses := true, apart := false, narrowed := true }
def CoatReflectsUptoSaid : Prop := coatReflectsUptoRow.holds Try.pinned (OpenSpec.upto coatReflectsSpec)

/-- 'speculumlaw08.CoatAllowed', WHERE WHAT IT READS IS OF BULK AT MOST 1048576: true; the input reads as it did. -/
def coatAllowedUptoRow : OpenClaim := { program := "ytpnpehoebfdcoaa", sum := "af4dfc38f6e35821802b7dd349cccc48250881594211d5054beadf1c040045c1", func := "speculum/speculumlaw08.CoatAllowed", spec := "coatAllowed", unfollowed := true, recurses := true, apart := false, narrowed := true }
def CoatAllowedUptoSaid : Prop := coatAllowedUptoRow.holds Try.pinned (OpenSpec.upto coatAllowedSpec)

/-- 'speculumlaw08.CoatChains', WHERE WHAT IT READS IS OF BULK AT MOST 1048576: true; the input reads as it did. -/
def coatChainsUptoRow : OpenClaim := { program := "ytpnpehoebfdcoaa", sum := "af4dfc38f6e35821802b7dd349cccc48250881594211d5054beadf1c040045c1", func := "speculum/speculumlaw08.CoatChains", spec := "coatChains", unfollowed := true, recurses := true, apart := false, narrowed := true }
def CoatChainsUptoSaid : Prop := coatChainsUptoRow.holds Try.pinned (OpenSpec.upto coatChainsSpec)

/-- 'speculumlaw08.CoatLeast', WHERE WHAT IT READS IS OF BULK AT MOST 1048576: true; the input reads as it did. -/
def coatLeastUptoRow : OpenClaim := { program := "ytpnpehoebfdcoaa", sum := "af4dfc38f6e35821802b7dd349cccc48250881594211d5054beadf1c040045c1", func := "speculum/speculumlaw08.CoatLeast", spec := "coatLeast", unfollowed := true, recurses := true, apart := false, narrowed := true }
def CoatLeastUptoSaid : Prop := coatLeastUptoRow.holds Try.pinned (OpenSpec.upto coatLeastSpec)

end Rows
end Go.Proofs.Ytpnpehoebfdcoaa
