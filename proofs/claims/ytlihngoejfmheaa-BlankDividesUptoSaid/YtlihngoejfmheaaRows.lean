/-
  No cell of these rows narrows 'for every input' (looked for: loops, veiled, ifaces, maps, wideKeys, modest, calm, conditions, laid).
  DERIVED. THE GIVEN ROWS OF THIS SEAT. 3 by the template 'for every input the law returns true; each argument reads behind the call as it read before'; 0 by the template 'total and deterministic' (their statements: YtlihngoejfmheaaTotals.lean).
  GIVEN WITH THE SEED: the statements are not yours to turn. If you find one false, say at which input.
  Laid BY PROGRAM, IN A SANDBOX (cutbox-rows.mjs): the forced cells as the released guide's own fill.sh prints them over the translation ce3f59736a3fa292… (all of the seat's roots in one cut). By AI agents, Wed Nov 11 2026. No macro, syntax, notation, axiom, sorry.
-/
import Derived.Test.YtlihngoejfmheaaChecked
import GoSem.Claim
import GoSem.ClaimJoined
import GoSem.ClaimMapViews
import Derived.JoinedTies
import Derived.KernelRfl
namespace Go.Proofs.Ytlihngoejfmheaa
/- THE CELL 'sum', in the pinned program and in every row, IS THE sha256 OF THE DUMP (.gsa) THAT YtlihngoejfmheaaProg.lean LOADS. Nothing in Lean hashes anything: it is a label: what it is worth is what the hold of that sum in a sandbox is worth. -/
noncomputable def Try.pinned : Pinned := { name := "ytlihngoejfmheaa", sum := "ce3f59736a3fa2922c98ad54c1de734f9454a4e77642d96034ebf076c0e851a4", checked := Try.checked }
namespace Rows
def none {H : Type} : Left H := { results := [], args := [] }

/-- 'speculumlaw03.BlankDivides': WHATEVER THE INPUT: true; the input reads as it did. -/
def blankDividesSpec : ChangeSpec := { name := "blankDivides", fn := fun _ => fun
  | [d1, d2] => { results := [.lit (.bool true)], args := [d1, d2] }
  | _ => none }
def blankDividesRow : OpenClaim := { program := "ytlihngoejfmheaa", sum := "ce3f59736a3fa2922c98ad54c1de734f9454a4e77642d96034ebf076c0e851a4", func := "speculum/speculumlaw03.BlankDivides", spec := "blankDivides", apart := false }
def BlankDividesSaid : Prop := blankDividesRow.holds Try.pinned (OpenSpec.ofChange blankDividesSpec)

/-- ITS FALSE NEIGHBOUR: 'it returns false'. Refute it at one input. -/
def blankDividesWrong : ChangeSpec := { name := "blankDivides", fn := fun _ => fun
  | [d1, d2] => { results := [.lit (.bool false)], args := [d1, d2] }
  | _ => none }
def BlankDividesWrongFalsely : Prop := blankDividesRow.holds Try.pinned (OpenSpec.ofChange blankDividesWrong)

/-- 'speculumlaw03.BlankStocks': WHATEVER THE INPUT: true; the input reads as it did. -/
def blankStocksSpec : ChangeSpec := { name := "blankStocks", fn := fun _ => fun
  | [d1, d2, d3] => { results := [.lit (.bool true)], args := [d1, d2, d3] }
  | _ => none }
def blankStocksRow : OpenClaim := { program := "ytlihngoejfmheaa", sum := "ce3f59736a3fa2922c98ad54c1de734f9454a4e77642d96034ebf076c0e851a4", func := "speculum/speculumlaw03.BlankStocks", spec := "blankStocks", unfollowed := true, recurses := true, apart := false }
def BlankStocksSaid : Prop := blankStocksRow.holds Try.pinned (OpenSpec.ofChange blankStocksSpec)

/-- ITS FALSE NEIGHBOUR: 'it returns false'. Refute it at one input. -/
def blankStocksWrong : ChangeSpec := { name := "blankStocks", fn := fun _ => fun
  | [d1, d2, d3] => { results := [.lit (.bool false)], args := [d1, d2, d3] }
  | _ => none }
def BlankStocksWrongFalsely : Prop := blankStocksRow.holds Try.pinned (OpenSpec.ofChange blankStocksWrong)

/-- 'speculumtop.TopBlankWeighed': WHATEVER THE INPUT: true; the input reads as it did. -/
def topBlankWeighedSpec : ChangeSpec := { name := "topBlankWeighed", fn := fun _ => fun
  | [d1, d2, d3] => { results := [.lit (.bool true)], args := [d1, d2, d3] }
  | _ => none }
def topBlankWeighedRow : OpenClaim := { program := "ytlihngoejfmheaa", sum := "ce3f59736a3fa2922c98ad54c1de734f9454a4e77642d96034ebf076c0e851a4", func := "speculum/speculumtop.TopBlankWeighed", spec := "topBlankWeighed", unfollowed := true, recurses := true, apart := false }
def TopBlankWeighedSaid : Prop := topBlankWeighedRow.holds Try.pinned (OpenSpec.ofChange topBlankWeighedSpec)

/-- ITS FALSE NEIGHBOUR: 'it returns false'. Refute it at one input. -/
def topBlankWeighedWrong : ChangeSpec := { name := "topBlankWeighed", fn := fun _ => fun
  | [d1, d2, d3] => { results := [.lit (.bool false)], args := [d1, d2, d3] }
  | _ => none }
def TopBlankWeighedWrongFalsely : Prop := topBlankWeighedRow.holds Try.pinned (OpenSpec.ofChange topBlankWeighedWrong)

/- THE SECOND FORM. 'bulk': how many values and letters a reading holds, each counted each time it is reached (what is shared counts as often as it is met; a slice's spare places count too). A statement '..UptoSaid' is the law's where the arguments, and the package variables that the reading takes, are together of bulk at most 1048576: NARROWER than '..Said'. Prove '..Said' where nothing that the law and all that it calls make is longer than what came in: it says more and counts as full. Else prove '..UptoSaid'. A law counts once. -/
mutual
def uptoBulk {H : Type} : DataW H → Nat
  | .lit (.string bytes) => bytes.length + 1
  | .lit _ => 1
  | .nil => 1
  | .ptr d => uptoBulk d + 1
  | .slice elems spare => uptoBulkAll elems + uptoBulkAll spare + 1
  | .agg parts => uptoBulkAll parts + 1
  | .iface _ d => uptoBulk d + 1
  | .map entries => uptoBulkEntries entries + 1
  | .held _ => 1
def uptoBulkAll {H : Type} : List (DataW H) → Nat
  | [] => 0
  | d :: r => uptoBulk d + uptoBulkAll r
def uptoBulkEntries {H : Type} : List (Lit × DataW H) → Nat
  | [] => 0
  | x :: r => uptoBulkEntry x + uptoBulkEntries r
def uptoBulkEntry {H : Type} : Lit × DataW H → Nat
  | (.string bytes, d) => bytes.length + uptoBulk d + 1
  | (_, d) => uptoBulk d + 1
 end
def uptoSmall : (H : Type) → List (DataW H) → Bool := fun _ ds => decide (uptoBulkAll ds ≤ 1048576)
def OpenSpec.upto (s : _root_.Go.ChangeSpec) : _root_.Go.OpenSpec := { _root_.Go.OpenSpec.ofChange s with cond := some uptoSmall }

/-- 'speculumlaw03.BlankDivides', WHERE WHAT IT READS IS OF BULK AT MOST 1048576: true; the input reads as it did. -/
def blankDividesUptoRow : OpenClaim := { program := "ytlihngoejfmheaa", sum := "ce3f59736a3fa2922c98ad54c1de734f9454a4e77642d96034ebf076c0e851a4", func := "speculum/speculumlaw03.BlankDivides", spec := "blankDivides", apart := false, narrowed := true }
def BlankDividesUptoSaid : Prop := blankDividesUptoRow.holds Try.pinned (OpenSpec.upto blankDividesSpec)

/-- 'speculumlaw03.BlankStocks', WHERE WHAT IT READS IS OF BULK AT MOST 1048576: true; the input reads as it did. -/
def blankStocksUptoRow : OpenClaim := { program := "ytlihngoejfmheaa", sum := "ce3f59736a3fa2922c98ad54c1de734f9454a4e77642d96034ebf076c0e851a4", func := "speculum/speculumlaw03.BlankStocks", spec := "blankStocks", unfollowed := true, recurses := true, apart := false, narrowed := true }
def BlankStocksUptoSaid : Prop := blankStocksUptoRow.holds Try.pinned (OpenSpec.upto blankStocksSpec)

/-- 'speculumtop.TopBlankWeighed', WHERE WHAT IT READS IS OF BULK AT MOST 1048576: true; the input reads as it did. -/
def topBlankWeighedUptoRow : OpenClaim := { program := "ytlihngoejfmheaa", sum := "ce3f59736a3fa2922c98ad54c1de734f9454a4e77642d96034ebf076c0e851a4", func := "speculum/speculumtop.TopBlankWeighed", spec := "topBlankWeighed", unfollowed := true, recurses := true, apart := false, narrowed := true }
def TopBlankWeighedUptoSaid : Prop := topBlankWeighedUptoRow.holds Try.pinned (OpenSpec.upto topBlankWeighedSpec)

end Rows
end Go.Proofs.Ytlihngoejfmheaa
