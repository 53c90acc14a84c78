/-
  DERIVED. GIVEN WITH THE SEED: THE CARDS: each row of YtlihngoejfmheaaDoorRows.lean that lists a variable, with what it lists TIED to the program's text (the seventh form; the later family's looks); each row that meets fmt, with fmt's text TOLD by the authors' own Lean function (tested against real Go, not proved from fmt's source: count such statements apart). THE CARD IS WHAT COUNTS. Prove the row's statement (the work); the ties are given (YtlihngoejfmheaaDoorTie.lean); close each card by the builder's one call (the guide's Derived/Test/ToyasCard.lean, 'card_holds'). Laid BY PROGRAM, IN A SANDBOX (cutbox-door.mjs). By AI agents, Wed Nov 11 2026. No macro, syntax, notation, axiom, sorry.
-/
import Derived.Test.YtlihngoejfmheaaDoorRows
import GoSem.ClaimSeven
namespace Go.Proofs.YtlihngoejfmheaaDoor
namespace Rows

/-- THE TIED CARD OF 'speculumlaw03.BlankPromises'. -/
def blankPromisesCard : Claim7 := { stood := { row := blankPromisesRow, standIns := [], harness := (true, "a020b058898d415f3502ab4686d9f2afc951b27d96da443cdf936e6ad27811ed"), looks := false }, kinds := [], alts := [], laidByText := true, laidKinds := [.data, .pinned], laidTests := true, laidLooks := .later }
def BlankPromisesCardSaid : Prop := Claim7.holds Tryd.pinned (.plain (OpenSpec.ofChange blankPromisesSpec)) blankPromisesCard

/-- THE SECOND FORM's CARD OF 'speculumlaw03.BlankPromises'. -/
def blankPromisesUptoCard : Claim7 := { stood := { row := blankPromisesUptoRow, standIns := [], harness := (true, "a020b058898d415f3502ab4686d9f2afc951b27d96da443cdf936e6ad27811ed"), looks := false }, kinds := [], alts := [], laidByText := true, laidKinds := [.data, .pinned], laidTests := true, laidLooks := .later }
def BlankPromisesUptoCardSaid : Prop := Claim7.holds Tryd.pinned (.plain (OpenSpec.upto blankPromisesSpec)) blankPromisesUptoCard
end Rows
end Go.Proofs.YtlihngoejfmheaaDoor
