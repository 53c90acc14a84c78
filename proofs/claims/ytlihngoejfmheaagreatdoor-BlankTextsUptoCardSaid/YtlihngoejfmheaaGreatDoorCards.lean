/-
  DERIVED. GIVEN WITH THE SEED: THE CARDS: each row of YtlihngoejfmheaaGreatDoorRows.lean that lists a variable, with what it lists TIED to the program's text (the seventh form; the later family's looks); each row that meets fmt, with fmt's text TOLD by the authors' own Lean function (tested against real Go, not proved from fmt's source: count such statements apart). THE CARD IS WHAT COUNTS. Prove the row's statement (the work); the ties are given (YtlihngoejfmheaaGreatDoorTie.lean); close each card by the builder's one call (the guide's Derived/Test/ToyasCard.lean, 'card_holds'). Laid BY PROGRAM, IN A SANDBOX (cutbox-door.mjs). By AI agents, Wed Nov 11 2026. No macro, syntax, notation, axiom, sorry.
-/
import Derived.Test.YtlihngoejfmheaaGreatDoorRows
import GoSem.ClaimSeven
namespace Go.Proofs.YtlihngoejfmheaaGreatDoor
namespace Rows

/-- THE TIED CARD OF 'speculumlaw03.BlankTexts'. -/
def blankTextsCard : Claim7 := { stood := { row := blankTextsRow, standIns := [], harness := (true, "b11695bf4c833bc6c9cf13c250185ac75295db3ab52b880ba44e94b5c93b2bb0"), looks := true }, kinds := [], alts := [], laidByText := true, laidKinds := [.data, .data, .data, .data, .sentinel, .sentinel, .pinned], laidTests := true, laidLooks := .later }
def BlankTextsCardSaid : Prop := Claim7.holds Tryz.pinned (.plain (OpenSpec.ofChange blankTextsSpec)) blankTextsCard

/-- THE SECOND FORM's CARD OF 'speculumlaw03.BlankTexts'. -/
def blankTextsUptoCard : Claim7 := { stood := { row := blankTextsUptoRow, standIns := [], harness := (true, "b11695bf4c833bc6c9cf13c250185ac75295db3ab52b880ba44e94b5c93b2bb0"), looks := true }, kinds := [], alts := [], laidByText := true, laidKinds := [.data, .data, .data, .data, .sentinel, .sentinel, .pinned], laidTests := true, laidLooks := .later }
def BlankTextsUptoCardSaid : Prop := Claim7.holds Tryz.pinned (.plain (OpenSpec.upto blankTextsSpec)) blankTextsUptoCard
end Rows
end Go.Proofs.YtlihngoejfmheaaGreatDoor
