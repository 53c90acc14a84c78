/-
  DERIVED. GIVEN WITH THE SEED: THE CARDS: each row of YthhidmnlhocigaaGreatDoorRows.lean that lists a variable, with what it lists TIED to the program's text (the seventh form; the later family's looks); each row that meets fmt, with fmt's text TOLD by the authors' own Lean function (tested against real Go, not proved from fmt's source: count such statements apart). THE CARD IS WHAT COUNTS. Prove the row's statement (the work); the ties are given (YthhidmnlhocigaaGreatDoorTie.lean); close each card by the builder's one call (the guide's Derived/Test/ToyasCard.lean, 'card_holds'). Laid BY PROGRAM, IN A SANDBOX (cutbox-door.mjs). By AI agents, Wed Nov 11 2026. No macro, syntax, notation, axiom, sorry.
-/
import Derived.Test.YthhidmnlhocigaaGreatDoorRows
import GoSem.ClaimSeven
namespace Go.Proofs.YthhidmnlhocigaaGreatDoor
namespace Rows

/-- THE TIED CARD OF 'speculumlaw08.CoatTexts'. -/
def coatTextsCard : Claim7 := { stood := { row := coatTextsRow, standIns := [], harness := (true, "d6fe08bf0b0321f3f2727506f9a79965d37aabcef216dbd940cd9056e3fe9dd1"), looks := true }, kinds := [], alts := [], laidByText := true, laidKinds := [.data, .data, .data, .data, .sentinel, .sentinel, .pinned], laidTests := true, laidLooks := .later }
def CoatTextsCardSaid : Prop := Claim7.holds Tryz.pinned (.plain (OpenSpec.ofChange coatTextsSpec)) coatTextsCard

/-- THE SECOND FORM's CARD OF 'speculumlaw08.CoatTexts'. -/
def coatTextsUptoCard : Claim7 := { stood := { row := coatTextsUptoRow, standIns := [], harness := (true, "d6fe08bf0b0321f3f2727506f9a79965d37aabcef216dbd940cd9056e3fe9dd1"), looks := true }, kinds := [], alts := [], laidByText := true, laidKinds := [.data, .data, .data, .data, .sentinel, .sentinel, .pinned], laidTests := true, laidLooks := .later }
def CoatTextsUptoCardSaid : Prop := Claim7.holds Tryz.pinned (.plain (OpenSpec.upto coatTextsSpec)) coatTextsUptoCard
end Rows
end Go.Proofs.YthhidmnlhocigaaGreatDoor
