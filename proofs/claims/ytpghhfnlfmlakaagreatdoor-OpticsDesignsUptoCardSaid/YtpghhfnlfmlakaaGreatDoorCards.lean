/-
  DERIVED. GIVEN WITH THE SEED: THE CARDS: each row of YtpghhfnlfmlakaaGreatDoorRows.lean that lists a variable, with what it lists TIED to the program's text (the seventh form; the later family's looks); each row that meets fmt, with fmt's text TOLD by the authors' own Lean function (tested against real Go, not proved from fmt's source: count such statements apart). THE CARD IS WHAT COUNTS. Prove the row's statement (the work); the ties are given (YtpghhfnlfmlakaaGreatDoorTie.lean); close each card by the builder's one call (the guide's Derived/Test/ToyasCard.lean, 'card_holds'). Laid BY PROGRAM, IN A SANDBOX (cutbox-door.mjs). By AI agents, Wed Nov 11 2026. No macro, syntax, notation, axiom, sorry.
-/
import Derived.Test.YtpghhfnlfmlakaaGreatDoorRows
import GoSem.ClaimSeven
namespace Go.Proofs.YtpghhfnlfmlakaaGreatDoor
namespace Rows

/-- THE TIED CARD OF 'speculumlaw08.CoatTexts'. -/
def coatTextsCard : Claim7 := { stood := { row := coatTextsRow, standIns := [], harness := (true, "10763a2ffad058d7e37f3422b356e500eab9a8257048a41ab88bb563c63352cf"), looks := true }, kinds := [], alts := [], laidByText := true, laidKinds := [.data, .data, .data, .data, .sentinel, .sentinel, .pinned], laidTests := true, laidLooks := .later }
def CoatTextsCardSaid : Prop := Claim7.holds Tryz.pinned (.plain (OpenSpec.ofChange coatTextsSpec)) coatTextsCard

/-- THE TIED CARD OF 'speculumlaw02.OpticsReads'. -/
def opticsReadsCard : Claim7 := { stood := { row := opticsReadsRow, standIns := [], harness := (true, "10763a2ffad058d7e37f3422b356e500eab9a8257048a41ab88bb563c63352cf"), looks := true }, kinds := [], alts := [], laidByText := true, laidKinds := [.data, .data, .data, .data, .data, .sentinel, .sentinel, .data, .mapped, .pinned], laidTests := true, laidLooks := .later }
def OpticsReadsCardSaid : Prop := Claim7.holds Tryz.pinned (.plain (OpenSpec.ofChange opticsReadsSpec)) opticsReadsCard

/-- THE TIED CARD OF 'speculumlaw02.OpticsDesigns'. -/
def opticsDesignsCard : Claim7 := { stood := { row := opticsDesignsRow, standIns := [], harness := (true, "10763a2ffad058d7e37f3422b356e500eab9a8257048a41ab88bb563c63352cf"), looks := true }, kinds := [], alts := [], laidByText := true, laidKinds := [.data, .data, .data, .data, .sentinel, .sentinel, .data, .mapped, .pinned], laidTests := true, laidLooks := .later }
def OpticsDesignsCardSaid : Prop := Claim7.holds Tryz.pinned (.plain (OpenSpec.ofChange opticsDesignsSpec)) opticsDesignsCard

/-- THE SECOND FORM's CARD OF 'speculumlaw08.CoatTexts'. -/
def coatTextsUptoCard : Claim7 := { stood := { row := coatTextsUptoRow, standIns := [], harness := (true, "10763a2ffad058d7e37f3422b356e500eab9a8257048a41ab88bb563c63352cf"), looks := true }, kinds := [], alts := [], laidByText := true, laidKinds := [.data, .data, .data, .data, .sentinel, .sentinel, .pinned], laidTests := true, laidLooks := .later }
def CoatTextsUptoCardSaid : Prop := Claim7.holds Tryz.pinned (.plain (OpenSpec.upto coatTextsSpec)) coatTextsUptoCard

/-- THE SECOND FORM's CARD OF 'speculumlaw02.OpticsReads'. -/
def opticsReadsUptoCard : Claim7 := { stood := { row := opticsReadsUptoRow, standIns := [], harness := (true, "10763a2ffad058d7e37f3422b356e500eab9a8257048a41ab88bb563c63352cf"), looks := true }, kinds := [], alts := [], laidByText := true, laidKinds := [.data, .data, .data, .data, .data, .sentinel, .sentinel, .data, .mapped, .pinned], laidTests := true, laidLooks := .later }
def OpticsReadsUptoCardSaid : Prop := Claim7.holds Tryz.pinned (.plain (OpenSpec.upto opticsReadsSpec)) opticsReadsUptoCard

/-- THE SECOND FORM's CARD OF 'speculumlaw02.OpticsDesigns'. -/
def opticsDesignsUptoCard : Claim7 := { stood := { row := opticsDesignsUptoRow, standIns := [], harness := (true, "10763a2ffad058d7e37f3422b356e500eab9a8257048a41ab88bb563c63352cf"), looks := true }, kinds := [], alts := [], laidByText := true, laidKinds := [.data, .data, .data, .data, .sentinel, .sentinel, .data, .mapped, .pinned], laidTests := true, laidLooks := .later }
def OpticsDesignsUptoCardSaid : Prop := Claim7.holds Tryz.pinned (.plain (OpenSpec.upto opticsDesignsSpec)) opticsDesignsUptoCard
end Rows
end Go.Proofs.YtpghhfnlfmlakaaGreatDoor
