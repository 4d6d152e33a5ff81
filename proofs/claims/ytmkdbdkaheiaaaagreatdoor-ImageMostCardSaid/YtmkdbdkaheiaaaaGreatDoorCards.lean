/-
  DERIVED. GIVEN WITH THE SEED: THE CARDS: each row of YtmkdbdkaheiaaaaGreatDoorRows.lean that lists a variable, with what it lists TIED to the program's text (the seventh form; the later family's looks); each row that meets fmt, with fmt's text TOLD by the authors' own Lean function (tested against real Go, not proved from fmt's source: count such statements apart). THE CARD IS WHAT COUNTS. Prove the row's statement (the work); the ties are given (YtmkdbdkaheiaaaaGreatDoorTie.lean); close each card by the builder's one call (the guide's Derived/Test/ToyasCard.lean, 'card_holds'). Laid BY PROGRAM, IN A SANDBOX (cutbox-door.mjs). By AI agents, Wed Nov 11 2026. No macro, syntax, notation, axiom, sorry.
-/
import Derived.Test.YtmkdbdkaheiaaaaGreatDoorRows
import GoSem.ClaimSeven
namespace Go.Proofs.YtmkdbdkaheiaaaaGreatDoor
namespace Rows

/-- THE TIED CARD OF 'interrexlaw18.ImageMost'. -/
def imageMostCard : Claim7 := { stood := { row := imageMostRow, standIns := [], harness := (true, "c0908111bf652af430c03f953d40bbcd91b27bb589fcefd77b494a08fe3dc5a6"), looks := true }, kinds := [], alts := [], laidByText := true, laidKinds := [.data, .data, .pinned], laidTests := true, laidLooks := .later }
def ImageMostCardSaid : Prop := Claim7.holds Tryz.pinned (.plain (OpenSpec.ofChange imageMostSpec)) imageMostCard

/-- THE TIED CARD OF 'interrexlaw17.HostUpgrades'. -/
def hostUpgradesCard : Claim7 := { stood := { row := hostUpgradesRow, standIns := [], harness := (true, "c0908111bf652af430c03f953d40bbcd91b27bb589fcefd77b494a08fe3dc5a6"), looks := true }, kinds := [], alts := [], laidByText := true, laidKinds := [.data, .data, .pinned], laidTests := true, laidLooks := .later }
def HostUpgradesCardSaid : Prop := Claim7.holds Tryz.pinned (.plain (OpenSpec.ofChange hostUpgradesSpec)) hostUpgradesCard

/-- THE TIED CARD OF 'interrexlaw17.HostOf'. -/
def hostOfCard : Claim7 := { stood := { row := hostOfRow, standIns := [], harness := (true, "c0908111bf652af430c03f953d40bbcd91b27bb589fcefd77b494a08fe3dc5a6"), looks := true }, kinds := [], alts := [], laidByText := true, laidKinds := [.data, .data, .pinned], laidTests := true, laidLooks := .later }
def HostOfCardSaid : Prop := Claim7.holds Tryz.pinned (.plain (OpenSpec.ofChange hostOfSpec)) hostOfCard

/-- THE TIED CARD OF 'interrexlaw18.ImageReads'. -/
def imageReadsCard : Claim7 := { stood := { row := imageReadsRow, standIns := [], harness := (true, "c0908111bf652af430c03f953d40bbcd91b27bb589fcefd77b494a08fe3dc5a6"), looks := true }, kinds := [], alts := [], laidByText := true, laidKinds := [.data, .data, .pinned], laidTests := true, laidLooks := .later }
def ImageReadsCardSaid : Prop := Claim7.holds Tryz.pinned (.plain (OpenSpec.ofChange imageReadsSpec)) imageReadsCard

/-- THE TIED CARD OF 'interrexlaw18.ImageGoes'. -/
def imageGoesCard : Claim7 := { stood := { row := imageGoesRow, standIns := [], harness := (true, "c0908111bf652af430c03f953d40bbcd91b27bb589fcefd77b494a08fe3dc5a6"), looks := true }, kinds := [], alts := [], laidByText := true, laidKinds := [.data, .data, .pinned], laidTests := true, laidLooks := .later }
def ImageGoesCardSaid : Prop := Claim7.holds Tryz.pinned (.plain (OpenSpec.ofChange imageGoesSpec)) imageGoesCard

/-- THE TIED CARD OF 'interrexlaw18.ImageBytes'. -/
def imageBytesCard : Claim7 := { stood := { row := imageBytesRow, standIns := [], harness := (true, "c0908111bf652af430c03f953d40bbcd91b27bb589fcefd77b494a08fe3dc5a6"), looks := true }, kinds := [], alts := [], laidByText := true, laidKinds := [.data, .data, .pinned], laidTests := true, laidLooks := .later }
def ImageBytesCardSaid : Prop := Claim7.holds Tryz.pinned (.plain (OpenSpec.ofChange imageBytesSpec)) imageBytesCard

/-- THE SECOND FORM's CARD OF 'interrexlaw18.ImageMost'. -/
def imageMostUptoCard : Claim7 := { stood := { row := imageMostUptoRow, standIns := [], harness := (true, "c0908111bf652af430c03f953d40bbcd91b27bb589fcefd77b494a08fe3dc5a6"), looks := true }, kinds := [], alts := [], laidByText := true, laidKinds := [.data, .data, .pinned], laidTests := true, laidLooks := .later }
def ImageMostUptoCardSaid : Prop := Claim7.holds Tryz.pinned (.plain (OpenSpec.upto imageMostSpec)) imageMostUptoCard

/-- THE SECOND FORM's CARD OF 'interrexlaw17.HostUpgrades'. -/
def hostUpgradesUptoCard : Claim7 := { stood := { row := hostUpgradesUptoRow, standIns := [], harness := (true, "c0908111bf652af430c03f953d40bbcd91b27bb589fcefd77b494a08fe3dc5a6"), looks := true }, kinds := [], alts := [], laidByText := true, laidKinds := [.data, .data, .pinned], laidTests := true, laidLooks := .later }
def HostUpgradesUptoCardSaid : Prop := Claim7.holds Tryz.pinned (.plain (OpenSpec.upto hostUpgradesSpec)) hostUpgradesUptoCard

/-- THE SECOND FORM's CARD OF 'interrexlaw17.HostOf'. -/
def hostOfUptoCard : Claim7 := { stood := { row := hostOfUptoRow, standIns := [], harness := (true, "c0908111bf652af430c03f953d40bbcd91b27bb589fcefd77b494a08fe3dc5a6"), looks := true }, kinds := [], alts := [], laidByText := true, laidKinds := [.data, .data, .pinned], laidTests := true, laidLooks := .later }
def HostOfUptoCardSaid : Prop := Claim7.holds Tryz.pinned (.plain (OpenSpec.upto hostOfSpec)) hostOfUptoCard

/-- THE SECOND FORM's CARD OF 'interrexlaw18.ImageReads'. -/
def imageReadsUptoCard : Claim7 := { stood := { row := imageReadsUptoRow, standIns := [], harness := (true, "c0908111bf652af430c03f953d40bbcd91b27bb589fcefd77b494a08fe3dc5a6"), looks := true }, kinds := [], alts := [], laidByText := true, laidKinds := [.data, .data, .pinned], laidTests := true, laidLooks := .later }
def ImageReadsUptoCardSaid : Prop := Claim7.holds Tryz.pinned (.plain (OpenSpec.upto imageReadsSpec)) imageReadsUptoCard

/-- THE SECOND FORM's CARD OF 'interrexlaw18.ImageGoes'. -/
def imageGoesUptoCard : Claim7 := { stood := { row := imageGoesUptoRow, standIns := [], harness := (true, "c0908111bf652af430c03f953d40bbcd91b27bb589fcefd77b494a08fe3dc5a6"), looks := true }, kinds := [], alts := [], laidByText := true, laidKinds := [.data, .data, .pinned], laidTests := true, laidLooks := .later }
def ImageGoesUptoCardSaid : Prop := Claim7.holds Tryz.pinned (.plain (OpenSpec.upto imageGoesSpec)) imageGoesUptoCard

/-- THE SECOND FORM's CARD OF 'interrexlaw18.ImageBytes'. -/
def imageBytesUptoCard : Claim7 := { stood := { row := imageBytesUptoRow, standIns := [], harness := (true, "c0908111bf652af430c03f953d40bbcd91b27bb589fcefd77b494a08fe3dc5a6"), looks := true }, kinds := [], alts := [], laidByText := true, laidKinds := [.data, .data, .pinned], laidTests := true, laidLooks := .later }
def ImageBytesUptoCardSaid : Prop := Claim7.holds Tryz.pinned (.plain (OpenSpec.upto imageBytesSpec)) imageBytesUptoCard
end Rows
end Go.Proofs.YtmkdbdkaheiaaaaGreatDoor
