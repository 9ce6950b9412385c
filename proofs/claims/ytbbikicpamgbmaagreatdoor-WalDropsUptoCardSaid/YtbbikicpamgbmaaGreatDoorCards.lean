/-
  DERIVED. GIVEN WITH THE SEED: THE CARDS: each row of YtbbikicpamgbmaaGreatDoorRows.lean that lists a variable, with what it lists TIED to the program's text (the seventh form; the later family's looks); each row that meets fmt, with fmt's text TOLD by the authors' own Lean function (tested against real Go, not proved from fmt's source: count such statements apart). THE CARD IS WHAT COUNTS. Prove the row's statement (the work); the ties are given (YtbbikicpamgbmaaGreatDoorTie.lean); close each card by the builder's one call (the guide's Derived/Test/ToyasCard.lean, 'card_holds'). Laid BY PROGRAM, IN A SANDBOX (cutbox-door.mjs). By AI agents, Wed Nov 11 2026. No macro, syntax, notation, axiom, sorry.
-/
import Derived.Test.YtbbikicpamgbmaaGreatDoorRows
import GoSem.ClaimSeven
namespace Go.Proofs.YtbbikicpamgbmaaGreatDoor
namespace Rows

/-- THE TIED CARD OF 'wherrylaw04.WalTimes'. -/
def walTimesCard : Claim7 := { stood := { row := walTimesRow, standIns := [], harness := (true, "3ade4fa76a6b213b7e1a8f2d3f5b6752e130ad81b99e9bf83d0b329023911786"), looks := true }, kinds := [], alts := [], laidByText := true, laidKinds := [.data, .data, .data, .sentinel, .sentinel], laidTests := true, laidLooks := .later }
def WalTimesCardSaid : Prop := Claim7.holds Tryz.pinned (.plain (OpenSpec.ofChange walTimesSpec)) walTimesCard

/-- THE TIED CARD OF 'wherrylaw04.WalParts'. -/
def walPartsCard : Claim7 := { stood := { row := walPartsRow, standIns := [], harness := (true, "3ade4fa76a6b213b7e1a8f2d3f5b6752e130ad81b99e9bf83d0b329023911786"), looks := true }, kinds := [], alts := [], laidByText := true, laidKinds := [.data, .data, .data, .sentinel, .sentinel], laidTests := true, laidLooks := .later }
def WalPartsCardSaid : Prop := Claim7.holds Tryz.pinned (.plain (OpenSpec.ofChange walPartsSpec)) walPartsCard

/-- THE TIED CARD OF 'wherrylaw04.WalDrops'. -/
def walDropsCard : Claim7 := { stood := { row := walDropsRow, standIns := [], harness := (true, "3ade4fa76a6b213b7e1a8f2d3f5b6752e130ad81b99e9bf83d0b329023911786"), looks := true }, kinds := [], alts := [], laidByText := true, laidKinds := [.data, .data, .data, .sentinel, .sentinel], laidTests := true, laidLooks := .later }
def WalDropsCardSaid : Prop := Claim7.holds Tryz.pinned (.plain (OpenSpec.ofChange walDropsSpec)) walDropsCard

/-- THE SECOND FORM's CARD OF 'wherrylaw04.WalTimes'. -/
def walTimesUptoCard : Claim7 := { stood := { row := walTimesUptoRow, standIns := [], harness := (true, "3ade4fa76a6b213b7e1a8f2d3f5b6752e130ad81b99e9bf83d0b329023911786"), looks := true }, kinds := [], alts := [], laidByText := true, laidKinds := [.data, .data, .data, .sentinel, .sentinel], laidTests := true, laidLooks := .later }
def WalTimesUptoCardSaid : Prop := Claim7.holds Tryz.pinned (.plain (OpenSpec.upto walTimesSpec)) walTimesUptoCard

/-- THE SECOND FORM's CARD OF 'wherrylaw04.WalParts'. -/
def walPartsUptoCard : Claim7 := { stood := { row := walPartsUptoRow, standIns := [], harness := (true, "3ade4fa76a6b213b7e1a8f2d3f5b6752e130ad81b99e9bf83d0b329023911786"), looks := true }, kinds := [], alts := [], laidByText := true, laidKinds := [.data, .data, .data, .sentinel, .sentinel], laidTests := true, laidLooks := .later }
def WalPartsUptoCardSaid : Prop := Claim7.holds Tryz.pinned (.plain (OpenSpec.upto walPartsSpec)) walPartsUptoCard

/-- THE SECOND FORM's CARD OF 'wherrylaw04.WalDrops'. -/
def walDropsUptoCard : Claim7 := { stood := { row := walDropsUptoRow, standIns := [], harness := (true, "3ade4fa76a6b213b7e1a8f2d3f5b6752e130ad81b99e9bf83d0b329023911786"), looks := true }, kinds := [], alts := [], laidByText := true, laidKinds := [.data, .data, .data, .sentinel, .sentinel], laidTests := true, laidLooks := .later }
def WalDropsUptoCardSaid : Prop := Claim7.holds Tryz.pinned (.plain (OpenSpec.upto walDropsSpec)) walDropsUptoCard
end Rows
end Go.Proofs.YtbbikicpamgbmaaGreatDoor
