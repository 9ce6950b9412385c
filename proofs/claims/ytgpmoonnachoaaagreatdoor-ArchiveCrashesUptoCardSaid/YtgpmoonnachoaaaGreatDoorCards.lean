/-
  DERIVED. GIVEN WITH THE SEED: THE CARDS: each row of YtgpmoonnachoaaaGreatDoorRows.lean that lists a variable, with what it lists TIED to the program's text (the seventh form; the later family's looks); each row that meets fmt, with fmt's text TOLD by the authors' own Lean function (tested against real Go, not proved from fmt's source: count such statements apart). THE CARD IS WHAT COUNTS. Prove the row's statement (the work); the ties are given (YtgpmoonnachoaaaGreatDoorTie.lean); close each card by the builder's one call (the guide's Derived/Test/ToyasCard.lean, 'card_holds'). Laid BY PROGRAM, IN A SANDBOX (cutbox-door.mjs). By AI agents, Wed Nov 11 2026. No macro, syntax, notation, axiom, sorry.
-/
import Derived.Test.YtgpmoonnachoaaaGreatDoorRows
import GoSem.ClaimSeven
namespace Go.Proofs.YtgpmoonnachoaaaGreatDoor
namespace Rows

/-- THE TIED CARD OF 'wherrylaw20.ArchiveMoves'. -/
def archiveMovesCard : Claim7 := { stood := { row := archiveMovesRow, standIns := [], harness := (true, "9f6c59692a912a5301cc127b42902d885d0ab3a7d7e54ece334a5a8a1ed8aaf8"), looks := true }, kinds := [], alts := [], laidByText := true, laidKinds := [.data, .data, .data, .sentinel, .sentinel], laidTests := true, laidLooks := .later }
def ArchiveMovesCardSaid : Prop := Claim7.holds Tryz.pinned (.plain (OpenSpec.ofChange archiveMovesSpec)) archiveMovesCard

/-- THE TIED CARD OF 'wherrylaw20.ArchiveRefuses'. -/
def archiveRefusesCard : Claim7 := { stood := { row := archiveRefusesRow, standIns := [], harness := (true, "9f6c59692a912a5301cc127b42902d885d0ab3a7d7e54ece334a5a8a1ed8aaf8"), looks := true }, kinds := [], alts := [], laidByText := true, laidKinds := [.data, .data, .data, .sentinel, .sentinel], laidTests := true, laidLooks := .later }
def ArchiveRefusesCardSaid : Prop := Claim7.holds Tryz.pinned (.plain (OpenSpec.ofChange archiveRefusesSpec)) archiveRefusesCard

/-- THE TIED CARD OF 'wherrylaw21.QueueFirst'. -/
def queueFirstCard : Claim7 := { stood := { row := queueFirstRow, standIns := [], harness := (true, "9f6c59692a912a5301cc127b42902d885d0ab3a7d7e54ece334a5a8a1ed8aaf8"), looks := true }, kinds := [], alts := [], laidByText := true, laidKinds := [.data, .data, .data, .sentinel, .sentinel], laidTests := true, laidLooks := .later }
def QueueFirstCardSaid : Prop := Claim7.holds Tryz.pinned (.plain (OpenSpec.ofChange queueFirstSpec)) queueFirstCard

/-- THE TIED CARD OF 'wherrylaw21.QueueShards'. -/
def queueShardsCard : Claim7 := { stood := { row := queueShardsRow, standIns := [], harness := (true, "9f6c59692a912a5301cc127b42902d885d0ab3a7d7e54ece334a5a8a1ed8aaf8"), looks := true }, kinds := [], alts := [], laidByText := true, laidKinds := [.data, .data, .data, .sentinel, .sentinel], laidTests := true, laidLooks := .later }
def QueueShardsCardSaid : Prop := Claim7.holds Tryz.pinned (.plain (OpenSpec.ofChange queueShardsSpec)) queueShardsCard

/-- THE TIED CARD OF 'wherrylaw20.ArchiveCrashes'. -/
def archiveCrashesCard : Claim7 := { stood := { row := archiveCrashesRow, standIns := [], harness := (true, "9f6c59692a912a5301cc127b42902d885d0ab3a7d7e54ece334a5a8a1ed8aaf8"), looks := true }, kinds := [], alts := [], laidByText := true, laidKinds := [.data, .data, .data, .sentinel, .sentinel], laidTests := true, laidLooks := .later }
def ArchiveCrashesCardSaid : Prop := Claim7.holds Tryz.pinned (.plain (OpenSpec.ofChange archiveCrashesSpec)) archiveCrashesCard

/-- THE TIED CARD OF 'wherrylaw21.QueueRefuses'. -/
def queueRefusesCard : Claim7 := { stood := { row := queueRefusesRow, standIns := [], harness := (true, "9f6c59692a912a5301cc127b42902d885d0ab3a7d7e54ece334a5a8a1ed8aaf8"), looks := true }, kinds := [], alts := [], laidByText := true, laidKinds := [.data, .data, .data, .sentinel, .sentinel], laidTests := true, laidLooks := .later }
def QueueRefusesCardSaid : Prop := Claim7.holds Tryz.pinned (.plain (OpenSpec.ofChange queueRefusesSpec)) queueRefusesCard

/-- THE SECOND FORM's CARD OF 'wherrylaw20.ArchiveMoves'. -/
def archiveMovesUptoCard : Claim7 := { stood := { row := archiveMovesUptoRow, standIns := [], harness := (true, "9f6c59692a912a5301cc127b42902d885d0ab3a7d7e54ece334a5a8a1ed8aaf8"), looks := true }, kinds := [], alts := [], laidByText := true, laidKinds := [.data, .data, .data, .sentinel, .sentinel], laidTests := true, laidLooks := .later }
def ArchiveMovesUptoCardSaid : Prop := Claim7.holds Tryz.pinned (.plain (OpenSpec.upto archiveMovesSpec)) archiveMovesUptoCard

/-- THE SECOND FORM's CARD OF 'wherrylaw20.ArchiveRefuses'. -/
def archiveRefusesUptoCard : Claim7 := { stood := { row := archiveRefusesUptoRow, standIns := [], harness := (true, "9f6c59692a912a5301cc127b42902d885d0ab3a7d7e54ece334a5a8a1ed8aaf8"), looks := true }, kinds := [], alts := [], laidByText := true, laidKinds := [.data, .data, .data, .sentinel, .sentinel], laidTests := true, laidLooks := .later }
def ArchiveRefusesUptoCardSaid : Prop := Claim7.holds Tryz.pinned (.plain (OpenSpec.upto archiveRefusesSpec)) archiveRefusesUptoCard

/-- THE SECOND FORM's CARD OF 'wherrylaw21.QueueFirst'. -/
def queueFirstUptoCard : Claim7 := { stood := { row := queueFirstUptoRow, standIns := [], harness := (true, "9f6c59692a912a5301cc127b42902d885d0ab3a7d7e54ece334a5a8a1ed8aaf8"), looks := true }, kinds := [], alts := [], laidByText := true, laidKinds := [.data, .data, .data, .sentinel, .sentinel], laidTests := true, laidLooks := .later }
def QueueFirstUptoCardSaid : Prop := Claim7.holds Tryz.pinned (.plain (OpenSpec.upto queueFirstSpec)) queueFirstUptoCard

/-- THE SECOND FORM's CARD OF 'wherrylaw21.QueueShards'. -/
def queueShardsUptoCard : Claim7 := { stood := { row := queueShardsUptoRow, standIns := [], harness := (true, "9f6c59692a912a5301cc127b42902d885d0ab3a7d7e54ece334a5a8a1ed8aaf8"), looks := true }, kinds := [], alts := [], laidByText := true, laidKinds := [.data, .data, .data, .sentinel, .sentinel], laidTests := true, laidLooks := .later }
def QueueShardsUptoCardSaid : Prop := Claim7.holds Tryz.pinned (.plain (OpenSpec.upto queueShardsSpec)) queueShardsUptoCard

/-- THE SECOND FORM's CARD OF 'wherrylaw20.ArchiveCrashes'. -/
def archiveCrashesUptoCard : Claim7 := { stood := { row := archiveCrashesUptoRow, standIns := [], harness := (true, "9f6c59692a912a5301cc127b42902d885d0ab3a7d7e54ece334a5a8a1ed8aaf8"), looks := true }, kinds := [], alts := [], laidByText := true, laidKinds := [.data, .data, .data, .sentinel, .sentinel], laidTests := true, laidLooks := .later }
def ArchiveCrashesUptoCardSaid : Prop := Claim7.holds Tryz.pinned (.plain (OpenSpec.upto archiveCrashesSpec)) archiveCrashesUptoCard

/-- THE SECOND FORM's CARD OF 'wherrylaw21.QueueRefuses'. -/
def queueRefusesUptoCard : Claim7 := { stood := { row := queueRefusesUptoRow, standIns := [], harness := (true, "9f6c59692a912a5301cc127b42902d885d0ab3a7d7e54ece334a5a8a1ed8aaf8"), looks := true }, kinds := [], alts := [], laidByText := true, laidKinds := [.data, .data, .data, .sentinel, .sentinel], laidTests := true, laidLooks := .later }
def QueueRefusesUptoCardSaid : Prop := Claim7.holds Tryz.pinned (.plain (OpenSpec.upto queueRefusesSpec)) queueRefusesUptoCard
end Rows
end Go.Proofs.YtgpmoonnachoaaaGreatDoor
