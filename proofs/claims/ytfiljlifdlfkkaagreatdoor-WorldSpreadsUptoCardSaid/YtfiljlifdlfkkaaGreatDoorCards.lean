/-
  DERIVED. GIVEN WITH THE SEED: THE CARDS: each row of YtfiljlifdlfkkaaGreatDoorRows.lean that lists a variable, with what it lists TIED to the program's text (the seventh form; the later family's looks); each row that meets fmt, with fmt's text TOLD by the authors' own Lean function (tested against real Go, not proved from fmt's source: count such statements apart). THE CARD IS WHAT COUNTS. Prove the row's statement (the work); the ties are given (YtfiljlifdlfkkaaGreatDoorTie.lean); close each card by the builder's one call (the guide's Derived/Test/ToyasCard.lean, 'card_holds'). Laid BY PROGRAM, IN A SANDBOX (cutbox-door.mjs). By AI agents, Wed Nov 11 2026. No macro, syntax, notation, axiom, sorry.
-/
import Derived.Test.YtfiljlifdlfkkaaGreatDoorRows
import GoSem.ClaimSeven
namespace Go.Proofs.YtfiljlifdlfkkaaGreatDoor
namespace Rows

/-- THE TIED CARD OF 'wherrylaw24.WorldSpreads'. -/
def worldSpreadsCard : Claim7 := { stood := { row := worldSpreadsRow, standIns := [], harness := (true, "0410c1c69ab5f1a9082bc3bb65cc158488800dbf5e30d45bf4aee3af6259bc5f"), looks := true }, kinds := [], alts := [], laidByText := true, laidKinds := [.data, .data, .data, .sentinel, .sentinel], laidTests := true, laidLooks := .later }
def WorldSpreadsCardSaid : Prop := Claim7.holds Tryz.pinned (.plain (OpenSpec.ofChange worldSpreadsSpec)) worldSpreadsCard

/-- THE TIED CARD OF 'wherrylaw24.WorldNone'. -/
def worldNoneCard : Claim7 := { stood := { row := worldNoneRow, standIns := [], harness := (true, "0410c1c69ab5f1a9082bc3bb65cc158488800dbf5e30d45bf4aee3af6259bc5f"), looks := true }, kinds := [], alts := [], laidByText := true, laidKinds := [.data, .data, .data, .sentinel, .sentinel], laidTests := true, laidLooks := .later }
def WorldNoneCardSaid : Prop := Claim7.holds Tryz.pinned (.plain (OpenSpec.ofChange worldNoneSpec)) worldNoneCard

/-- THE SECOND FORM's CARD OF 'wherrylaw24.WorldSpreads'. -/
def worldSpreadsUptoCard : Claim7 := { stood := { row := worldSpreadsUptoRow, standIns := [], harness := (true, "0410c1c69ab5f1a9082bc3bb65cc158488800dbf5e30d45bf4aee3af6259bc5f"), looks := true }, kinds := [], alts := [], laidByText := true, laidKinds := [.data, .data, .data, .sentinel, .sentinel], laidTests := true, laidLooks := .later }
def WorldSpreadsUptoCardSaid : Prop := Claim7.holds Tryz.pinned (.plain (OpenSpec.upto worldSpreadsSpec)) worldSpreadsUptoCard

/-- THE SECOND FORM's CARD OF 'wherrylaw24.WorldNone'. -/
def worldNoneUptoCard : Claim7 := { stood := { row := worldNoneUptoRow, standIns := [], harness := (true, "0410c1c69ab5f1a9082bc3bb65cc158488800dbf5e30d45bf4aee3af6259bc5f"), looks := true }, kinds := [], alts := [], laidByText := true, laidKinds := [.data, .data, .data, .sentinel, .sentinel], laidTests := true, laidLooks := .later }
def WorldNoneUptoCardSaid : Prop := Claim7.holds Tryz.pinned (.plain (OpenSpec.upto worldNoneSpec)) worldNoneUptoCard
end Rows
end Go.Proofs.YtfiljlifdlfkkaaGreatDoor
