/-
  DERIVED. GIVEN WITH THE SEED: THE CARDS: each row of YtpgiajfbponigaaDoorRows.lean that lists a variable, with what it lists TIED to the program's text (the seventh form; the later family's looks); each row that meets fmt, with fmt's text TOLD by the authors' own Lean function (tested against real Go, not proved from fmt's source: count such statements apart). THE CARD IS WHAT COUNTS. Prove the row's statement (the work); the ties are given (YtpgiajfbponigaaDoorTie.lean); close each card by the builder's one call (the guide's Derived/Test/ToyasCard.lean, 'card_holds'). Laid BY PROGRAM, IN A SANDBOX (cutbox-door.mjs). By AI agents, Wed Nov 11 2026. No macro, syntax, notation, axiom, sorry.
-/
import Derived.Test.YtpgiajfbponigaaDoorRows
import GoSem.ClaimSeven
namespace Go.Proofs.YtpgiajfbponigaaDoor
namespace Rows

/-- THE TIED CARD OF 'wherrylaw11.RingFew'. -/
def ringFewCard : Claim7 := { stood := { row := ringFewRow, standIns := [], harness := (true, "72e673bc4e4d882ac65cb3b4ec127cf72a722773fde72ffef0ca1272ec76723b"), looks := false }, kinds := [], alts := [], laidByText := true, laidKinds := [.data, .data, .data], laidTests := true, laidLooks := .later }
def RingFewCardSaid : Prop := Claim7.holds Tryd.pinned (.plain (OpenSpec.ofChange ringFewSpec)) ringFewCard

/-- THE TIED CARD OF 'wherrylaw11.RingRound'. -/
def ringRoundCard : Claim7 := { stood := { row := ringRoundRow, standIns := [], harness := (true, "72e673bc4e4d882ac65cb3b4ec127cf72a722773fde72ffef0ca1272ec76723b"), looks := false }, kinds := [], alts := [], laidByText := true, laidKinds := [.data, .data, .data], laidTests := true, laidLooks := .later }
def RingRoundCardSaid : Prop := Claim7.holds Tryd.pinned (.plain (OpenSpec.ofChange ringRoundSpec)) ringRoundCard

/-- THE TIED CARD OF 'wherrylaw11.RingOrder'. -/
def ringOrderCard : Claim7 := { stood := { row := ringOrderRow, standIns := [], harness := (true, "72e673bc4e4d882ac65cb3b4ec127cf72a722773fde72ffef0ca1272ec76723b"), looks := false }, kinds := [], alts := [], laidByText := true, laidKinds := [.data, .data, .data], laidTests := true, laidLooks := .later }
def RingOrderCardSaid : Prop := Claim7.holds Tryd.pinned (.plain (OpenSpec.ofChange ringOrderSpec)) ringOrderCard

/-- THE TIED CARD OF 'wherrylaw11.RingOwners'. -/
def ringOwnersCard : Claim7 := { stood := { row := ringOwnersRow, standIns := [], harness := (true, "72e673bc4e4d882ac65cb3b4ec127cf72a722773fde72ffef0ca1272ec76723b"), looks := false }, kinds := [], alts := [], laidByText := true, laidKinds := [.data, .data, .data], laidTests := true, laidLooks := .later }
def RingOwnersCardSaid : Prop := Claim7.holds Tryd.pinned (.plain (OpenSpec.ofChange ringOwnersSpec)) ringOwnersCard

/-- THE SECOND FORM's CARD OF 'wherrylaw11.RingFew'. -/
def ringFewUptoCard : Claim7 := { stood := { row := ringFewUptoRow, standIns := [], harness := (true, "72e673bc4e4d882ac65cb3b4ec127cf72a722773fde72ffef0ca1272ec76723b"), looks := false }, kinds := [], alts := [], laidByText := true, laidKinds := [.data, .data, .data], laidTests := true, laidLooks := .later }
def RingFewUptoCardSaid : Prop := Claim7.holds Tryd.pinned (.plain (OpenSpec.upto ringFewSpec)) ringFewUptoCard

/-- THE SECOND FORM's CARD OF 'wherrylaw11.RingRound'. -/
def ringRoundUptoCard : Claim7 := { stood := { row := ringRoundUptoRow, standIns := [], harness := (true, "72e673bc4e4d882ac65cb3b4ec127cf72a722773fde72ffef0ca1272ec76723b"), looks := false }, kinds := [], alts := [], laidByText := true, laidKinds := [.data, .data, .data], laidTests := true, laidLooks := .later }
def RingRoundUptoCardSaid : Prop := Claim7.holds Tryd.pinned (.plain (OpenSpec.upto ringRoundSpec)) ringRoundUptoCard

/-- THE SECOND FORM's CARD OF 'wherrylaw11.RingOrder'. -/
def ringOrderUptoCard : Claim7 := { stood := { row := ringOrderUptoRow, standIns := [], harness := (true, "72e673bc4e4d882ac65cb3b4ec127cf72a722773fde72ffef0ca1272ec76723b"), looks := false }, kinds := [], alts := [], laidByText := true, laidKinds := [.data, .data, .data], laidTests := true, laidLooks := .later }
def RingOrderUptoCardSaid : Prop := Claim7.holds Tryd.pinned (.plain (OpenSpec.upto ringOrderSpec)) ringOrderUptoCard

/-- THE SECOND FORM's CARD OF 'wherrylaw11.RingOwners'. -/
def ringOwnersUptoCard : Claim7 := { stood := { row := ringOwnersUptoRow, standIns := [], harness := (true, "72e673bc4e4d882ac65cb3b4ec127cf72a722773fde72ffef0ca1272ec76723b"), looks := false }, kinds := [], alts := [], laidByText := true, laidKinds := [.data, .data, .data], laidTests := true, laidLooks := .later }
def RingOwnersUptoCardSaid : Prop := Claim7.holds Tryd.pinned (.plain (OpenSpec.upto ringOwnersSpec)) ringOwnersUptoCard
end Rows
end Go.Proofs.YtpgiajfbponigaaDoor
