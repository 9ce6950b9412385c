/-
  DERIVED. GIVEN WITH THE SEED: THE CARDS: each row of YtdmlhpjdmgaggaaGreatDoorRows.lean that lists a variable, with what it lists TIED to the program's text (the seventh form; the later family's looks); each row that meets fmt, with fmt's text TOLD by the authors' own Lean function (tested against real Go, not proved from fmt's source: count such statements apart). THE CARD IS WHAT COUNTS. Prove the row's statement (the work); the ties are given (YtdmlhpjdmgaggaaGreatDoorTie.lean); close each card by the builder's one call (the guide's Derived/Test/ToyasCard.lean, 'card_holds'). Laid BY PROGRAM, IN A SANDBOX (cutbox-door.mjs). By AI agents, Wed Nov 11 2026. No macro, syntax, notation, axiom, sorry.
-/
import Derived.Test.YtdmlhpjdmgaggaaGreatDoorRows
import GoSem.ClaimSeven
namespace Go.Proofs.YtdmlhpjdmgaggaaGreatDoor
namespace Rows

/-- THE TIED CARD OF 'wherrylaw10.CasWinner'. -/
def casWinnerCard : Claim7 := { stood := { row := casWinnerRow, standIns := [], harness := (true, "c2702b960ad5a541a79bb980744870d923d92329ef195e1aa5c6217b2b036aa6"), looks := true }, kinds := [], alts := [], laidByText := true, laidKinds := [.data, .data, .data, .sentinel, .sentinel], laidTests := true, laidLooks := .later }
def CasWinnerCardSaid : Prop := Claim7.holds Tryz.pinned (.plain (OpenSpec.ofChange casWinnerSpec)) casWinnerCard

/-- THE TIED CARD OF 'wherrylaw10.CasRefused'. -/
def casRefusedCard : Claim7 := { stood := { row := casRefusedRow, standIns := [], harness := (true, "c2702b960ad5a541a79bb980744870d923d92329ef195e1aa5c6217b2b036aa6"), looks := true }, kinds := [], alts := [], laidByText := true, laidKinds := [.data, .data, .data, .sentinel, .sentinel], laidTests := true, laidLooks := .later }
def CasRefusedCardSaid : Prop := Claim7.holds Tryz.pinned (.plain (OpenSpec.ofChange casRefusedSpec)) casRefusedCard

/-- THE TIED CARD OF 'wherrylaw10.CasScans'. -/
def casScansCard : Claim7 := { stood := { row := casScansRow, standIns := [], harness := (true, "c2702b960ad5a541a79bb980744870d923d92329ef195e1aa5c6217b2b036aa6"), looks := true }, kinds := [], alts := [], laidByText := true, laidKinds := [.data, .data, .data, .sentinel, .sentinel], laidTests := true, laidLooks := .later }
def CasScansCardSaid : Prop := Claim7.holds Tryz.pinned (.plain (OpenSpec.ofChange casScansSpec)) casScansCard

/-- THE TIED CARD OF 'wherrylaw10.CasCounts'. -/
def casCountsCard : Claim7 := { stood := { row := casCountsRow, standIns := [], harness := (true, "c2702b960ad5a541a79bb980744870d923d92329ef195e1aa5c6217b2b036aa6"), looks := true }, kinds := [], alts := [], laidByText := true, laidKinds := [.data, .data, .data, .sentinel, .sentinel], laidTests := true, laidLooks := .later }
def CasCountsCardSaid : Prop := Claim7.holds Tryz.pinned (.plain (OpenSpec.ofChange casCountsSpec)) casCountsCard

/-- THE TIED CARD OF 'wherrylaw10.CasCrashes'. -/
def casCrashesCard : Claim7 := { stood := { row := casCrashesRow, standIns := [], harness := (true, "c2702b960ad5a541a79bb980744870d923d92329ef195e1aa5c6217b2b036aa6"), looks := true }, kinds := [], alts := [], laidByText := true, laidKinds := [.data, .data, .data, .sentinel, .sentinel], laidTests := true, laidLooks := .later }
def CasCrashesCardSaid : Prop := Claim7.holds Tryz.pinned (.plain (OpenSpec.ofChange casCrashesSpec)) casCrashesCard

/-- THE TIED CARD OF 'wherrylaw10.CasRuns'. -/
def casRunsCard : Claim7 := { stood := { row := casRunsRow, standIns := [], harness := (true, "c2702b960ad5a541a79bb980744870d923d92329ef195e1aa5c6217b2b036aa6"), looks := true }, kinds := [], alts := [], laidByText := true, laidKinds := [.data, .data, .data, .sentinel, .sentinel], laidTests := true, laidLooks := .later }
def CasRunsCardSaid : Prop := Claim7.holds Tryz.pinned (.plain (OpenSpec.ofChange casRunsSpec)) casRunsCard

/-- THE TIED CARD OF 'wherrylaw18.LeaseFences'. -/
def leaseFencesCard : Claim7 := { stood := { row := leaseFencesRow, standIns := [], harness := (true, "c2702b960ad5a541a79bb980744870d923d92329ef195e1aa5c6217b2b036aa6"), looks := true }, kinds := [], alts := [], laidByText := true, laidKinds := [.data, .data, .data, .sentinel, .sentinel], laidTests := true, laidLooks := .later }
def LeaseFencesCardSaid : Prop := Claim7.holds Tryz.pinned (.plain (OpenSpec.ofChange leaseFencesSpec)) leaseFencesCard

/-- THE TIED CARD OF 'wherrylaw18.LeaseReleases'. -/
def leaseReleasesCard : Claim7 := { stood := { row := leaseReleasesRow, standIns := [], harness := (true, "c2702b960ad5a541a79bb980744870d923d92329ef195e1aa5c6217b2b036aa6"), looks := true }, kinds := [], alts := [], laidByText := true, laidKinds := [.data, .data, .data, .sentinel, .sentinel], laidTests := true, laidLooks := .later }
def LeaseReleasesCardSaid : Prop := Claim7.holds Tryz.pinned (.plain (OpenSpec.ofChange leaseReleasesSpec)) leaseReleasesCard

/-- THE TIED CARD OF 'wherrylaw18.LeaseNumbers'. -/
def leaseNumbersCard : Claim7 := { stood := { row := leaseNumbersRow, standIns := [], harness := (true, "c2702b960ad5a541a79bb980744870d923d92329ef195e1aa5c6217b2b036aa6"), looks := true }, kinds := [], alts := [], laidByText := true, laidKinds := [.data, .data, .data, .sentinel, .sentinel], laidTests := true, laidLooks := .later }
def LeaseNumbersCardSaid : Prop := Claim7.holds Tryz.pinned (.plain (OpenSpec.ofChange leaseNumbersSpec)) leaseNumbersCard

/-- THE SECOND FORM's CARD OF 'wherrylaw10.CasWinner'. -/
def casWinnerUptoCard : Claim7 := { stood := { row := casWinnerUptoRow, standIns := [], harness := (true, "c2702b960ad5a541a79bb980744870d923d92329ef195e1aa5c6217b2b036aa6"), looks := true }, kinds := [], alts := [], laidByText := true, laidKinds := [.data, .data, .data, .sentinel, .sentinel], laidTests := true, laidLooks := .later }
def CasWinnerUptoCardSaid : Prop := Claim7.holds Tryz.pinned (.plain (OpenSpec.upto casWinnerSpec)) casWinnerUptoCard

/-- THE SECOND FORM's CARD OF 'wherrylaw10.CasRefused'. -/
def casRefusedUptoCard : Claim7 := { stood := { row := casRefusedUptoRow, standIns := [], harness := (true, "c2702b960ad5a541a79bb980744870d923d92329ef195e1aa5c6217b2b036aa6"), looks := true }, kinds := [], alts := [], laidByText := true, laidKinds := [.data, .data, .data, .sentinel, .sentinel], laidTests := true, laidLooks := .later }
def CasRefusedUptoCardSaid : Prop := Claim7.holds Tryz.pinned (.plain (OpenSpec.upto casRefusedSpec)) casRefusedUptoCard

/-- THE SECOND FORM's CARD OF 'wherrylaw10.CasScans'. -/
def casScansUptoCard : Claim7 := { stood := { row := casScansUptoRow, standIns := [], harness := (true, "c2702b960ad5a541a79bb980744870d923d92329ef195e1aa5c6217b2b036aa6"), looks := true }, kinds := [], alts := [], laidByText := true, laidKinds := [.data, .data, .data, .sentinel, .sentinel], laidTests := true, laidLooks := .later }
def CasScansUptoCardSaid : Prop := Claim7.holds Tryz.pinned (.plain (OpenSpec.upto casScansSpec)) casScansUptoCard

/-- THE SECOND FORM's CARD OF 'wherrylaw10.CasCounts'. -/
def casCountsUptoCard : Claim7 := { stood := { row := casCountsUptoRow, standIns := [], harness := (true, "c2702b960ad5a541a79bb980744870d923d92329ef195e1aa5c6217b2b036aa6"), looks := true }, kinds := [], alts := [], laidByText := true, laidKinds := [.data, .data, .data, .sentinel, .sentinel], laidTests := true, laidLooks := .later }
def CasCountsUptoCardSaid : Prop := Claim7.holds Tryz.pinned (.plain (OpenSpec.upto casCountsSpec)) casCountsUptoCard

/-- THE SECOND FORM's CARD OF 'wherrylaw10.CasCrashes'. -/
def casCrashesUptoCard : Claim7 := { stood := { row := casCrashesUptoRow, standIns := [], harness := (true, "c2702b960ad5a541a79bb980744870d923d92329ef195e1aa5c6217b2b036aa6"), looks := true }, kinds := [], alts := [], laidByText := true, laidKinds := [.data, .data, .data, .sentinel, .sentinel], laidTests := true, laidLooks := .later }
def CasCrashesUptoCardSaid : Prop := Claim7.holds Tryz.pinned (.plain (OpenSpec.upto casCrashesSpec)) casCrashesUptoCard

/-- THE SECOND FORM's CARD OF 'wherrylaw10.CasRuns'. -/
def casRunsUptoCard : Claim7 := { stood := { row := casRunsUptoRow, standIns := [], harness := (true, "c2702b960ad5a541a79bb980744870d923d92329ef195e1aa5c6217b2b036aa6"), looks := true }, kinds := [], alts := [], laidByText := true, laidKinds := [.data, .data, .data, .sentinel, .sentinel], laidTests := true, laidLooks := .later }
def CasRunsUptoCardSaid : Prop := Claim7.holds Tryz.pinned (.plain (OpenSpec.upto casRunsSpec)) casRunsUptoCard

/-- THE SECOND FORM's CARD OF 'wherrylaw18.LeaseFences'. -/
def leaseFencesUptoCard : Claim7 := { stood := { row := leaseFencesUptoRow, standIns := [], harness := (true, "c2702b960ad5a541a79bb980744870d923d92329ef195e1aa5c6217b2b036aa6"), looks := true }, kinds := [], alts := [], laidByText := true, laidKinds := [.data, .data, .data, .sentinel, .sentinel], laidTests := true, laidLooks := .later }
def LeaseFencesUptoCardSaid : Prop := Claim7.holds Tryz.pinned (.plain (OpenSpec.upto leaseFencesSpec)) leaseFencesUptoCard

/-- THE SECOND FORM's CARD OF 'wherrylaw18.LeaseReleases'. -/
def leaseReleasesUptoCard : Claim7 := { stood := { row := leaseReleasesUptoRow, standIns := [], harness := (true, "c2702b960ad5a541a79bb980744870d923d92329ef195e1aa5c6217b2b036aa6"), looks := true }, kinds := [], alts := [], laidByText := true, laidKinds := [.data, .data, .data, .sentinel, .sentinel], laidTests := true, laidLooks := .later }
def LeaseReleasesUptoCardSaid : Prop := Claim7.holds Tryz.pinned (.plain (OpenSpec.upto leaseReleasesSpec)) leaseReleasesUptoCard

/-- THE SECOND FORM's CARD OF 'wherrylaw18.LeaseNumbers'. -/
def leaseNumbersUptoCard : Claim7 := { stood := { row := leaseNumbersUptoRow, standIns := [], harness := (true, "c2702b960ad5a541a79bb980744870d923d92329ef195e1aa5c6217b2b036aa6"), looks := true }, kinds := [], alts := [], laidByText := true, laidKinds := [.data, .data, .data, .sentinel, .sentinel], laidTests := true, laidLooks := .later }
def LeaseNumbersUptoCardSaid : Prop := Claim7.holds Tryz.pinned (.plain (OpenSpec.upto leaseNumbersSpec)) leaseNumbersUptoCard
end Rows
end Go.Proofs.YtdmlhpjdmgaggaaGreatDoor
