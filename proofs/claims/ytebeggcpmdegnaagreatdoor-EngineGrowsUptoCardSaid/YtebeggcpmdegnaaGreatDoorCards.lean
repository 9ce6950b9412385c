/-
  DERIVED. GIVEN WITH THE SEED: THE CARDS: each row of YtebeggcpmdegnaaGreatDoorRows.lean that lists a variable, with what it lists TIED to the program's text (the seventh form; the later family's looks); each row that meets fmt, with fmt's text TOLD by the authors' own Lean function (tested against real Go, not proved from fmt's source: count such statements apart). THE CARD IS WHAT COUNTS. Prove the row's statement (the work); the ties are given (YtebeggcpmdegnaaGreatDoorTie.lean); close each card by the builder's one call (the guide's Derived/Test/ToyasCard.lean, 'card_holds'). Laid BY PROGRAM, IN A SANDBOX (cutbox-door.mjs). By AI agents, Wed Nov 11 2026. No macro, syntax, notation, axiom, sorry.
-/
import Derived.Test.YtebeggcpmdegnaaGreatDoorRows
import GoSem.ClaimSeven
namespace Go.Proofs.YtebeggcpmdegnaaGreatDoor
namespace Rows

/-- THE TIED CARD OF 'wherrylaw19.EngineRuns'. -/
def engineRunsCard : Claim7 := { stood := { row := engineRunsRow, standIns := [], harness := (true, "afbe726dd67a770dc31fd7a745dba06988b95f6ca1958192bd6e8a5f0c96bcea"), looks := true }, kinds := [], alts := [], laidByText := true, laidKinds := [.data, .data, .data, .sentinel, .sentinel], laidTests := true, laidLooks := .later }
def EngineRunsCardSaid : Prop := Claim7.holds Tryz.pinned (.plain (OpenSpec.ofChange engineRunsSpec)) engineRunsCard

/-- THE TIED CARD OF 'wherrylaw19.EngineFences'. -/
def engineFencesCard : Claim7 := { stood := { row := engineFencesRow, standIns := [], harness := (true, "afbe726dd67a770dc31fd7a745dba06988b95f6ca1958192bd6e8a5f0c96bcea"), looks := true }, kinds := [], alts := [], laidByText := true, laidKinds := [.data, .data, .data, .sentinel, .sentinel], laidTests := true, laidLooks := .later }
def EngineFencesCardSaid : Prop := Claim7.holds Tryz.pinned (.plain (OpenSpec.ofChange engineFencesSpec)) engineFencesCard

/-- THE TIED CARD OF 'wherrylaw19.EnginePages'. -/
def enginePagesCard : Claim7 := { stood := { row := enginePagesRow, standIns := [], harness := (true, "afbe726dd67a770dc31fd7a745dba06988b95f6ca1958192bd6e8a5f0c96bcea"), looks := true }, kinds := [], alts := [], laidByText := true, laidKinds := [.data, .data, .data, .sentinel, .sentinel], laidTests := true, laidLooks := .later }
def EnginePagesCardSaid : Prop := Claim7.holds Tryz.pinned (.plain (OpenSpec.ofChange enginePagesSpec)) enginePagesCard

/-- THE TIED CARD OF 'wherrylaw19.EngineApart'. -/
def engineApartCard : Claim7 := { stood := { row := engineApartRow, standIns := [], harness := (true, "afbe726dd67a770dc31fd7a745dba06988b95f6ca1958192bd6e8a5f0c96bcea"), looks := true }, kinds := [], alts := [], laidByText := true, laidKinds := [.data, .data, .data, .sentinel, .sentinel], laidTests := true, laidLooks := .later }
def EngineApartCardSaid : Prop := Claim7.holds Tryz.pinned (.plain (OpenSpec.ofChange engineApartSpec)) engineApartCard

/-- THE TIED CARD OF 'wherrylaw19.EngineRefuses'. -/
def engineRefusesCard : Claim7 := { stood := { row := engineRefusesRow, standIns := [], harness := (true, "afbe726dd67a770dc31fd7a745dba06988b95f6ca1958192bd6e8a5f0c96bcea"), looks := true }, kinds := [], alts := [], laidByText := true, laidKinds := [.data, .data, .data, .sentinel, .sentinel], laidTests := true, laidLooks := .later }
def EngineRefusesCardSaid : Prop := Claim7.holds Tryz.pinned (.plain (OpenSpec.ofChange engineRefusesSpec)) engineRefusesCard

/-- THE TIED CARD OF 'wherrylaw19.EngineGrows'. -/
def engineGrowsCard : Claim7 := { stood := { row := engineGrowsRow, standIns := [], harness := (true, "afbe726dd67a770dc31fd7a745dba06988b95f6ca1958192bd6e8a5f0c96bcea"), looks := true }, kinds := [], alts := [], laidByText := true, laidKinds := [.data, .data, .data, .sentinel, .sentinel], laidTests := true, laidLooks := .later }
def EngineGrowsCardSaid : Prop := Claim7.holds Tryz.pinned (.plain (OpenSpec.ofChange engineGrowsSpec)) engineGrowsCard

/-- THE SECOND FORM's CARD OF 'wherrylaw19.EngineRuns'. -/
def engineRunsUptoCard : Claim7 := { stood := { row := engineRunsUptoRow, standIns := [], harness := (true, "afbe726dd67a770dc31fd7a745dba06988b95f6ca1958192bd6e8a5f0c96bcea"), looks := true }, kinds := [], alts := [], laidByText := true, laidKinds := [.data, .data, .data, .sentinel, .sentinel], laidTests := true, laidLooks := .later }
def EngineRunsUptoCardSaid : Prop := Claim7.holds Tryz.pinned (.plain (OpenSpec.upto engineRunsSpec)) engineRunsUptoCard

/-- THE SECOND FORM's CARD OF 'wherrylaw19.EngineFences'. -/
def engineFencesUptoCard : Claim7 := { stood := { row := engineFencesUptoRow, standIns := [], harness := (true, "afbe726dd67a770dc31fd7a745dba06988b95f6ca1958192bd6e8a5f0c96bcea"), looks := true }, kinds := [], alts := [], laidByText := true, laidKinds := [.data, .data, .data, .sentinel, .sentinel], laidTests := true, laidLooks := .later }
def EngineFencesUptoCardSaid : Prop := Claim7.holds Tryz.pinned (.plain (OpenSpec.upto engineFencesSpec)) engineFencesUptoCard

/-- THE SECOND FORM's CARD OF 'wherrylaw19.EnginePages'. -/
def enginePagesUptoCard : Claim7 := { stood := { row := enginePagesUptoRow, standIns := [], harness := (true, "afbe726dd67a770dc31fd7a745dba06988b95f6ca1958192bd6e8a5f0c96bcea"), looks := true }, kinds := [], alts := [], laidByText := true, laidKinds := [.data, .data, .data, .sentinel, .sentinel], laidTests := true, laidLooks := .later }
def EnginePagesUptoCardSaid : Prop := Claim7.holds Tryz.pinned (.plain (OpenSpec.upto enginePagesSpec)) enginePagesUptoCard

/-- THE SECOND FORM's CARD OF 'wherrylaw19.EngineApart'. -/
def engineApartUptoCard : Claim7 := { stood := { row := engineApartUptoRow, standIns := [], harness := (true, "afbe726dd67a770dc31fd7a745dba06988b95f6ca1958192bd6e8a5f0c96bcea"), looks := true }, kinds := [], alts := [], laidByText := true, laidKinds := [.data, .data, .data, .sentinel, .sentinel], laidTests := true, laidLooks := .later }
def EngineApartUptoCardSaid : Prop := Claim7.holds Tryz.pinned (.plain (OpenSpec.upto engineApartSpec)) engineApartUptoCard

/-- THE SECOND FORM's CARD OF 'wherrylaw19.EngineRefuses'. -/
def engineRefusesUptoCard : Claim7 := { stood := { row := engineRefusesUptoRow, standIns := [], harness := (true, "afbe726dd67a770dc31fd7a745dba06988b95f6ca1958192bd6e8a5f0c96bcea"), looks := true }, kinds := [], alts := [], laidByText := true, laidKinds := [.data, .data, .data, .sentinel, .sentinel], laidTests := true, laidLooks := .later }
def EngineRefusesUptoCardSaid : Prop := Claim7.holds Tryz.pinned (.plain (OpenSpec.upto engineRefusesSpec)) engineRefusesUptoCard

/-- THE SECOND FORM's CARD OF 'wherrylaw19.EngineGrows'. -/
def engineGrowsUptoCard : Claim7 := { stood := { row := engineGrowsUptoRow, standIns := [], harness := (true, "afbe726dd67a770dc31fd7a745dba06988b95f6ca1958192bd6e8a5f0c96bcea"), looks := true }, kinds := [], alts := [], laidByText := true, laidKinds := [.data, .data, .data, .sentinel, .sentinel], laidTests := true, laidLooks := .later }
def EngineGrowsUptoCardSaid : Prop := Claim7.holds Tryz.pinned (.plain (OpenSpec.upto engineGrowsSpec)) engineGrowsUptoCard
end Rows
end Go.Proofs.YtebeggcpmdegnaaGreatDoor
