/-
  DERIVED. GIVEN WITH THE SEED: THE CARDS: each row of YteecdmkgblonnaaGreatDoorRows.lean that lists a variable, with what it lists TIED to the program's text (the seventh form; the later family's looks); each row that meets fmt, with fmt's text TOLD by the authors' own Lean function (tested against real Go, not proved from fmt's source: count such statements apart). THE CARD IS WHAT COUNTS. Prove the row's statement (the work); the ties are given (YteecdmkgblonnaaGreatDoorTie.lean); close each card by the builder's one call (the guide's Derived/Test/ToyasCard.lean, 'card_holds'). Laid BY PROGRAM, IN A SANDBOX (cutbox-door.mjs). By AI agents, Wed Nov 11 2026. No macro, syntax, notation, axiom, sorry.
-/
import Derived.Test.YteecdmkgblonnaaGreatDoorRows
import GoSem.ClaimSeven
namespace Go.Proofs.YteecdmkgblonnaaGreatDoor
namespace Rows

/-- THE TIED CARD OF 'wherrylaw09.LsmShapes'. -/
def lsmShapesCard : Claim7 := { stood := { row := lsmShapesRow, standIns := [], harness := (true, "ef237556f90f8dc2b48852f5f97d35fcadc0fedbc8cb94e3d7970a76719c45fd"), looks := true }, kinds := [], alts := [], laidByText := true, laidKinds := [.data, .data, .data, .sentinel, .sentinel], laidTests := true, laidLooks := .later }
def LsmShapesCardSaid : Prop := Claim7.holds Tryz.pinned (.plain (OpenSpec.ofChange lsmShapesSpec)) lsmShapesCard

/-- THE TIED CARD OF 'wherrylaw09.LsmBatches'. -/
def lsmBatchesCard : Claim7 := { stood := { row := lsmBatchesRow, standIns := [], harness := (true, "ef237556f90f8dc2b48852f5f97d35fcadc0fedbc8cb94e3d7970a76719c45fd"), looks := true }, kinds := [], alts := [], laidByText := true, laidKinds := [.data, .data, .data, .sentinel, .sentinel], laidTests := true, laidLooks := .later }
def LsmBatchesCardSaid : Prop := Claim7.holds Tryz.pinned (.plain (OpenSpec.ofChange lsmBatchesSpec)) lsmBatchesCard

/-- THE TIED CARD OF 'wherrylaw09.LsmScans'. -/
def lsmScansCard : Claim7 := { stood := { row := lsmScansRow, standIns := [], harness := (true, "ef237556f90f8dc2b48852f5f97d35fcadc0fedbc8cb94e3d7970a76719c45fd"), looks := true }, kinds := [], alts := [], laidByText := true, laidKinds := [.data, .data, .data, .sentinel, .sentinel], laidTests := true, laidLooks := .later }
def LsmScansCardSaid : Prop := Claim7.holds Tryz.pinned (.plain (OpenSpec.ofChange lsmScansSpec)) lsmScansCard

/-- THE TIED CARD OF 'wherrylaw09.LsmTables'. -/
def lsmTablesCard : Claim7 := { stood := { row := lsmTablesRow, standIns := [], harness := (true, "ef237556f90f8dc2b48852f5f97d35fcadc0fedbc8cb94e3d7970a76719c45fd"), looks := true }, kinds := [], alts := [], laidByText := true, laidKinds := [.data, .data, .data, .sentinel, .sentinel], laidTests := true, laidLooks := .later }
def LsmTablesCardSaid : Prop := Claim7.holds Tryz.pinned (.plain (OpenSpec.ofChange lsmTablesSpec)) lsmTablesCard

/-- THE TIED CARD OF 'wherrylaw09.LsmCrashes'. -/
def lsmCrashesCard : Claim7 := { stood := { row := lsmCrashesRow, standIns := [], harness := (true, "ef237556f90f8dc2b48852f5f97d35fcadc0fedbc8cb94e3d7970a76719c45fd"), looks := true }, kinds := [], alts := [], laidByText := true, laidKinds := [.data, .data, .data, .sentinel, .sentinel], laidTests := true, laidLooks := .later }
def LsmCrashesCardSaid : Prop := Claim7.holds Tryz.pinned (.plain (OpenSpec.ofChange lsmCrashesSpec)) lsmCrashesCard

/-- THE TIED CARD OF 'wherrylaw09.LsmRuns'. -/
def lsmRunsCard : Claim7 := { stood := { row := lsmRunsRow, standIns := [], harness := (true, "ef237556f90f8dc2b48852f5f97d35fcadc0fedbc8cb94e3d7970a76719c45fd"), looks := true }, kinds := [], alts := [], laidByText := true, laidKinds := [.data, .data, .data, .sentinel, .sentinel], laidTests := true, laidLooks := .later }
def LsmRunsCardSaid : Prop := Claim7.holds Tryz.pinned (.plain (OpenSpec.ofChange lsmRunsSpec)) lsmRunsCard

/-- THE TIED CARD OF 'wherrylaw09.LsmNone'. -/
def lsmNoneCard : Claim7 := { stood := { row := lsmNoneRow, standIns := [], harness := (true, "ef237556f90f8dc2b48852f5f97d35fcadc0fedbc8cb94e3d7970a76719c45fd"), looks := true }, kinds := [], alts := [], laidByText := true, laidKinds := [.data, .data, .data, .sentinel, .sentinel], laidTests := true, laidLooks := .later }
def LsmNoneCardSaid : Prop := Claim7.holds Tryz.pinned (.plain (OpenSpec.ofChange lsmNoneSpec)) lsmNoneCard

/-- THE SECOND FORM's CARD OF 'wherrylaw09.LsmShapes'. -/
def lsmShapesUptoCard : Claim7 := { stood := { row := lsmShapesUptoRow, standIns := [], harness := (true, "ef237556f90f8dc2b48852f5f97d35fcadc0fedbc8cb94e3d7970a76719c45fd"), looks := true }, kinds := [], alts := [], laidByText := true, laidKinds := [.data, .data, .data, .sentinel, .sentinel], laidTests := true, laidLooks := .later }
def LsmShapesUptoCardSaid : Prop := Claim7.holds Tryz.pinned (.plain (OpenSpec.upto lsmShapesSpec)) lsmShapesUptoCard

/-- THE SECOND FORM's CARD OF 'wherrylaw09.LsmBatches'. -/
def lsmBatchesUptoCard : Claim7 := { stood := { row := lsmBatchesUptoRow, standIns := [], harness := (true, "ef237556f90f8dc2b48852f5f97d35fcadc0fedbc8cb94e3d7970a76719c45fd"), looks := true }, kinds := [], alts := [], laidByText := true, laidKinds := [.data, .data, .data, .sentinel, .sentinel], laidTests := true, laidLooks := .later }
def LsmBatchesUptoCardSaid : Prop := Claim7.holds Tryz.pinned (.plain (OpenSpec.upto lsmBatchesSpec)) lsmBatchesUptoCard

/-- THE SECOND FORM's CARD OF 'wherrylaw09.LsmScans'. -/
def lsmScansUptoCard : Claim7 := { stood := { row := lsmScansUptoRow, standIns := [], harness := (true, "ef237556f90f8dc2b48852f5f97d35fcadc0fedbc8cb94e3d7970a76719c45fd"), looks := true }, kinds := [], alts := [], laidByText := true, laidKinds := [.data, .data, .data, .sentinel, .sentinel], laidTests := true, laidLooks := .later }
def LsmScansUptoCardSaid : Prop := Claim7.holds Tryz.pinned (.plain (OpenSpec.upto lsmScansSpec)) lsmScansUptoCard

/-- THE SECOND FORM's CARD OF 'wherrylaw09.LsmTables'. -/
def lsmTablesUptoCard : Claim7 := { stood := { row := lsmTablesUptoRow, standIns := [], harness := (true, "ef237556f90f8dc2b48852f5f97d35fcadc0fedbc8cb94e3d7970a76719c45fd"), looks := true }, kinds := [], alts := [], laidByText := true, laidKinds := [.data, .data, .data, .sentinel, .sentinel], laidTests := true, laidLooks := .later }
def LsmTablesUptoCardSaid : Prop := Claim7.holds Tryz.pinned (.plain (OpenSpec.upto lsmTablesSpec)) lsmTablesUptoCard

/-- THE SECOND FORM's CARD OF 'wherrylaw09.LsmCrashes'. -/
def lsmCrashesUptoCard : Claim7 := { stood := { row := lsmCrashesUptoRow, standIns := [], harness := (true, "ef237556f90f8dc2b48852f5f97d35fcadc0fedbc8cb94e3d7970a76719c45fd"), looks := true }, kinds := [], alts := [], laidByText := true, laidKinds := [.data, .data, .data, .sentinel, .sentinel], laidTests := true, laidLooks := .later }
def LsmCrashesUptoCardSaid : Prop := Claim7.holds Tryz.pinned (.plain (OpenSpec.upto lsmCrashesSpec)) lsmCrashesUptoCard

/-- THE SECOND FORM's CARD OF 'wherrylaw09.LsmRuns'. -/
def lsmRunsUptoCard : Claim7 := { stood := { row := lsmRunsUptoRow, standIns := [], harness := (true, "ef237556f90f8dc2b48852f5f97d35fcadc0fedbc8cb94e3d7970a76719c45fd"), looks := true }, kinds := [], alts := [], laidByText := true, laidKinds := [.data, .data, .data, .sentinel, .sentinel], laidTests := true, laidLooks := .later }
def LsmRunsUptoCardSaid : Prop := Claim7.holds Tryz.pinned (.plain (OpenSpec.upto lsmRunsSpec)) lsmRunsUptoCard

/-- THE SECOND FORM's CARD OF 'wherrylaw09.LsmNone'. -/
def lsmNoneUptoCard : Claim7 := { stood := { row := lsmNoneUptoRow, standIns := [], harness := (true, "ef237556f90f8dc2b48852f5f97d35fcadc0fedbc8cb94e3d7970a76719c45fd"), looks := true }, kinds := [], alts := [], laidByText := true, laidKinds := [.data, .data, .data, .sentinel, .sentinel], laidTests := true, laidLooks := .later }
def LsmNoneUptoCardSaid : Prop := Claim7.holds Tryz.pinned (.plain (OpenSpec.upto lsmNoneSpec)) lsmNoneUptoCard
end Rows
end Go.Proofs.YteecdmkgblonnaaGreatDoor
