/-
  DERIVED. GIVEN WITH THE SEED: THE CARDS: each row of YtecomiijolnjpaaGreatDoorRows.lean that lists a variable, with what it lists TIED to the program's text (the seventh form; the later family's looks); each row that meets fmt, with fmt's text TOLD by the authors' own Lean function (tested against real Go, not proved from fmt's source: count such statements apart). THE CARD IS WHAT COUNTS. Prove the row's statement (the work); the ties are given (YtecomiijolnjpaaGreatDoorTie.lean); close each card by the builder's one call (the guide's Derived/Test/ToyasCard.lean, 'card_holds'). Laid BY PROGRAM, IN A SANDBOX (cutbox-door.mjs). By AI agents, Wed Nov 11 2026. No macro, syntax, notation, axiom, sorry.
-/
import Derived.Test.YtecomiijolnjpaaGreatDoorRows
import GoSem.ClaimSeven
namespace Go.Proofs.YtecomiijolnjpaaGreatDoor
namespace Rows

/-- THE TIED CARD OF 'wherrylaw19.EngineOnce'. -/
def engineOnceCard : Claim7 := { stood := { row := engineOnceRow, standIns := [], harness := (true, "56b519acd4fd02beca0d39fa3b65cd81aa85116d9db8574d2b1324636023c95e"), looks := true }, kinds := [], alts := [], laidByText := true, laidKinds := [.data, .data, .data, .sentinel, .sentinel], laidTests := true, laidLooks := .later }
def EngineOnceCardSaid : Prop := Claim7.holds Tryz.pinned (.plain (OpenSpec.ofChange engineOnceSpec)) engineOnceCard

/-- THE TIED CARD OF 'wherrylaw19.EngineFull'. -/
def engineFullCard : Claim7 := { stood := { row := engineFullRow, standIns := [], harness := (true, "56b519acd4fd02beca0d39fa3b65cd81aa85116d9db8574d2b1324636023c95e"), looks := true }, kinds := [], alts := [], laidByText := true, laidKinds := [.data, .data, .data, .sentinel, .sentinel], laidTests := true, laidLooks := .later }
def EngineFullCardSaid : Prop := Claim7.holds Tryz.pinned (.plain (OpenSpec.ofChange engineFullSpec)) engineFullCard

/-- THE TIED CARD OF 'wherrylaw19.EngineChanges'. -/
def engineChangesCard : Claim7 := { stood := { row := engineChangesRow, standIns := [], harness := (true, "56b519acd4fd02beca0d39fa3b65cd81aa85116d9db8574d2b1324636023c95e"), looks := true }, kinds := [], alts := [], laidByText := true, laidKinds := [.data, .data, .data, .sentinel, .sentinel], laidTests := true, laidLooks := .later }
def EngineChangesCardSaid : Prop := Claim7.holds Tryz.pinned (.plain (OpenSpec.ofChange engineChangesSpec)) engineChangesCard

/-- THE SECOND FORM's CARD OF 'wherrylaw19.EngineOnce'. -/
def engineOnceUptoCard : Claim7 := { stood := { row := engineOnceUptoRow, standIns := [], harness := (true, "56b519acd4fd02beca0d39fa3b65cd81aa85116d9db8574d2b1324636023c95e"), looks := true }, kinds := [], alts := [], laidByText := true, laidKinds := [.data, .data, .data, .sentinel, .sentinel], laidTests := true, laidLooks := .later }
def EngineOnceUptoCardSaid : Prop := Claim7.holds Tryz.pinned (.plain (OpenSpec.upto engineOnceSpec)) engineOnceUptoCard

/-- THE SECOND FORM's CARD OF 'wherrylaw19.EngineFull'. -/
def engineFullUptoCard : Claim7 := { stood := { row := engineFullUptoRow, standIns := [], harness := (true, "56b519acd4fd02beca0d39fa3b65cd81aa85116d9db8574d2b1324636023c95e"), looks := true }, kinds := [], alts := [], laidByText := true, laidKinds := [.data, .data, .data, .sentinel, .sentinel], laidTests := true, laidLooks := .later }
def EngineFullUptoCardSaid : Prop := Claim7.holds Tryz.pinned (.plain (OpenSpec.upto engineFullSpec)) engineFullUptoCard

/-- THE SECOND FORM's CARD OF 'wherrylaw19.EngineChanges'. -/
def engineChangesUptoCard : Claim7 := { stood := { row := engineChangesUptoRow, standIns := [], harness := (true, "56b519acd4fd02beca0d39fa3b65cd81aa85116d9db8574d2b1324636023c95e"), looks := true }, kinds := [], alts := [], laidByText := true, laidKinds := [.data, .data, .data, .sentinel, .sentinel], laidTests := true, laidLooks := .later }
def EngineChangesUptoCardSaid : Prop := Claim7.holds Tryz.pinned (.plain (OpenSpec.upto engineChangesSpec)) engineChangesUptoCard
end Rows
end Go.Proofs.YtecomiijolnjpaaGreatDoor
