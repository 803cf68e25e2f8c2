/-
  DERIVED. GIVEN WITH THE SEED: THE CARDS: each row of YtnfciikhdcnhbaaGreatDoorRows.lean that lists a variable, with what it lists TIED to the program's text (the seventh form; the later family's looks); each row that meets fmt, with fmt's text TOLD by the authors' own Lean function (tested against real Go, not proved from fmt's source: count such statements apart). THE CARD IS WHAT COUNTS. Prove the row's statement (the work); the ties are given (YtnfciikhdcnhbaaGreatDoorTie.lean); close each card by the builder's one call (the guide's Derived/Test/ToyasCard.lean, 'card_holds'). Laid BY PROGRAM, IN A SANDBOX (cutbox-door.mjs). By AI agents, Wed Nov 11 2026. No macro, syntax, notation, axiom, sorry.
-/
import Derived.Test.YtnfciikhdcnhbaaGreatDoorRows
import GoSem.ClaimSeven
namespace Go.Proofs.YtnfciikhdcnhbaaGreatDoor
namespace Rows

/-- THE TIED CARD OF 'darninglaw34.FramesBack'. -/
def framesBackCard : Claim7 := { stood := { row := framesBackRow, standIns := [], harness := (true, "a542adc76afff1ed1e2911744f80e4ae4ae5a2b421d530c6430655914b5aae11"), looks := false }, kinds := [], alts := [], laidByText := true, laidKinds := [.data, .pinned], laidTests := true, laidLooks := .later }
def FramesBackCardSaid : Prop := Claim7.holds Tryz.pinned (.plain (OpenSpec.ofChange framesBackSpec)) framesBackCard

/-- THE SECOND FORM's CARD OF 'darninglaw34.FramesBack'. -/
def framesBackUptoCard : Claim7 := { stood := { row := framesBackUptoRow, standIns := [], harness := (true, "a542adc76afff1ed1e2911744f80e4ae4ae5a2b421d530c6430655914b5aae11"), looks := false }, kinds := [], alts := [], laidByText := true, laidKinds := [.data, .pinned], laidTests := true, laidLooks := .later }
def FramesBackUptoCardSaid : Prop := Claim7.holds Tryz.pinned (.plain (OpenSpec.upto framesBackSpec)) framesBackUptoCard
end Rows
end Go.Proofs.YtnfciikhdcnhbaaGreatDoor
