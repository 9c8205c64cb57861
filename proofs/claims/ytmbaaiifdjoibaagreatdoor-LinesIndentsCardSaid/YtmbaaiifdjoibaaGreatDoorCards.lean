/-
  DERIVED. GIVEN WITH THE SEED: THE CARDS: each row of YtmbaaiifdjoibaaGreatDoorRows.lean that lists a variable, with what it lists TIED to the program's text (the seventh form; the later family's looks); each row that meets fmt, with fmt's text TOLD by the authors' own Lean function (tested against real Go, not proved from fmt's source: count such statements apart). THE CARD IS WHAT COUNTS. Prove the row's statement (the work); the ties are given (YtmbaaiifdjoibaaGreatDoorTie.lean); close each card by the builder's one call (the guide's Derived/Test/ToyasCard.lean, 'card_holds'). Laid BY PROGRAM, IN A SANDBOX (cutbox-door.mjs). By AI agents, Wed Nov 11 2026. No macro, syntax, notation, axiom, sorry.
-/
import Derived.Test.YtmbaaiifdjoibaaGreatDoorRows
import GoSem.ClaimSeven
namespace Go.Proofs.YtmbaaiifdjoibaaGreatDoor
namespace Rows

/-- THE TIED CARD OF 'grillelaw05.LinesIndents'. -/
def linesIndentsCard : Claim7 := { stood := { row := linesIndentsRow, standIns := [], harness := (true, "7e913ee045fa2023acb8484496fdf7e33c456d1f5fe7fe5fcbed4199d5c96217"), looks := true }, kinds := [], alts := [], laidByText := true, laidKinds := [.data, .data, .data, .data, .sentinel, .sentinel, .pinned], laidTests := true, laidLooks := .later }
def LinesIndentsCardSaid : Prop := Claim7.holds Tryz.pinned (.plain (OpenSpec.ofChange linesIndentsSpec)) linesIndentsCard

/-- THE SECOND FORM's CARD OF 'grillelaw05.LinesIndents'. -/
def linesIndentsUptoCard : Claim7 := { stood := { row := linesIndentsUptoRow, standIns := [], harness := (true, "7e913ee045fa2023acb8484496fdf7e33c456d1f5fe7fe5fcbed4199d5c96217"), looks := true }, kinds := [], alts := [], laidByText := true, laidKinds := [.data, .data, .data, .data, .sentinel, .sentinel, .pinned], laidTests := true, laidLooks := .later }
def LinesIndentsUptoCardSaid : Prop := Claim7.holds Tryz.pinned (.plain (OpenSpec.upto linesIndentsSpec)) linesIndentsUptoCard
end Rows
end Go.Proofs.YtmbaaiifdjoibaaGreatDoor
