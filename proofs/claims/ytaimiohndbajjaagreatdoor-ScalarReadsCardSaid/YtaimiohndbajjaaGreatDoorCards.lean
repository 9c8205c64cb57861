/-
  DERIVED. GIVEN WITH THE SEED: THE CARDS: each row of YtaimiohndbajjaaGreatDoorRows.lean that lists a variable, with what it lists TIED to the program's text (the seventh form; the later family's looks); each row that meets fmt, with fmt's text TOLD by the authors' own Lean function (tested against real Go, not proved from fmt's source: count such statements apart). THE CARD IS WHAT COUNTS. Prove the row's statement (the work); the ties are given (YtaimiohndbajjaaGreatDoorTie.lean); close each card by the builder's one call (the guide's Derived/Test/ToyasCard.lean, 'card_holds'). Laid BY PROGRAM, IN A SANDBOX (cutbox-door.mjs). By AI agents, Wed Nov 11 2026. No macro, syntax, notation, axiom, sorry.
-/
import Derived.Test.YtaimiohndbajjaaGreatDoorRows
import GoSem.ClaimSeven
namespace Go.Proofs.YtaimiohndbajjaaGreatDoor
namespace Rows

/-- THE TIED CARD OF 'grillelaw02.ScalarTells'. -/
def scalarTellsCard : Claim7 := { stood := { row := scalarTellsRow, standIns := [], harness := (true, "41a65d227c6ce44d5b22b0d80ad222aea5234319da5f49300af2bb81916aa5c7"), looks := true }, kinds := [], alts := [], laidByText := true, laidKinds := [.data, .data, .data, .data, .sentinel, .sentinel, .pinned], laidTests := true, laidLooks := .later }
def ScalarTellsCardSaid : Prop := Claim7.holds Tryz.pinned (.plain (OpenSpec.ofChange scalarTellsSpec)) scalarTellsCard

/-- THE TIED CARD OF 'grillelaw02.ScalarReads'. -/
def scalarReadsCard : Claim7 := { stood := { row := scalarReadsRow, standIns := [], harness := (true, "41a65d227c6ce44d5b22b0d80ad222aea5234319da5f49300af2bb81916aa5c7"), looks := true }, kinds := [], alts := [], laidByText := true, laidKinds := [.data, .data, .data, .data, .sentinel, .sentinel, .pinned], laidTests := true, laidLooks := .later }
def ScalarReadsCardSaid : Prop := Claim7.holds Tryz.pinned (.plain (OpenSpec.ofChange scalarReadsSpec)) scalarReadsCard

/-- THE SECOND FORM's CARD OF 'grillelaw02.ScalarTells'. -/
def scalarTellsUptoCard : Claim7 := { stood := { row := scalarTellsUptoRow, standIns := [], harness := (true, "41a65d227c6ce44d5b22b0d80ad222aea5234319da5f49300af2bb81916aa5c7"), looks := true }, kinds := [], alts := [], laidByText := true, laidKinds := [.data, .data, .data, .data, .sentinel, .sentinel, .pinned], laidTests := true, laidLooks := .later }
def ScalarTellsUptoCardSaid : Prop := Claim7.holds Tryz.pinned (.plain (OpenSpec.upto scalarTellsSpec)) scalarTellsUptoCard

/-- THE SECOND FORM's CARD OF 'grillelaw02.ScalarReads'. -/
def scalarReadsUptoCard : Claim7 := { stood := { row := scalarReadsUptoRow, standIns := [], harness := (true, "41a65d227c6ce44d5b22b0d80ad222aea5234319da5f49300af2bb81916aa5c7"), looks := true }, kinds := [], alts := [], laidByText := true, laidKinds := [.data, .data, .data, .data, .sentinel, .sentinel, .pinned], laidTests := true, laidLooks := .later }
def ScalarReadsUptoCardSaid : Prop := Claim7.holds Tryz.pinned (.plain (OpenSpec.upto scalarReadsSpec)) scalarReadsUptoCard
end Rows
end Go.Proofs.YtaimiohndbajjaaGreatDoor
