/-
  DERIVED. GIVEN WITH THE SEED: THE CARDS: each row of YtkbkhdgjdikjiaaGreatDoorRows.lean that lists a variable, with what it lists TIED to the program's text (the seventh form; the later family's looks); each row that meets fmt, with fmt's text TOLD by the authors' own Lean function (tested against real Go, not proved from fmt's source: count such statements apart). THE CARD IS WHAT COUNTS. Prove the row's statement (the work); the ties are given (YtkbkhdgjdikjiaaGreatDoorTie.lean); close each card by the builder's one call (the guide's Derived/Test/ToyasCard.lean, 'card_holds'). Laid BY PROGRAM, IN A SANDBOX (cutbox-door.mjs). By AI agents, Wed Nov 11 2026. No macro, syntax, notation, axiom, sorry.
-/
import Derived.Test.YtkbkhdgjdikjiaaGreatDoorRows
import GoSem.ClaimSeven
namespace Go.Proofs.YtkbkhdgjdikjiaaGreatDoor
namespace Rows

/-- THE TIED CARD OF 'grillelaw18.BudgetGraphs'. -/
def budgetGraphsCard : Claim7 := { stood := { row := budgetGraphsRow, standIns := [], harness := (true, "0bb2e731af9de0ee65536854979abaaa88e422912021b0223c75907340675d6a"), looks := true }, kinds := [], alts := [], laidByText := true, laidKinds := [.data, .data, .data, .data, .pinned], laidTests := true, laidLooks := .later }
def BudgetGraphsCardSaid : Prop := Claim7.holds Tryz.pinned (.plain (OpenSpec.ofChange budgetGraphsSpec)) budgetGraphsCard

/-- THE TIED CARD OF 'grillelaw10.FlattenBack'. -/
def flattenBackCard : Claim7 := { stood := { row := flattenBackRow, standIns := [], harness := (true, "0bb2e731af9de0ee65536854979abaaa88e422912021b0223c75907340675d6a"), looks := true }, kinds := [], alts := [], laidByText := true, laidKinds := [.data, .data, .data, .data, .pinned], laidTests := true, laidLooks := .later }
def FlattenBackCardSaid : Prop := Claim7.holds Tryz.pinned (.plain (OpenSpec.ofChange flattenBackSpec)) flattenBackCard

/-- THE TIED CARD OF 'grillelaw10.FlattenTells'. -/
def flattenTellsCard : Claim7 := { stood := { row := flattenTellsRow, standIns := [], harness := (true, "0bb2e731af9de0ee65536854979abaaa88e422912021b0223c75907340675d6a"), looks := true }, kinds := [], alts := [], laidByText := true, laidKinds := [.data, .data, .data, .data, .sentinel, .sentinel, .pinned], laidTests := true, laidLooks := .later }
def FlattenTellsCardSaid : Prop := Claim7.holds Tryz.pinned (.plain (OpenSpec.ofChange flattenTellsSpec)) flattenTellsCard

/-- THE SECOND FORM's CARD OF 'grillelaw18.BudgetGraphs'. -/
def budgetGraphsUptoCard : Claim7 := { stood := { row := budgetGraphsUptoRow, standIns := [], harness := (true, "0bb2e731af9de0ee65536854979abaaa88e422912021b0223c75907340675d6a"), looks := true }, kinds := [], alts := [], laidByText := true, laidKinds := [.data, .data, .data, .data, .pinned], laidTests := true, laidLooks := .later }
def BudgetGraphsUptoCardSaid : Prop := Claim7.holds Tryz.pinned (.plain (OpenSpec.upto budgetGraphsSpec)) budgetGraphsUptoCard

/-- THE SECOND FORM's CARD OF 'grillelaw10.FlattenBack'. -/
def flattenBackUptoCard : Claim7 := { stood := { row := flattenBackUptoRow, standIns := [], harness := (true, "0bb2e731af9de0ee65536854979abaaa88e422912021b0223c75907340675d6a"), looks := true }, kinds := [], alts := [], laidByText := true, laidKinds := [.data, .data, .data, .data, .pinned], laidTests := true, laidLooks := .later }
def FlattenBackUptoCardSaid : Prop := Claim7.holds Tryz.pinned (.plain (OpenSpec.upto flattenBackSpec)) flattenBackUptoCard

/-- THE SECOND FORM's CARD OF 'grillelaw10.FlattenTells'. -/
def flattenTellsUptoCard : Claim7 := { stood := { row := flattenTellsUptoRow, standIns := [], harness := (true, "0bb2e731af9de0ee65536854979abaaa88e422912021b0223c75907340675d6a"), looks := true }, kinds := [], alts := [], laidByText := true, laidKinds := [.data, .data, .data, .data, .sentinel, .sentinel, .pinned], laidTests := true, laidLooks := .later }
def FlattenTellsUptoCardSaid : Prop := Claim7.holds Tryz.pinned (.plain (OpenSpec.upto flattenTellsSpec)) flattenTellsUptoCard
end Rows
end Go.Proofs.YtkbkhdgjdikjiaaGreatDoor
