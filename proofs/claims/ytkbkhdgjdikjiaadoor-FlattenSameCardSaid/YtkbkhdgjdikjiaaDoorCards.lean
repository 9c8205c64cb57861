/-
  DERIVED. GIVEN WITH THE SEED: THE CARDS: each row of YtkbkhdgjdikjiaaDoorRows.lean that lists a variable, with what it lists TIED to the program's text (the seventh form; the later family's looks); each row that meets fmt, with fmt's text TOLD by the authors' own Lean function (tested against real Go, not proved from fmt's source: count such statements apart). THE CARD IS WHAT COUNTS. Prove the row's statement (the work); the ties are given (YtkbkhdgjdikjiaaDoorTie.lean); close each card by the builder's one call (the guide's Derived/Test/ToyasCard.lean, 'card_holds'). Laid BY PROGRAM, IN A SANDBOX (cutbox-door.mjs). By AI agents, Wed Nov 11 2026. No macro, syntax, notation, axiom, sorry.
-/
import Derived.Test.YtkbkhdgjdikjiaaDoorRows
import GoSem.ClaimSeven
namespace Go.Proofs.YtkbkhdgjdikjiaaDoor
namespace Rows

/-- THE TIED CARD OF 'grillelaw10.FlattenAnchors'. -/
def flattenAnchorsCard : Claim7 := { stood := { row := flattenAnchorsRow, standIns := [], harness := (true, "754d2cc6c24a0dfaf81aafb970fe1aedae92cfa44c3f00834b097289798182bf"), looks := false }, kinds := [], alts := [], laidByText := true, laidKinds := [.data, .data, .data, .data, .pinned], laidTests := true, laidLooks := .later }
def FlattenAnchorsCardSaid : Prop := Claim7.holds Tryd.pinned (.plain (OpenSpec.ofChange flattenAnchorsSpec)) flattenAnchorsCard

/-- THE TIED CARD OF 'grillelaw10.FlattenOne'. -/
def flattenOneCard : Claim7 := { stood := { row := flattenOneRow, standIns := [], harness := (true, "754d2cc6c24a0dfaf81aafb970fe1aedae92cfa44c3f00834b097289798182bf"), looks := false }, kinds := [], alts := [], laidByText := true, laidKinds := [.data, .data, .data, .data, .pinned], laidTests := true, laidLooks := .later }
def FlattenOneCardSaid : Prop := Claim7.holds Tryd.pinned (.plain (OpenSpec.ofChange flattenOneSpec)) flattenOneCard

/-- THE TIED CARD OF 'grillelaw10.FlattenTag'. -/
def flattenTagCard : Claim7 := { stood := { row := flattenTagRow, standIns := [], harness := (true, "754d2cc6c24a0dfaf81aafb970fe1aedae92cfa44c3f00834b097289798182bf"), looks := false }, kinds := [], alts := [], laidByText := true, laidKinds := [.data, .data, .data, .data, .pinned], laidTests := true, laidLooks := .later }
def FlattenTagCardSaid : Prop := Claim7.holds Tryd.pinned (.plain (OpenSpec.ofChange flattenTagSpec)) flattenTagCard

/-- THE TIED CARD OF 'grillelaw10.FlattenSame'. -/
def flattenSameCard : Claim7 := { stood := { row := flattenSameRow, standIns := [], harness := (true, "754d2cc6c24a0dfaf81aafb970fe1aedae92cfa44c3f00834b097289798182bf"), looks := false }, kinds := [], alts := [], laidByText := true, laidKinds := [.data, .data, .data, .data, .pinned], laidTests := true, laidLooks := .later }
def FlattenSameCardSaid : Prop := Claim7.holds Tryd.pinned (.plain (OpenSpec.ofChange flattenSameSpec)) flattenSameCard

/-- THE TIED CARD OF 'grillelaw18.BudgetTells'. -/
def budgetTellsCard : Claim7 := { stood := { row := budgetTellsRow, standIns := [], harness := (true, "754d2cc6c24a0dfaf81aafb970fe1aedae92cfa44c3f00834b097289798182bf"), looks := false }, kinds := [], alts := [], laidByText := true, laidKinds := [.data, .data, .data, .data, .pinned], laidTests := true, laidLooks := .later }
def BudgetTellsCardSaid : Prop := Claim7.holds Tryd.pinned (.plain (OpenSpec.ofChange budgetTellsSpec)) budgetTellsCard

/-- THE TIED CARD OF 'grillelaw18.BudgetLeast'. -/
def budgetLeastCard : Claim7 := { stood := { row := budgetLeastRow, standIns := [], harness := (true, "754d2cc6c24a0dfaf81aafb970fe1aedae92cfa44c3f00834b097289798182bf"), looks := false }, kinds := [], alts := [], laidByText := true, laidKinds := [.data, .data, .data, .data, .pinned], laidTests := true, laidLooks := .later }
def BudgetLeastCardSaid : Prop := Claim7.holds Tryd.pinned (.plain (OpenSpec.ofChange budgetLeastSpec)) budgetLeastCard

/-- THE TIED CARD OF 'grillelaw18.BudgetUse'. -/
def budgetUseCard : Claim7 := { stood := { row := budgetUseRow, standIns := [], harness := (true, "754d2cc6c24a0dfaf81aafb970fe1aedae92cfa44c3f00834b097289798182bf"), looks := false }, kinds := [], alts := [], laidByText := true, laidKinds := [.data, .data, .data, .data, .pinned], laidTests := true, laidLooks := .later }
def BudgetUseCardSaid : Prop := Claim7.holds Tryd.pinned (.plain (OpenSpec.ofChange budgetUseSpec)) budgetUseCard

/-- THE TIED CARD OF 'grillelaw18.BudgetMore'. -/
def budgetMoreCard : Claim7 := { stood := { row := budgetMoreRow, standIns := [], harness := (true, "754d2cc6c24a0dfaf81aafb970fe1aedae92cfa44c3f00834b097289798182bf"), looks := false }, kinds := [], alts := [], laidByText := true, laidKinds := [.data, .data, .data, .data, .pinned], laidTests := true, laidLooks := .later }
def BudgetMoreCardSaid : Prop := Claim7.holds Tryd.pinned (.plain (OpenSpec.ofChange budgetMoreSpec)) budgetMoreCard

/-- THE SECOND FORM's CARD OF 'grillelaw10.FlattenAnchors'. -/
def flattenAnchorsUptoCard : Claim7 := { stood := { row := flattenAnchorsUptoRow, standIns := [], harness := (true, "754d2cc6c24a0dfaf81aafb970fe1aedae92cfa44c3f00834b097289798182bf"), looks := false }, kinds := [], alts := [], laidByText := true, laidKinds := [.data, .data, .data, .data, .pinned], laidTests := true, laidLooks := .later }
def FlattenAnchorsUptoCardSaid : Prop := Claim7.holds Tryd.pinned (.plain (OpenSpec.upto flattenAnchorsSpec)) flattenAnchorsUptoCard

/-- THE SECOND FORM's CARD OF 'grillelaw10.FlattenOne'. -/
def flattenOneUptoCard : Claim7 := { stood := { row := flattenOneUptoRow, standIns := [], harness := (true, "754d2cc6c24a0dfaf81aafb970fe1aedae92cfa44c3f00834b097289798182bf"), looks := false }, kinds := [], alts := [], laidByText := true, laidKinds := [.data, .data, .data, .data, .pinned], laidTests := true, laidLooks := .later }
def FlattenOneUptoCardSaid : Prop := Claim7.holds Tryd.pinned (.plain (OpenSpec.upto flattenOneSpec)) flattenOneUptoCard

/-- THE SECOND FORM's CARD OF 'grillelaw10.FlattenTag'. -/
def flattenTagUptoCard : Claim7 := { stood := { row := flattenTagUptoRow, standIns := [], harness := (true, "754d2cc6c24a0dfaf81aafb970fe1aedae92cfa44c3f00834b097289798182bf"), looks := false }, kinds := [], alts := [], laidByText := true, laidKinds := [.data, .data, .data, .data, .pinned], laidTests := true, laidLooks := .later }
def FlattenTagUptoCardSaid : Prop := Claim7.holds Tryd.pinned (.plain (OpenSpec.upto flattenTagSpec)) flattenTagUptoCard

/-- THE SECOND FORM's CARD OF 'grillelaw10.FlattenSame'. -/
def flattenSameUptoCard : Claim7 := { stood := { row := flattenSameUptoRow, standIns := [], harness := (true, "754d2cc6c24a0dfaf81aafb970fe1aedae92cfa44c3f00834b097289798182bf"), looks := false }, kinds := [], alts := [], laidByText := true, laidKinds := [.data, .data, .data, .data, .pinned], laidTests := true, laidLooks := .later }
def FlattenSameUptoCardSaid : Prop := Claim7.holds Tryd.pinned (.plain (OpenSpec.upto flattenSameSpec)) flattenSameUptoCard

/-- THE SECOND FORM's CARD OF 'grillelaw18.BudgetTells'. -/
def budgetTellsUptoCard : Claim7 := { stood := { row := budgetTellsUptoRow, standIns := [], harness := (true, "754d2cc6c24a0dfaf81aafb970fe1aedae92cfa44c3f00834b097289798182bf"), looks := false }, kinds := [], alts := [], laidByText := true, laidKinds := [.data, .data, .data, .data, .pinned], laidTests := true, laidLooks := .later }
def BudgetTellsUptoCardSaid : Prop := Claim7.holds Tryd.pinned (.plain (OpenSpec.upto budgetTellsSpec)) budgetTellsUptoCard

/-- THE SECOND FORM's CARD OF 'grillelaw18.BudgetLeast'. -/
def budgetLeastUptoCard : Claim7 := { stood := { row := budgetLeastUptoRow, standIns := [], harness := (true, "754d2cc6c24a0dfaf81aafb970fe1aedae92cfa44c3f00834b097289798182bf"), looks := false }, kinds := [], alts := [], laidByText := true, laidKinds := [.data, .data, .data, .data, .pinned], laidTests := true, laidLooks := .later }
def BudgetLeastUptoCardSaid : Prop := Claim7.holds Tryd.pinned (.plain (OpenSpec.upto budgetLeastSpec)) budgetLeastUptoCard

/-- THE SECOND FORM's CARD OF 'grillelaw18.BudgetUse'. -/
def budgetUseUptoCard : Claim7 := { stood := { row := budgetUseUptoRow, standIns := [], harness := (true, "754d2cc6c24a0dfaf81aafb970fe1aedae92cfa44c3f00834b097289798182bf"), looks := false }, kinds := [], alts := [], laidByText := true, laidKinds := [.data, .data, .data, .data, .pinned], laidTests := true, laidLooks := .later }
def BudgetUseUptoCardSaid : Prop := Claim7.holds Tryd.pinned (.plain (OpenSpec.upto budgetUseSpec)) budgetUseUptoCard

/-- THE SECOND FORM's CARD OF 'grillelaw18.BudgetMore'. -/
def budgetMoreUptoCard : Claim7 := { stood := { row := budgetMoreUptoRow, standIns := [], harness := (true, "754d2cc6c24a0dfaf81aafb970fe1aedae92cfa44c3f00834b097289798182bf"), looks := false }, kinds := [], alts := [], laidByText := true, laidKinds := [.data, .data, .data, .data, .pinned], laidTests := true, laidLooks := .later }
def BudgetMoreUptoCardSaid : Prop := Claim7.holds Tryd.pinned (.plain (OpenSpec.upto budgetMoreSpec)) budgetMoreUptoCard
end Rows
end Go.Proofs.YtkbkhdgjdikjiaaDoor
