/-
  DERIVED. GIVEN WITH THE SEED: THE CARDS: each row of YtaimiohndbajjaaDoorRows.lean that lists a variable, with what it lists TIED to the program's text (the seventh form; the later family's looks); each row that meets fmt, with fmt's text TOLD by the authors' own Lean function (tested against real Go, not proved from fmt's source: count such statements apart). THE CARD IS WHAT COUNTS. Prove the row's statement (the work); the ties are given (YtaimiohndbajjaaDoorTie.lean); close each card by the builder's one call (the guide's Derived/Test/ToyasCard.lean, 'card_holds'). Laid BY PROGRAM, IN A SANDBOX (cutbox-door.mjs). By AI agents, Wed Nov 11 2026. No macro, syntax, notation, axiom, sorry.
-/
import Derived.Test.YtaimiohndbajjaaDoorRows
import GoSem.ClaimSeven
namespace Go.Proofs.YtaimiohndbajjaaDoor
namespace Rows

/-- THE TIED CARD OF 'grillelaw02.ScalarBack'. -/
def scalarBackCard : Claim7 := { stood := { row := scalarBackRow, standIns := [], harness := (true, "2ade55b18f7600be216183e7bf0caa7f22f4d5f7cda26664a8a51facb2e2df29"), looks := true }, kinds := [], alts := [], laidByText := true, laidKinds := [.data, .data, .data, .data, .sentinel, .sentinel, .pinned], laidTests := true, laidLooks := .later }
def ScalarBackCardSaid : Prop := Claim7.holds Tryd.pinned (.plain (OpenSpec.ofChange scalarBackSpec)) scalarBackCard

/-- THE TIED CARD OF 'grillelaw02.ScalarOnce'. -/
def scalarOnceCard : Claim7 := { stood := { row := scalarOnceRow, standIns := [], harness := (true, "2ade55b18f7600be216183e7bf0caa7f22f4d5f7cda26664a8a51facb2e2df29"), looks := true }, kinds := [], alts := [], laidByText := true, laidKinds := [.data, .data, .data, .data, .sentinel, .sentinel, .pinned], laidTests := true, laidLooks := .later }
def ScalarOnceCardSaid : Prop := Claim7.holds Tryd.pinned (.plain (OpenSpec.ofChange scalarOnceSpec)) scalarOnceCard

/-- THE TIED CARD OF 'grillelaw02.ScalarPlain'. -/
def scalarPlainCard : Claim7 := { stood := { row := scalarPlainRow, standIns := [], harness := (true, "2ade55b18f7600be216183e7bf0caa7f22f4d5f7cda26664a8a51facb2e2df29"), looks := true }, kinds := [], alts := [], laidByText := true, laidKinds := [.data, .data, .data, .data, .sentinel, .sentinel, .pinned], laidTests := true, laidLooks := .later }
def ScalarPlainCardSaid : Prop := Claim7.holds Tryd.pinned (.plain (OpenSpec.ofChange scalarPlainSpec)) scalarPlainCard

/-- THE TIED CARD OF 'grillelaw02.ScalarSingle'. -/
def scalarSingleCard : Claim7 := { stood := { row := scalarSingleRow, standIns := [], harness := (true, "2ade55b18f7600be216183e7bf0caa7f22f4d5f7cda26664a8a51facb2e2df29"), looks := true }, kinds := [], alts := [], laidByText := true, laidKinds := [.data, .data, .data, .data, .sentinel, .sentinel, .pinned], laidTests := true, laidLooks := .later }
def ScalarSingleCardSaid : Prop := Claim7.holds Tryd.pinned (.plain (OpenSpec.ofChange scalarSingleSpec)) scalarSingleCard

/-- THE TIED CARD OF 'grillelaw02.ScalarEnds'. -/
def scalarEndsCard : Claim7 := { stood := { row := scalarEndsRow, standIns := [], harness := (true, "2ade55b18f7600be216183e7bf0caa7f22f4d5f7cda26664a8a51facb2e2df29"), looks := true }, kinds := [], alts := [], laidByText := true, laidKinds := [.data, .data, .data, .data, .sentinel, .sentinel, .pinned], laidTests := true, laidLooks := .later }
def ScalarEndsCardSaid : Prop := Claim7.holds Tryd.pinned (.plain (OpenSpec.ofChange scalarEndsSpec)) scalarEndsCard

/-- THE SECOND FORM's CARD OF 'grillelaw02.ScalarBack'. -/
def scalarBackUptoCard : Claim7 := { stood := { row := scalarBackUptoRow, standIns := [], harness := (true, "2ade55b18f7600be216183e7bf0caa7f22f4d5f7cda26664a8a51facb2e2df29"), looks := true }, kinds := [], alts := [], laidByText := true, laidKinds := [.data, .data, .data, .data, .sentinel, .sentinel, .pinned], laidTests := true, laidLooks := .later }
def ScalarBackUptoCardSaid : Prop := Claim7.holds Tryd.pinned (.plain (OpenSpec.upto scalarBackSpec)) scalarBackUptoCard

/-- THE SECOND FORM's CARD OF 'grillelaw02.ScalarOnce'. -/
def scalarOnceUptoCard : Claim7 := { stood := { row := scalarOnceUptoRow, standIns := [], harness := (true, "2ade55b18f7600be216183e7bf0caa7f22f4d5f7cda26664a8a51facb2e2df29"), looks := true }, kinds := [], alts := [], laidByText := true, laidKinds := [.data, .data, .data, .data, .sentinel, .sentinel, .pinned], laidTests := true, laidLooks := .later }
def ScalarOnceUptoCardSaid : Prop := Claim7.holds Tryd.pinned (.plain (OpenSpec.upto scalarOnceSpec)) scalarOnceUptoCard

/-- THE SECOND FORM's CARD OF 'grillelaw02.ScalarPlain'. -/
def scalarPlainUptoCard : Claim7 := { stood := { row := scalarPlainUptoRow, standIns := [], harness := (true, "2ade55b18f7600be216183e7bf0caa7f22f4d5f7cda26664a8a51facb2e2df29"), looks := true }, kinds := [], alts := [], laidByText := true, laidKinds := [.data, .data, .data, .data, .sentinel, .sentinel, .pinned], laidTests := true, laidLooks := .later }
def ScalarPlainUptoCardSaid : Prop := Claim7.holds Tryd.pinned (.plain (OpenSpec.upto scalarPlainSpec)) scalarPlainUptoCard

/-- THE SECOND FORM's CARD OF 'grillelaw02.ScalarSingle'. -/
def scalarSingleUptoCard : Claim7 := { stood := { row := scalarSingleUptoRow, standIns := [], harness := (true, "2ade55b18f7600be216183e7bf0caa7f22f4d5f7cda26664a8a51facb2e2df29"), looks := true }, kinds := [], alts := [], laidByText := true, laidKinds := [.data, .data, .data, .data, .sentinel, .sentinel, .pinned], laidTests := true, laidLooks := .later }
def ScalarSingleUptoCardSaid : Prop := Claim7.holds Tryd.pinned (.plain (OpenSpec.upto scalarSingleSpec)) scalarSingleUptoCard

/-- THE SECOND FORM's CARD OF 'grillelaw02.ScalarEnds'. -/
def scalarEndsUptoCard : Claim7 := { stood := { row := scalarEndsUptoRow, standIns := [], harness := (true, "2ade55b18f7600be216183e7bf0caa7f22f4d5f7cda26664a8a51facb2e2df29"), looks := true }, kinds := [], alts := [], laidByText := true, laidKinds := [.data, .data, .data, .data, .sentinel, .sentinel, .pinned], laidTests := true, laidLooks := .later }
def ScalarEndsUptoCardSaid : Prop := Claim7.holds Tryd.pinned (.plain (OpenSpec.upto scalarEndsSpec)) scalarEndsUptoCard
end Rows
end Go.Proofs.YtaimiohndbajjaaDoor
