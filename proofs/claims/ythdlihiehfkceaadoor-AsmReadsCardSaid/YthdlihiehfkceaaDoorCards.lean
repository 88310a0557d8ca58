/-
  DERIVED. GIVEN WITH THE SEED: THE CARDS: each row of YthdlihiehfkceaaDoorRows.lean that lists a variable, with what it lists TIED to the program's text (the seventh form; the later family's looks); each row that meets fmt, with fmt's text TOLD by the authors' own Lean function (tested against real Go, not proved from fmt's source: count such statements apart). THE CARD IS WHAT COUNTS. Prove the row's statement (the work); the ties are given (YthdlihiehfkceaaDoorTie.lean); close each card by the builder's one call (the guide's Derived/Test/ToyasCard.lean, 'card_holds'). Laid BY PROGRAM, IN A SANDBOX (cutbox-door.mjs). By AI agents, Wed Nov 11 2026. No macro, syntax, notation, axiom, sorry.
-/
import Derived.Test.YthdlihiehfkceaaDoorRows
import GoSem.ClaimSeven
namespace Go.Proofs.YthdlihiehfkceaaDoor
namespace Rows

/-- THE TIED CARD OF 'tumblerlaw04.AsmTexts'. -/
def asmTextsCard : Claim7 := { stood := { row := asmTextsRow, standIns := [], harness := (true, "752dbf0c997e2012c3a1bb22af39a569d75e4bbfe3b1f8ae1d7ab48bc071b9b5"), looks := true }, kinds := [], alts := [], laidByText := true, laidKinds := [.data, .data, .data], laidTests := true, laidLooks := .later }
def AsmTextsCardSaid : Prop := Claim7.holds Tryd.pinned (.plain (OpenSpec.ofChange asmTextsSpec)) asmTextsCard

/-- THE TIED CARD OF 'tumblerlaw04.AsmBack'. -/
def asmBackCard : Claim7 := { stood := { row := asmBackRow, standIns := [], harness := (true, "752dbf0c997e2012c3a1bb22af39a569d75e4bbfe3b1f8ae1d7ab48bc071b9b5"), looks := true }, kinds := [], alts := [], laidByText := true, laidKinds := [.data, .data, .data], laidTests := true, laidLooks := .later }
def AsmBackCardSaid : Prop := Claim7.holds Tryd.pinned (.plain (OpenSpec.ofChange asmBackSpec)) asmBackCard

/-- THE TIED CARD OF 'tumblerlaw04.AsmNames'. -/
def asmNamesCard : Claim7 := { stood := { row := asmNamesRow, standIns := [], harness := (true, "752dbf0c997e2012c3a1bb22af39a569d75e4bbfe3b1f8ae1d7ab48bc071b9b5"), looks := true }, kinds := [], alts := [], laidByText := true, laidKinds := [.data, .data, .data], laidTests := true, laidLooks := .later }
def AsmNamesCardSaid : Prop := Claim7.holds Tryd.pinned (.plain (OpenSpec.ofChange asmNamesSpec)) asmNamesCard

/-- THE TIED CARD OF 'tumblerlaw04.AsmFirst'. -/
def asmFirstCard : Claim7 := { stood := { row := asmFirstRow, standIns := [], harness := (true, "752dbf0c997e2012c3a1bb22af39a569d75e4bbfe3b1f8ae1d7ab48bc071b9b5"), looks := true }, kinds := [], alts := [], laidByText := true, laidKinds := [.data, .data, .data], laidTests := true, laidLooks := .later }
def AsmFirstCardSaid : Prop := Claim7.holds Tryd.pinned (.plain (OpenSpec.ofChange asmFirstSpec)) asmFirstCard

/-- THE TIED CARD OF 'tumblerlaw04.AsmBlanks'. -/
def asmBlanksCard : Claim7 := { stood := { row := asmBlanksRow, standIns := [], harness := (true, "752dbf0c997e2012c3a1bb22af39a569d75e4bbfe3b1f8ae1d7ab48bc071b9b5"), looks := true }, kinds := [], alts := [], laidByText := true, laidKinds := [.data, .data, .data], laidTests := true, laidLooks := .later }
def AsmBlanksCardSaid : Prop := Claim7.holds Tryd.pinned (.plain (OpenSpec.ofChange asmBlanksSpec)) asmBlanksCard

/-- THE TIED CARD OF 'tumblerlaw04.AsmLines'. -/
def asmLinesCard : Claim7 := { stood := { row := asmLinesRow, standIns := [], harness := (true, "752dbf0c997e2012c3a1bb22af39a569d75e4bbfe3b1f8ae1d7ab48bc071b9b5"), looks := true }, kinds := [], alts := [], laidByText := true, laidKinds := [.data, .data, .data], laidTests := true, laidLooks := .later }
def AsmLinesCardSaid : Prop := Claim7.holds Tryd.pinned (.plain (OpenSpec.ofChange asmLinesSpec)) asmLinesCard

/-- THE TIED CARD OF 'tumblerlaw04.AsmReads'. -/
def asmReadsCard : Claim7 := { stood := { row := asmReadsRow, standIns := [], harness := (true, "752dbf0c997e2012c3a1bb22af39a569d75e4bbfe3b1f8ae1d7ab48bc071b9b5"), looks := true }, kinds := [], alts := [], laidByText := true, laidKinds := [.data, .data, .data, .data, .pinned], laidTests := true, laidLooks := .later }
def AsmReadsCardSaid : Prop := Claim7.holds Tryd.pinned (.plain (OpenSpec.ofChange asmReadsSpec)) asmReadsCard

/-- THE SECOND FORM's CARD OF 'tumblerlaw04.AsmTexts'. -/
def asmTextsUptoCard : Claim7 := { stood := { row := asmTextsUptoRow, standIns := [], harness := (true, "752dbf0c997e2012c3a1bb22af39a569d75e4bbfe3b1f8ae1d7ab48bc071b9b5"), looks := true }, kinds := [], alts := [], laidByText := true, laidKinds := [.data, .data, .data], laidTests := true, laidLooks := .later }
def AsmTextsUptoCardSaid : Prop := Claim7.holds Tryd.pinned (.plain (OpenSpec.upto asmTextsSpec)) asmTextsUptoCard

/-- THE SECOND FORM's CARD OF 'tumblerlaw04.AsmBack'. -/
def asmBackUptoCard : Claim7 := { stood := { row := asmBackUptoRow, standIns := [], harness := (true, "752dbf0c997e2012c3a1bb22af39a569d75e4bbfe3b1f8ae1d7ab48bc071b9b5"), looks := true }, kinds := [], alts := [], laidByText := true, laidKinds := [.data, .data, .data], laidTests := true, laidLooks := .later }
def AsmBackUptoCardSaid : Prop := Claim7.holds Tryd.pinned (.plain (OpenSpec.upto asmBackSpec)) asmBackUptoCard

/-- THE SECOND FORM's CARD OF 'tumblerlaw04.AsmNames'. -/
def asmNamesUptoCard : Claim7 := { stood := { row := asmNamesUptoRow, standIns := [], harness := (true, "752dbf0c997e2012c3a1bb22af39a569d75e4bbfe3b1f8ae1d7ab48bc071b9b5"), looks := true }, kinds := [], alts := [], laidByText := true, laidKinds := [.data, .data, .data], laidTests := true, laidLooks := .later }
def AsmNamesUptoCardSaid : Prop := Claim7.holds Tryd.pinned (.plain (OpenSpec.upto asmNamesSpec)) asmNamesUptoCard

/-- THE SECOND FORM's CARD OF 'tumblerlaw04.AsmFirst'. -/
def asmFirstUptoCard : Claim7 := { stood := { row := asmFirstUptoRow, standIns := [], harness := (true, "752dbf0c997e2012c3a1bb22af39a569d75e4bbfe3b1f8ae1d7ab48bc071b9b5"), looks := true }, kinds := [], alts := [], laidByText := true, laidKinds := [.data, .data, .data], laidTests := true, laidLooks := .later }
def AsmFirstUptoCardSaid : Prop := Claim7.holds Tryd.pinned (.plain (OpenSpec.upto asmFirstSpec)) asmFirstUptoCard

/-- THE SECOND FORM's CARD OF 'tumblerlaw04.AsmBlanks'. -/
def asmBlanksUptoCard : Claim7 := { stood := { row := asmBlanksUptoRow, standIns := [], harness := (true, "752dbf0c997e2012c3a1bb22af39a569d75e4bbfe3b1f8ae1d7ab48bc071b9b5"), looks := true }, kinds := [], alts := [], laidByText := true, laidKinds := [.data, .data, .data], laidTests := true, laidLooks := .later }
def AsmBlanksUptoCardSaid : Prop := Claim7.holds Tryd.pinned (.plain (OpenSpec.upto asmBlanksSpec)) asmBlanksUptoCard

/-- THE SECOND FORM's CARD OF 'tumblerlaw04.AsmLines'. -/
def asmLinesUptoCard : Claim7 := { stood := { row := asmLinesUptoRow, standIns := [], harness := (true, "752dbf0c997e2012c3a1bb22af39a569d75e4bbfe3b1f8ae1d7ab48bc071b9b5"), looks := true }, kinds := [], alts := [], laidByText := true, laidKinds := [.data, .data, .data], laidTests := true, laidLooks := .later }
def AsmLinesUptoCardSaid : Prop := Claim7.holds Tryd.pinned (.plain (OpenSpec.upto asmLinesSpec)) asmLinesUptoCard

/-- THE SECOND FORM's CARD OF 'tumblerlaw04.AsmReads'. -/
def asmReadsUptoCard : Claim7 := { stood := { row := asmReadsUptoRow, standIns := [], harness := (true, "752dbf0c997e2012c3a1bb22af39a569d75e4bbfe3b1f8ae1d7ab48bc071b9b5"), looks := true }, kinds := [], alts := [], laidByText := true, laidKinds := [.data, .data, .data, .data, .pinned], laidTests := true, laidLooks := .later }
def AsmReadsUptoCardSaid : Prop := Claim7.holds Tryd.pinned (.plain (OpenSpec.upto asmReadsSpec)) asmReadsUptoCard
end Rows
end Go.Proofs.YthdlihiehfkceaaDoor
