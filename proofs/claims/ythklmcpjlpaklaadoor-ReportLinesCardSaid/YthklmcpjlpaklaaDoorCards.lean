/-
  DERIVED. GIVEN WITH THE SEED: THE CARDS: each row of YthklmcpjlpaklaaDoorRows.lean that lists a variable, with what it lists TIED to the program's text (the seventh form; the later family's looks); each row that meets fmt, with fmt's text TOLD by the authors' own Lean function (tested against real Go, not proved from fmt's source: count such statements apart). THE CARD IS WHAT COUNTS. Prove the row's statement (the work); the ties are given (YthklmcpjlpaklaaDoorTie.lean); close each card by the builder's one call (the guide's Derived/Test/ToyasCard.lean, 'card_holds'). Laid BY PROGRAM, IN A SANDBOX (cutbox-door.mjs). By AI agents, Wed Nov 11 2026. No macro, syntax, notation, axiom, sorry.
-/
import Derived.Test.YthklmcpjlpaklaaDoorRows
import GoSem.ClaimSeven
namespace Go.Proofs.YthklmcpjlpaklaaDoor
namespace Rows

/-- THE TIED CARD OF 'tumblerlaw25.ReportRecords'. -/
def reportRecordsCard : Claim7 := { stood := { row := reportRecordsRow, standIns := [], harness := (true, "e1eac5943af0f6e51598496f615102123a7ba9c23d0ace19e0587fa776d7df55"), looks := false }, kinds := [], alts := [], laidByText := true, laidKinds := [.data, .data, .data], laidTests := true, laidLooks := .later }
def ReportRecordsCardSaid : Prop := Claim7.holds Tryd.pinned (.plain (OpenSpec.ofChange reportRecordsSpec)) reportRecordsCard

/-- THE TIED CARD OF 'tumblerlaw25.ReportThings'. -/
def reportThingsCard : Claim7 := { stood := { row := reportThingsRow, standIns := [], harness := (true, "e1eac5943af0f6e51598496f615102123a7ba9c23d0ace19e0587fa776d7df55"), looks := false }, kinds := [], alts := [], laidByText := true, laidKinds := [.data, .data, .data], laidTests := true, laidLooks := .later }
def ReportThingsCardSaid : Prop := Claim7.holds Tryd.pinned (.plain (OpenSpec.ofChange reportThingsSpec)) reportThingsCard

/-- THE TIED CARD OF 'tumblerlaw25.ReportLines'. -/
def reportLinesCard : Claim7 := { stood := { row := reportLinesRow, standIns := [], harness := (true, "e1eac5943af0f6e51598496f615102123a7ba9c23d0ace19e0587fa776d7df55"), looks := false }, kinds := [], alts := [], laidByText := true, laidKinds := [.data, .data, .data], laidTests := true, laidLooks := .later }
def ReportLinesCardSaid : Prop := Claim7.holds Tryd.pinned (.plain (OpenSpec.ofChange reportLinesSpec)) reportLinesCard

/-- THE SECOND FORM's CARD OF 'tumblerlaw25.ReportRecords'. -/
def reportRecordsUptoCard : Claim7 := { stood := { row := reportRecordsUptoRow, standIns := [], harness := (true, "e1eac5943af0f6e51598496f615102123a7ba9c23d0ace19e0587fa776d7df55"), looks := false }, kinds := [], alts := [], laidByText := true, laidKinds := [.data, .data, .data], laidTests := true, laidLooks := .later }
def ReportRecordsUptoCardSaid : Prop := Claim7.holds Tryd.pinned (.plain (OpenSpec.upto reportRecordsSpec)) reportRecordsUptoCard

/-- THE SECOND FORM's CARD OF 'tumblerlaw25.ReportThings'. -/
def reportThingsUptoCard : Claim7 := { stood := { row := reportThingsUptoRow, standIns := [], harness := (true, "e1eac5943af0f6e51598496f615102123a7ba9c23d0ace19e0587fa776d7df55"), looks := false }, kinds := [], alts := [], laidByText := true, laidKinds := [.data, .data, .data], laidTests := true, laidLooks := .later }
def ReportThingsUptoCardSaid : Prop := Claim7.holds Tryd.pinned (.plain (OpenSpec.upto reportThingsSpec)) reportThingsUptoCard

/-- THE SECOND FORM's CARD OF 'tumblerlaw25.ReportLines'. -/
def reportLinesUptoCard : Claim7 := { stood := { row := reportLinesUptoRow, standIns := [], harness := (true, "e1eac5943af0f6e51598496f615102123a7ba9c23d0ace19e0587fa776d7df55"), looks := false }, kinds := [], alts := [], laidByText := true, laidKinds := [.data, .data, .data], laidTests := true, laidLooks := .later }
def ReportLinesUptoCardSaid : Prop := Claim7.holds Tryd.pinned (.plain (OpenSpec.upto reportLinesSpec)) reportLinesUptoCard
end Rows
end Go.Proofs.YthklmcpjlpaklaaDoor
