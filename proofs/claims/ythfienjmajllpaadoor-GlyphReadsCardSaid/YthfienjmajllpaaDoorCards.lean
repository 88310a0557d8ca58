/-
  DERIVED. GIVEN WITH THE SEED: THE CARDS: each row of YthfienjmajllpaaDoorRows.lean that lists a variable, with what it lists TIED to the program's text (the seventh form; the later family's looks); each row that meets fmt, with fmt's text TOLD by the authors' own Lean function (tested against real Go, not proved from fmt's source: count such statements apart). THE CARD IS WHAT COUNTS. Prove the row's statement (the work); the ties are given (YthfienjmajllpaaDoorTie.lean); close each card by the builder's one call (the guide's Derived/Test/ToyasCard.lean, 'card_holds'). Laid BY PROGRAM, IN A SANDBOX (cutbox-door.mjs). By AI agents, Wed Nov 11 2026. No macro, syntax, notation, axiom, sorry.
-/
import Derived.Test.YthfienjmajllpaaDoorRows
import GoSem.ClaimSeven
namespace Go.Proofs.YthfienjmajllpaaDoor
namespace Rows

/-- THE TIED CARD OF 'tumblerlaw02.GlyphPrints'. -/
def glyphPrintsCard : Claim7 := { stood := { row := glyphPrintsRow, standIns := [], harness := (true, "8eb99e1ef7f7615385cb061718b80618d298a46cfc9c501c20f23557df5d7f0d"), looks := false }, kinds := [], alts := [], laidByText := true, laidKinds := [.data, .data, .data], laidTests := true, laidLooks := .later }
def GlyphPrintsCardSaid : Prop := Claim7.holds Tryd.pinned (.plain (OpenSpec.ofChange glyphPrintsSpec)) glyphPrintsCard

/-- THE TIED CARD OF 'tumblerlaw02.GlyphBack'. -/
def glyphBackCard : Claim7 := { stood := { row := glyphBackRow, standIns := [], harness := (true, "8eb99e1ef7f7615385cb061718b80618d298a46cfc9c501c20f23557df5d7f0d"), looks := false }, kinds := [], alts := [], laidByText := true, laidKinds := [.data, .data, .data], laidTests := true, laidLooks := .later }
def GlyphBackCardSaid : Prop := Claim7.holds Tryd.pinned (.plain (OpenSpec.ofChange glyphBackSpec)) glyphBackCard

/-- THE TIED CARD OF 'tumblerlaw02.GlyphJoins'. -/
def glyphJoinsCard : Claim7 := { stood := { row := glyphJoinsRow, standIns := [], harness := (true, "8eb99e1ef7f7615385cb061718b80618d298a46cfc9c501c20f23557df5d7f0d"), looks := false }, kinds := [], alts := [], laidByText := true, laidKinds := [.data, .data, .data], laidTests := true, laidLooks := .later }
def GlyphJoinsCardSaid : Prop := Claim7.holds Tryd.pinned (.plain (OpenSpec.ofChange glyphJoinsSpec)) glyphJoinsCard

/-- THE TIED CARD OF 'tumblerlaw02.GlyphNumbers'. -/
def glyphNumbersCard : Claim7 := { stood := { row := glyphNumbersRow, standIns := [], harness := (true, "8eb99e1ef7f7615385cb061718b80618d298a46cfc9c501c20f23557df5d7f0d"), looks := false }, kinds := [], alts := [], laidByText := true, laidKinds := [.data, .data, .data], laidTests := true, laidLooks := .later }
def GlyphNumbersCardSaid : Prop := Claim7.holds Tryd.pinned (.plain (OpenSpec.ofChange glyphNumbersSpec)) glyphNumbersCard

/-- THE TIED CARD OF 'tumblerlaw02.GlyphPlaces'. -/
def glyphPlacesCard : Claim7 := { stood := { row := glyphPlacesRow, standIns := [], harness := (true, "8eb99e1ef7f7615385cb061718b80618d298a46cfc9c501c20f23557df5d7f0d"), looks := false }, kinds := [], alts := [], laidByText := true, laidKinds := [.data, .data, .data], laidTests := true, laidLooks := .later }
def GlyphPlacesCardSaid : Prop := Claim7.holds Tryd.pinned (.plain (OpenSpec.ofChange glyphPlacesSpec)) glyphPlacesCard

/-- THE TIED CARD OF 'tumblerlaw02.GlyphReads'. -/
def glyphReadsCard : Claim7 := { stood := { row := glyphReadsRow, standIns := [], harness := (true, "8eb99e1ef7f7615385cb061718b80618d298a46cfc9c501c20f23557df5d7f0d"), looks := false }, kinds := [], alts := [], laidByText := true, laidKinds := [.data, .data, .data, .data, .pinned], laidTests := true, laidLooks := .later }
def GlyphReadsCardSaid : Prop := Claim7.holds Tryd.pinned (.plain (OpenSpec.ofChange glyphReadsSpec)) glyphReadsCard

/-- THE SECOND FORM's CARD OF 'tumblerlaw02.GlyphPrints'. -/
def glyphPrintsUptoCard : Claim7 := { stood := { row := glyphPrintsUptoRow, standIns := [], harness := (true, "8eb99e1ef7f7615385cb061718b80618d298a46cfc9c501c20f23557df5d7f0d"), looks := false }, kinds := [], alts := [], laidByText := true, laidKinds := [.data, .data, .data], laidTests := true, laidLooks := .later }
def GlyphPrintsUptoCardSaid : Prop := Claim7.holds Tryd.pinned (.plain (OpenSpec.upto glyphPrintsSpec)) glyphPrintsUptoCard

/-- THE SECOND FORM's CARD OF 'tumblerlaw02.GlyphBack'. -/
def glyphBackUptoCard : Claim7 := { stood := { row := glyphBackUptoRow, standIns := [], harness := (true, "8eb99e1ef7f7615385cb061718b80618d298a46cfc9c501c20f23557df5d7f0d"), looks := false }, kinds := [], alts := [], laidByText := true, laidKinds := [.data, .data, .data], laidTests := true, laidLooks := .later }
def GlyphBackUptoCardSaid : Prop := Claim7.holds Tryd.pinned (.plain (OpenSpec.upto glyphBackSpec)) glyphBackUptoCard

/-- THE SECOND FORM's CARD OF 'tumblerlaw02.GlyphJoins'. -/
def glyphJoinsUptoCard : Claim7 := { stood := { row := glyphJoinsUptoRow, standIns := [], harness := (true, "8eb99e1ef7f7615385cb061718b80618d298a46cfc9c501c20f23557df5d7f0d"), looks := false }, kinds := [], alts := [], laidByText := true, laidKinds := [.data, .data, .data], laidTests := true, laidLooks := .later }
def GlyphJoinsUptoCardSaid : Prop := Claim7.holds Tryd.pinned (.plain (OpenSpec.upto glyphJoinsSpec)) glyphJoinsUptoCard

/-- THE SECOND FORM's CARD OF 'tumblerlaw02.GlyphNumbers'. -/
def glyphNumbersUptoCard : Claim7 := { stood := { row := glyphNumbersUptoRow, standIns := [], harness := (true, "8eb99e1ef7f7615385cb061718b80618d298a46cfc9c501c20f23557df5d7f0d"), looks := false }, kinds := [], alts := [], laidByText := true, laidKinds := [.data, .data, .data], laidTests := true, laidLooks := .later }
def GlyphNumbersUptoCardSaid : Prop := Claim7.holds Tryd.pinned (.plain (OpenSpec.upto glyphNumbersSpec)) glyphNumbersUptoCard

/-- THE SECOND FORM's CARD OF 'tumblerlaw02.GlyphPlaces'. -/
def glyphPlacesUptoCard : Claim7 := { stood := { row := glyphPlacesUptoRow, standIns := [], harness := (true, "8eb99e1ef7f7615385cb061718b80618d298a46cfc9c501c20f23557df5d7f0d"), looks := false }, kinds := [], alts := [], laidByText := true, laidKinds := [.data, .data, .data], laidTests := true, laidLooks := .later }
def GlyphPlacesUptoCardSaid : Prop := Claim7.holds Tryd.pinned (.plain (OpenSpec.upto glyphPlacesSpec)) glyphPlacesUptoCard

/-- THE SECOND FORM's CARD OF 'tumblerlaw02.GlyphReads'. -/
def glyphReadsUptoCard : Claim7 := { stood := { row := glyphReadsUptoRow, standIns := [], harness := (true, "8eb99e1ef7f7615385cb061718b80618d298a46cfc9c501c20f23557df5d7f0d"), looks := false }, kinds := [], alts := [], laidByText := true, laidKinds := [.data, .data, .data, .data, .pinned], laidTests := true, laidLooks := .later }
def GlyphReadsUptoCardSaid : Prop := Claim7.holds Tryd.pinned (.plain (OpenSpec.upto glyphReadsSpec)) glyphReadsUptoCard
end Rows
end Go.Proofs.YthfienjmajllpaaDoor
