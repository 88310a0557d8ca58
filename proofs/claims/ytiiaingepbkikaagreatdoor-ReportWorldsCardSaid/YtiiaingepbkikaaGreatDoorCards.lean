/-
  DERIVED. GIVEN WITH THE SEED: THE CARDS: each row of YtiiaingepbkikaaGreatDoorRows.lean that lists a variable, with what it lists TIED to the program's text (the seventh form; the later family's looks); each row that meets fmt, with fmt's text TOLD by the authors' own Lean function (tested against real Go, not proved from fmt's source: count such statements apart). THE CARD IS WHAT COUNTS. Prove the row's statement (the work); the ties are given (YtiiaingepbkikaaGreatDoorTie.lean); close each card by the builder's one call (the guide's Derived/Test/ToyasCard.lean, 'card_holds'). Laid BY PROGRAM, IN A SANDBOX (cutbox-door.mjs). By AI agents, Wed Nov 11 2026. No macro, syntax, notation, axiom, sorry.
-/
import Derived.Test.YtiiaingepbkikaaGreatDoorRows
import GoSem.ClaimSeven
namespace Go.Proofs.YtiiaingepbkikaaGreatDoor
namespace Rows

/-- THE TIED CARD OF 'tumblerlaw25.ReportWorlds'. -/
def reportWorldsCard : Claim7 := { stood := { row := reportWorldsRow, standIns := [], harness := (true, "70784e1f47311f8be9b16c3105379154cecb07aa3a29b3decdc8e6f06af79eb9"), looks := false }, kinds := [], alts := [], laidByText := true, laidKinds := [.data, .data, .data], laidTests := true, laidLooks := .later }
def ReportWorldsCardSaid : Prop := Claim7.holds Tryz.pinned (.plain (OpenSpec.ofChange reportWorldsSpec)) reportWorldsCard

/-- THE SECOND FORM's CARD OF 'tumblerlaw25.ReportWorlds'. -/
def reportWorldsUptoCard : Claim7 := { stood := { row := reportWorldsUptoRow, standIns := [], harness := (true, "70784e1f47311f8be9b16c3105379154cecb07aa3a29b3decdc8e6f06af79eb9"), looks := false }, kinds := [], alts := [], laidByText := true, laidKinds := [.data, .data, .data], laidTests := true, laidLooks := .later }
def ReportWorldsUptoCardSaid : Prop := Claim7.holds Tryz.pinned (.plain (OpenSpec.upto reportWorldsSpec)) reportWorldsUptoCard
end Rows
end Go.Proofs.YtiiaingepbkikaaGreatDoor
