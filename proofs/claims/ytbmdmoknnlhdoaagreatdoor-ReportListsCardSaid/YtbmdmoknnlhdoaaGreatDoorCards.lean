/-
  DERIVED. GIVEN WITH THE SEED: THE CARDS: each row of YtbmdmoknnlhdoaaGreatDoorRows.lean that lists a variable, with what it lists TIED to the program's text (the seventh form; the later family's looks); each row that meets fmt, with fmt's text TOLD by the authors' own Lean function (tested against real Go, not proved from fmt's source: count such statements apart). THE CARD IS WHAT COUNTS. Prove the row's statement (the work); the ties are given (YtbmdmoknnlhdoaaGreatDoorTie.lean); close each card by the builder's one call (the guide's Derived/Test/ToyasCard.lean, 'card_holds'). Laid BY PROGRAM, IN A SANDBOX (cutbox-door.mjs). By AI agents, Wed Nov 11 2026. No macro, syntax, notation, axiom, sorry.
-/
import Derived.Test.YtbmdmoknnlhdoaaGreatDoorRows
import GoSem.ClaimSeven
namespace Go.Proofs.YtbmdmoknnlhdoaaGreatDoor
namespace Rows

/-- THE TIED CARD OF 'specielaw56.ReportLists'. -/
def reportListsCard : Claim7 := { stood := { row := reportListsRow, standIns := [], harness := (true, "618337a3381a6a4ef4b3c8bdd1d98f711783a78af388d7430192c01c2ad82917"), looks := true }, kinds := [], alts := [], laidByText := true, laidKinds := [.data, .data, .data, .data, .data, .data], laidTests := true, laidLooks := .later }
def ReportListsCardSaid : Prop := Claim7.holds Tryz.pinned (.plain (OpenSpec.ofChange reportListsSpec)) reportListsCard

/-- THE TIED CARD OF 'specielaw56.ReportTotals'. -/
def reportTotalsCard : Claim7 := { stood := { row := reportTotalsRow, standIns := [], harness := (true, "618337a3381a6a4ef4b3c8bdd1d98f711783a78af388d7430192c01c2ad82917"), looks := true }, kinds := [], alts := [], laidByText := true, laidKinds := [.data, .data, .data, .data, .sentinel, .sentinel, .data, .pinned], laidTests := true, laidLooks := .later }
def ReportTotalsCardSaid : Prop := Claim7.holds Tryz.pinned (.plain (OpenSpec.ofChange reportTotalsSpec)) reportTotalsCard

/-- THE TIED CARD OF 'specielaw55.ConsoleLines'. -/
def consoleLinesCard : Claim7 := { stood := { row := consoleLinesRow, standIns := [], harness := (true, "618337a3381a6a4ef4b3c8bdd1d98f711783a78af388d7430192c01c2ad82917"), looks := true }, kinds := [], alts := [], laidByText := true, laidKinds := [.data, .data, .data, .data, .data, .sentinel, .sentinel, .listed, .data, .data, .data, .pinned], laidTests := true, laidLooks := .later }
def ConsoleLinesCardSaid : Prop := Claim7.holds Tryz.pinned (.plain (OpenSpec.ofChange consoleLinesSpec)) consoleLinesCard

/-- THE SECOND FORM's CARD OF 'specielaw56.ReportLists'. -/
def reportListsUptoCard : Claim7 := { stood := { row := reportListsUptoRow, standIns := [], harness := (true, "618337a3381a6a4ef4b3c8bdd1d98f711783a78af388d7430192c01c2ad82917"), looks := true }, kinds := [], alts := [], laidByText := true, laidKinds := [.data, .data, .data, .data, .data, .data], laidTests := true, laidLooks := .later }
def ReportListsUptoCardSaid : Prop := Claim7.holds Tryz.pinned (.plain (OpenSpec.upto reportListsSpec)) reportListsUptoCard

/-- THE SECOND FORM's CARD OF 'specielaw56.ReportTotals'. -/
def reportTotalsUptoCard : Claim7 := { stood := { row := reportTotalsUptoRow, standIns := [], harness := (true, "618337a3381a6a4ef4b3c8bdd1d98f711783a78af388d7430192c01c2ad82917"), looks := true }, kinds := [], alts := [], laidByText := true, laidKinds := [.data, .data, .data, .data, .sentinel, .sentinel, .data, .pinned], laidTests := true, laidLooks := .later }
def ReportTotalsUptoCardSaid : Prop := Claim7.holds Tryz.pinned (.plain (OpenSpec.upto reportTotalsSpec)) reportTotalsUptoCard

/-- THE SECOND FORM's CARD OF 'specielaw55.ConsoleLines'. -/
def consoleLinesUptoCard : Claim7 := { stood := { row := consoleLinesUptoRow, standIns := [], harness := (true, "618337a3381a6a4ef4b3c8bdd1d98f711783a78af388d7430192c01c2ad82917"), looks := true }, kinds := [], alts := [], laidByText := true, laidKinds := [.data, .data, .data, .data, .data, .sentinel, .sentinel, .listed, .data, .data, .data, .pinned], laidTests := true, laidLooks := .later }
def ConsoleLinesUptoCardSaid : Prop := Claim7.holds Tryz.pinned (.plain (OpenSpec.upto consoleLinesSpec)) consoleLinesUptoCard
end Rows
end Go.Proofs.YtbmdmoknnlhdoaaGreatDoor
