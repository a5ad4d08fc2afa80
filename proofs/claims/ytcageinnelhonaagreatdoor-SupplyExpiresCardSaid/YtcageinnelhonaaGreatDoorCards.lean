/-
  DERIVED. GIVEN WITH THE SEED: THE CARDS: each row of YtcageinnelhonaaGreatDoorRows.lean that lists a variable, with what it lists TIED to the program's text (the seventh form; the later family's looks); each row that meets fmt, with fmt's text TOLD by the authors' own Lean function (tested against real Go, not proved from fmt's source: count such statements apart). THE CARD IS WHAT COUNTS. Prove the row's statement (the work); the ties are given (YtcageinnelhonaaGreatDoorTie.lean); close each card by the builder's one call (the guide's Derived/Test/ToyasCard.lean, 'card_holds'). Laid BY PROGRAM, IN A SANDBOX (cutbox-door.mjs). By AI agents, Wed Nov 11 2026. No macro, syntax, notation, axiom, sorry.
-/
import Derived.Test.YtcageinnelhonaaGreatDoorRows
import GoSem.ClaimSeven
namespace Go.Proofs.YtcageinnelhonaaGreatDoor
namespace Rows

/-- THE TIED CARD OF 'specielaw52.SupplyCounts'. -/
def supplyCountsCard : Claim7 := { stood := { row := supplyCountsRow, standIns := [], harness := (true, "24fa5b63376c5aaed4e987cc47d1d03d160866c0e110e9172dd73f397dee5c3f"), looks := false }, kinds := [], alts := [], laidByText := true, laidKinds := [.data, .data, .data, .data], laidTests := true, laidLooks := .later }
def SupplyCountsCardSaid : Prop := Claim7.holds Tryz.pinned (.plain (OpenSpec.ofChange supplyCountsSpec)) supplyCountsCard

/-- THE TIED CARD OF 'specielaw52.SupplyExpires'. -/
def supplyExpiresCard : Claim7 := { stood := { row := supplyExpiresRow, standIns := [], harness := (true, "24fa5b63376c5aaed4e987cc47d1d03d160866c0e110e9172dd73f397dee5c3f"), looks := false }, kinds := [], alts := [], laidByText := true, laidKinds := [.data, .data, .data, .data], laidTests := true, laidLooks := .later }
def SupplyExpiresCardSaid : Prop := Claim7.holds Tryz.pinned (.plain (OpenSpec.ofChange supplyExpiresSpec)) supplyExpiresCard

/-- THE SECOND FORM's CARD OF 'specielaw52.SupplyCounts'. -/
def supplyCountsUptoCard : Claim7 := { stood := { row := supplyCountsUptoRow, standIns := [], harness := (true, "24fa5b63376c5aaed4e987cc47d1d03d160866c0e110e9172dd73f397dee5c3f"), looks := false }, kinds := [], alts := [], laidByText := true, laidKinds := [.data, .data, .data, .data], laidTests := true, laidLooks := .later }
def SupplyCountsUptoCardSaid : Prop := Claim7.holds Tryz.pinned (.plain (OpenSpec.upto supplyCountsSpec)) supplyCountsUptoCard

/-- THE SECOND FORM's CARD OF 'specielaw52.SupplyExpires'. -/
def supplyExpiresUptoCard : Claim7 := { stood := { row := supplyExpiresUptoRow, standIns := [], harness := (true, "24fa5b63376c5aaed4e987cc47d1d03d160866c0e110e9172dd73f397dee5c3f"), looks := false }, kinds := [], alts := [], laidByText := true, laidKinds := [.data, .data, .data, .data], laidTests := true, laidLooks := .later }
def SupplyExpiresUptoCardSaid : Prop := Claim7.holds Tryz.pinned (.plain (OpenSpec.upto supplyExpiresSpec)) supplyExpiresUptoCard
end Rows
end Go.Proofs.YtcageinnelhonaaGreatDoor
