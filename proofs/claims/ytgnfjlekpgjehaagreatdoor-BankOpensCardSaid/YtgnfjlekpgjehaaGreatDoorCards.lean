/-
  DERIVED. GIVEN WITH THE SEED: THE CARDS: each row of YtgnfjlekpgjehaaGreatDoorRows.lean that lists a variable, with what it lists TIED to the program's text (the seventh form; the later family's looks); each row that meets fmt, with fmt's text TOLD by the authors' own Lean function (tested against real Go, not proved from fmt's source: count such statements apart). THE CARD IS WHAT COUNTS. Prove the row's statement (the work); the ties are given (YtgnfjlekpgjehaaGreatDoorTie.lean); close each card by the builder's one call (the guide's Derived/Test/ToyasCard.lean, 'card_holds'). Laid BY PROGRAM, IN A SANDBOX (cutbox-door.mjs). By AI agents, Wed Nov 11 2026. No macro, syntax, notation, axiom, sorry.
-/
import Derived.Test.YtgnfjlekpgjehaaGreatDoorRows
import GoSem.ClaimSeven
namespace Go.Proofs.YtgnfjlekpgjehaaGreatDoor
namespace Rows

/-- THE TIED CARD OF 'specielaw45.BankOpens'. -/
def bankOpensCard : Claim7 := { stood := { row := bankOpensRow, standIns := [], harness := (true, "b5f1b640c4e0c89ab8c6c1bab5c5f6ee5c76e5cbdd3a8ca5e34a3d6fb0bf3213"), looks := false }, kinds := [], alts := [], laidByText := true, laidKinds := [.data, .data, .data, .data], laidTests := true, laidLooks := .later }
def BankOpensCardSaid : Prop := Claim7.holds Tryz.pinned (.plain (OpenSpec.ofChange bankOpensSpec)) bankOpensCard

/-- THE SECOND FORM's CARD OF 'specielaw45.BankOpens'. -/
def bankOpensUptoCard : Claim7 := { stood := { row := bankOpensUptoRow, standIns := [], harness := (true, "b5f1b640c4e0c89ab8c6c1bab5c5f6ee5c76e5cbdd3a8ca5e34a3d6fb0bf3213"), looks := false }, kinds := [], alts := [], laidByText := true, laidKinds := [.data, .data, .data, .data], laidTests := true, laidLooks := .later }
def BankOpensUptoCardSaid : Prop := Claim7.holds Tryz.pinned (.plain (OpenSpec.upto bankOpensSpec)) bankOpensUptoCard
end Rows
end Go.Proofs.YtgnfjlekpgjehaaGreatDoor
