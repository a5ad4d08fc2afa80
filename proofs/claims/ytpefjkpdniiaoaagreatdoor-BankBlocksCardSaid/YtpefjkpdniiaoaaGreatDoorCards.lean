/-
  DERIVED. GIVEN WITH THE SEED: THE CARDS: each row of YtpefjkpdniiaoaaGreatDoorRows.lean that lists a variable, with what it lists TIED to the program's text (the seventh form; the later family's looks); each row that meets fmt, with fmt's text TOLD by the authors' own Lean function (tested against real Go, not proved from fmt's source: count such statements apart). THE CARD IS WHAT COUNTS. Prove the row's statement (the work); the ties are given (YtpefjkpdniiaoaaGreatDoorTie.lean); close each card by the builder's one call (the guide's Derived/Test/ToyasCard.lean, 'card_holds'). Laid BY PROGRAM, IN A SANDBOX (cutbox-door.mjs). By AI agents, Wed Nov 11 2026. No macro, syntax, notation, axiom, sorry.
-/
import Derived.Test.YtpefjkpdniiaoaaGreatDoorRows
import GoSem.ClaimSeven
namespace Go.Proofs.YtpefjkpdniiaoaaGreatDoor
namespace Rows

/-- THE TIED CARD OF 'specielaw45.BankBlocks'. -/
def bankBlocksCard : Claim7 := { stood := { row := bankBlocksRow, standIns := [], harness := (true, "a8957ca3388797ee20a910207bd2df45197c788b62d3a58923eca3fd07476042"), looks := false }, kinds := [], alts := [], laidByText := true, laidKinds := [.data, .data, .data, .data], laidTests := true, laidLooks := .later }
def BankBlocksCardSaid : Prop := Claim7.holds Tryz.pinned (.plain (OpenSpec.ofChange bankBlocksSpec)) bankBlocksCard

/-- THE SECOND FORM's CARD OF 'specielaw45.BankBlocks'. -/
def bankBlocksUptoCard : Claim7 := { stood := { row := bankBlocksUptoRow, standIns := [], harness := (true, "a8957ca3388797ee20a910207bd2df45197c788b62d3a58923eca3fd07476042"), looks := false }, kinds := [], alts := [], laidByText := true, laidKinds := [.data, .data, .data, .data], laidTests := true, laidLooks := .later }
def BankBlocksUptoCardSaid : Prop := Claim7.holds Tryz.pinned (.plain (OpenSpec.upto bankBlocksSpec)) bankBlocksUptoCard
end Rows
end Go.Proofs.YtpefjkpdniiaoaaGreatDoor
