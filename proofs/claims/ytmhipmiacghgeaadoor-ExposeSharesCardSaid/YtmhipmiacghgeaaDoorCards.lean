/-
  DERIVED. GIVEN WITH THE SEED: THE CARDS: each row of YtmhipmiacghgeaaDoorRows.lean that lists a variable, with what it lists TIED to the program's text (the seventh form; the later family's looks); each row that meets fmt, with fmt's text TOLD by the authors' own Lean function (tested against real Go, not proved from fmt's source: count such statements apart). THE CARD IS WHAT COUNTS. Prove the row's statement (the work); the ties are given (YtmhipmiacghgeaaDoorTie.lean); close each card by the builder's one call (the guide's Derived/Test/ToyasCard.lean, 'card_holds'). Laid BY PROGRAM, IN A SANDBOX (cutbox-door.mjs). By AI agents, Wed Nov 11 2026. No macro, syntax, notation, axiom, sorry.
-/
import Derived.Test.YtmhipmiacghgeaaDoorRows
import GoSem.ClaimSeven
namespace Go.Proofs.YtmhipmiacghgeaaDoor
namespace Rows

/-- THE TIED CARD OF 'specielaw32.SpendNodes'. -/
def spendNodesCard : Claim7 := { stood := { row := spendNodesRow, standIns := [], harness := (true, "afc94de7de8c734cbe7790e58513fce0c0cd9c42382de69d29bcb109b08524cb"), looks := false }, kinds := [], alts := [], laidByText := true, laidKinds := [.data, .data, .data, .data], laidTests := true, laidLooks := .later }
def SpendNodesCardSaid : Prop := Claim7.holds Tryd.pinned (.plain (OpenSpec.ofChange spendNodesSpec)) spendNodesCard

/-- THE TIED CARD OF 'specielaw33.ExposeShares'. -/
def exposeSharesCard : Claim7 := { stood := { row := exposeSharesRow, standIns := [], harness := (true, "afc94de7de8c734cbe7790e58513fce0c0cd9c42382de69d29bcb109b08524cb"), looks := false }, kinds := [], alts := [], laidByText := true, laidKinds := [.data, .data, .data, .data], laidTests := true, laidLooks := .later }
def ExposeSharesCardSaid : Prop := Claim7.holds Tryd.pinned (.plain (OpenSpec.ofChange exposeSharesSpec)) exposeSharesCard

/-- THE SECOND FORM's CARD OF 'specielaw32.SpendNodes'. -/
def spendNodesUptoCard : Claim7 := { stood := { row := spendNodesUptoRow, standIns := [], harness := (true, "afc94de7de8c734cbe7790e58513fce0c0cd9c42382de69d29bcb109b08524cb"), looks := false }, kinds := [], alts := [], laidByText := true, laidKinds := [.data, .data, .data, .data], laidTests := true, laidLooks := .later }
def SpendNodesUptoCardSaid : Prop := Claim7.holds Tryd.pinned (.plain (OpenSpec.upto spendNodesSpec)) spendNodesUptoCard

/-- THE SECOND FORM's CARD OF 'specielaw33.ExposeShares'. -/
def exposeSharesUptoCard : Claim7 := { stood := { row := exposeSharesUptoRow, standIns := [], harness := (true, "afc94de7de8c734cbe7790e58513fce0c0cd9c42382de69d29bcb109b08524cb"), looks := false }, kinds := [], alts := [], laidByText := true, laidKinds := [.data, .data, .data, .data], laidTests := true, laidLooks := .later }
def ExposeSharesUptoCardSaid : Prop := Claim7.holds Tryd.pinned (.plain (OpenSpec.upto exposeSharesSpec)) exposeSharesUptoCard
end Rows
end Go.Proofs.YtmhipmiacghgeaaDoor
