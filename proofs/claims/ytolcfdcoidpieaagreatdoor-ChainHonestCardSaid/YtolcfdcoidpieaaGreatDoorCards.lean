/-
  DERIVED. GIVEN WITH THE SEED: THE CARDS: each row of YtolcfdcoidpieaaGreatDoorRows.lean that lists a variable, with what it lists TIED to the program's text (the seventh form; the later family's looks); each row that meets fmt, with fmt's text TOLD by the authors' own Lean function (tested against real Go, not proved from fmt's source: count such statements apart). THE CARD IS WHAT COUNTS. Prove the row's statement (the work); the ties are given (YtolcfdcoidpieaaGreatDoorTie.lean); close each card by the builder's one call (the guide's Derived/Test/ToyasCard.lean, 'card_holds'). Laid BY PROGRAM, IN A SANDBOX (cutbox-door.mjs). By AI agents, Wed Nov 11 2026. No macro, syntax, notation, axiom, sorry.
-/
import Derived.Test.YtolcfdcoidpieaaGreatDoorRows
import GoSem.ClaimSeven
namespace Go.Proofs.YtolcfdcoidpieaaGreatDoor
namespace Rows

/-- THE TIED CARD OF 'specielaw35.ChainChecks'. -/
def chainChecksCard : Claim7 := { stood := { row := chainChecksRow, standIns := [], harness := (true, "058a234f3ebe6ed9e24ee0b825d4ed0acdb2bc73610b537e6b449efb964830c7"), looks := false }, kinds := [], alts := [], laidByText := true, laidKinds := [.data, .data, .data, .data], laidTests := true, laidLooks := .later }
def ChainChecksCardSaid : Prop := Claim7.holds Tryz.pinned (.plain (OpenSpec.ofChange chainChecksSpec)) chainChecksCard

/-- THE TIED CARD OF 'specielaw35.ChainCheats'. -/
def chainCheatsCard : Claim7 := { stood := { row := chainCheatsRow, standIns := [], harness := (true, "058a234f3ebe6ed9e24ee0b825d4ed0acdb2bc73610b537e6b449efb964830c7"), looks := false }, kinds := [], alts := [], laidByText := true, laidKinds := [.data, .data, .data, .data], laidTests := true, laidLooks := .later }
def ChainCheatsCardSaid : Prop := Claim7.holds Tryz.pinned (.plain (OpenSpec.ofChange chainCheatsSpec)) chainCheatsCard

/-- THE TIED CARD OF 'specielaw35.ChainPasses'. -/
def chainPassesCard : Claim7 := { stood := { row := chainPassesRow, standIns := [], harness := (true, "058a234f3ebe6ed9e24ee0b825d4ed0acdb2bc73610b537e6b449efb964830c7"), looks := false }, kinds := [], alts := [], laidByText := true, laidKinds := [.data, .data, .data, .data], laidTests := true, laidLooks := .later }
def ChainPassesCardSaid : Prop := Claim7.holds Tryz.pinned (.plain (OpenSpec.ofChange chainPassesSpec)) chainPassesCard

/-- THE TIED CARD OF 'specielaw35.ChainHonest'. -/
def chainHonestCard : Claim7 := { stood := { row := chainHonestRow, standIns := [], harness := (true, "058a234f3ebe6ed9e24ee0b825d4ed0acdb2bc73610b537e6b449efb964830c7"), looks := false }, kinds := [], alts := [], laidByText := true, laidKinds := [.data, .data, .data, .data], laidTests := true, laidLooks := .later }
def ChainHonestCardSaid : Prop := Claim7.holds Tryz.pinned (.plain (OpenSpec.ofChange chainHonestSpec)) chainHonestCard

/-- THE SECOND FORM's CARD OF 'specielaw35.ChainChecks'. -/
def chainChecksUptoCard : Claim7 := { stood := { row := chainChecksUptoRow, standIns := [], harness := (true, "058a234f3ebe6ed9e24ee0b825d4ed0acdb2bc73610b537e6b449efb964830c7"), looks := false }, kinds := [], alts := [], laidByText := true, laidKinds := [.data, .data, .data, .data], laidTests := true, laidLooks := .later }
def ChainChecksUptoCardSaid : Prop := Claim7.holds Tryz.pinned (.plain (OpenSpec.upto chainChecksSpec)) chainChecksUptoCard

/-- THE SECOND FORM's CARD OF 'specielaw35.ChainCheats'. -/
def chainCheatsUptoCard : Claim7 := { stood := { row := chainCheatsUptoRow, standIns := [], harness := (true, "058a234f3ebe6ed9e24ee0b825d4ed0acdb2bc73610b537e6b449efb964830c7"), looks := false }, kinds := [], alts := [], laidByText := true, laidKinds := [.data, .data, .data, .data], laidTests := true, laidLooks := .later }
def ChainCheatsUptoCardSaid : Prop := Claim7.holds Tryz.pinned (.plain (OpenSpec.upto chainCheatsSpec)) chainCheatsUptoCard

/-- THE SECOND FORM's CARD OF 'specielaw35.ChainPasses'. -/
def chainPassesUptoCard : Claim7 := { stood := { row := chainPassesUptoRow, standIns := [], harness := (true, "058a234f3ebe6ed9e24ee0b825d4ed0acdb2bc73610b537e6b449efb964830c7"), looks := false }, kinds := [], alts := [], laidByText := true, laidKinds := [.data, .data, .data, .data], laidTests := true, laidLooks := .later }
def ChainPassesUptoCardSaid : Prop := Claim7.holds Tryz.pinned (.plain (OpenSpec.upto chainPassesSpec)) chainPassesUptoCard

/-- THE SECOND FORM's CARD OF 'specielaw35.ChainHonest'. -/
def chainHonestUptoCard : Claim7 := { stood := { row := chainHonestUptoRow, standIns := [], harness := (true, "058a234f3ebe6ed9e24ee0b825d4ed0acdb2bc73610b537e6b449efb964830c7"), looks := false }, kinds := [], alts := [], laidByText := true, laidKinds := [.data, .data, .data, .data], laidTests := true, laidLooks := .later }
def ChainHonestUptoCardSaid : Prop := Claim7.holds Tryz.pinned (.plain (OpenSpec.upto chainHonestSpec)) chainHonestUptoCard
end Rows
end Go.Proofs.YtolcfdcoidpieaaGreatDoor
