/-
  DERIVED. GIVEN WITH THE SEED: THE CARDS: each row of YtmhipmiacghgeaaGreatDoorRows.lean that lists a variable, with what it lists TIED to the program's text (the seventh form; the later family's looks); each row that meets fmt, with fmt's text TOLD by the authors' own Lean function (tested against real Go, not proved from fmt's source: count such statements apart). THE CARD IS WHAT COUNTS. Prove the row's statement (the work); the ties are given (YtmhipmiacghgeaaGreatDoorTie.lean); close each card by the builder's one call (the guide's Derived/Test/ToyasCard.lean, 'card_holds'). Laid BY PROGRAM, IN A SANDBOX (cutbox-door.mjs). By AI agents, Wed Nov 11 2026. No macro, syntax, notation, axiom, sorry.
-/
import Derived.Test.YtmhipmiacghgeaaGreatDoorRows
import GoSem.ClaimSeven
namespace Go.Proofs.YtmhipmiacghgeaaGreatDoor
namespace Rows

/-- THE TIED CARD OF 'specielaw35.ChainContexts'. -/
def chainContextsCard : Claim7 := { stood := { row := chainContextsRow, standIns := [], harness := (true, "4d36cd05ed5aebdf299d9da6a00ddbbb2514ffc2dc11844feff9cd135c42f66f"), looks := false }, kinds := [], alts := [], laidByText := true, laidKinds := [.data, .data, .data, .data], laidTests := true, laidLooks := .later }
def ChainContextsCardSaid : Prop := Claim7.holds Tryz.pinned (.plain (OpenSpec.ofChange chainContextsSpec)) chainContextsCard

/-- THE TIED CARD OF 'specielaw33.ExposeSecrets'. -/
def exposeSecretsCard : Claim7 := { stood := { row := exposeSecretsRow, standIns := [], harness := (true, "4d36cd05ed5aebdf299d9da6a00ddbbb2514ffc2dc11844feff9cd135c42f66f"), looks := false }, kinds := [], alts := [], laidByText := true, laidKinds := [.data, .data, .data, .data], laidTests := true, laidLooks := .later }
def ExposeSecretsCardSaid : Prop := Claim7.holds Tryz.pinned (.plain (OpenSpec.ofChange exposeSecretsSpec)) exposeSecretsCard

/-- THE TIED CARD OF 'specielaw53.RogueClaims'. -/
def rogueClaimsCard : Claim7 := { stood := { row := rogueClaimsRow, standIns := [], harness := (true, "4d36cd05ed5aebdf299d9da6a00ddbbb2514ffc2dc11844feff9cd135c42f66f"), looks := false }, kinds := [], alts := [], laidByText := true, laidKinds := [.data, .data, .data, .data], laidTests := true, laidLooks := .later }
def RogueClaimsCardSaid : Prop := Claim7.holds Tryz.pinned (.plain (OpenSpec.ofChange rogueClaimsSpec)) rogueClaimsCard

/-- THE TIED CARD OF 'specielaw33.ExposeFits'. -/
def exposeFitsCard : Claim7 := { stood := { row := exposeFitsRow, standIns := [], harness := (true, "4d36cd05ed5aebdf299d9da6a00ddbbb2514ffc2dc11844feff9cd135c42f66f"), looks := false }, kinds := [], alts := [], laidByText := true, laidKinds := [.data, .data, .data, .data], laidTests := true, laidLooks := .later }
def ExposeFitsCardSaid : Prop := Claim7.holds Tryz.pinned (.plain (OpenSpec.ofChange exposeFitsSpec)) exposeFitsCard

/-- THE SECOND FORM's CARD OF 'specielaw35.ChainContexts'. -/
def chainContextsUptoCard : Claim7 := { stood := { row := chainContextsUptoRow, standIns := [], harness := (true, "4d36cd05ed5aebdf299d9da6a00ddbbb2514ffc2dc11844feff9cd135c42f66f"), looks := false }, kinds := [], alts := [], laidByText := true, laidKinds := [.data, .data, .data, .data], laidTests := true, laidLooks := .later }
def ChainContextsUptoCardSaid : Prop := Claim7.holds Tryz.pinned (.plain (OpenSpec.upto chainContextsSpec)) chainContextsUptoCard

/-- THE SECOND FORM's CARD OF 'specielaw33.ExposeSecrets'. -/
def exposeSecretsUptoCard : Claim7 := { stood := { row := exposeSecretsUptoRow, standIns := [], harness := (true, "4d36cd05ed5aebdf299d9da6a00ddbbb2514ffc2dc11844feff9cd135c42f66f"), looks := false }, kinds := [], alts := [], laidByText := true, laidKinds := [.data, .data, .data, .data], laidTests := true, laidLooks := .later }
def ExposeSecretsUptoCardSaid : Prop := Claim7.holds Tryz.pinned (.plain (OpenSpec.upto exposeSecretsSpec)) exposeSecretsUptoCard

/-- THE SECOND FORM's CARD OF 'specielaw53.RogueClaims'. -/
def rogueClaimsUptoCard : Claim7 := { stood := { row := rogueClaimsUptoRow, standIns := [], harness := (true, "4d36cd05ed5aebdf299d9da6a00ddbbb2514ffc2dc11844feff9cd135c42f66f"), looks := false }, kinds := [], alts := [], laidByText := true, laidKinds := [.data, .data, .data, .data], laidTests := true, laidLooks := .later }
def RogueClaimsUptoCardSaid : Prop := Claim7.holds Tryz.pinned (.plain (OpenSpec.upto rogueClaimsSpec)) rogueClaimsUptoCard

/-- THE SECOND FORM's CARD OF 'specielaw33.ExposeFits'. -/
def exposeFitsUptoCard : Claim7 := { stood := { row := exposeFitsUptoRow, standIns := [], harness := (true, "4d36cd05ed5aebdf299d9da6a00ddbbb2514ffc2dc11844feff9cd135c42f66f"), looks := false }, kinds := [], alts := [], laidByText := true, laidKinds := [.data, .data, .data, .data], laidTests := true, laidLooks := .later }
def ExposeFitsUptoCardSaid : Prop := Claim7.holds Tryz.pinned (.plain (OpenSpec.upto exposeFitsSpec)) exposeFitsUptoCard
end Rows
end Go.Proofs.YtmhipmiacghgeaaGreatDoor
