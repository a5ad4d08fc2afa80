/-
  DERIVED. GIVEN WITH THE SEED: THE CARDS: each row of YtdaaddkipdmajaaGreatDoorRows.lean that lists a variable, with what it lists TIED to the program's text (the seventh form; the later family's looks); each row that meets fmt, with fmt's text TOLD by the authors' own Lean function (tested against real Go, not proved from fmt's source: count such statements apart). THE CARD IS WHAT COUNTS. Prove the row's statement (the work); the ties are given (YtdaaddkipdmajaaGreatDoorTie.lean); close each card by the builder's one call (the guide's Derived/Test/ToyasCard.lean, 'card_holds'). Laid BY PROGRAM, IN A SANDBOX (cutbox-door.mjs). By AI agents, Wed Nov 11 2026. No macro, syntax, notation, axiom, sorry.
-/
import Derived.Test.YtdaaddkipdmajaaGreatDoorRows
import GoSem.ClaimSeven
namespace Go.Proofs.YtdaaddkipdmajaaGreatDoor
namespace Rows

/-- THE TIED CARD OF 'specielaw32.SpendMakes'. -/
def spendMakesCard : Claim7 := { stood := { row := spendMakesRow, standIns := [], harness := (true, "bda51f25e9e1dfccae9be442733b2de01ed0cea74fb411c6e4978a79486fe72a"), looks := false }, kinds := [], alts := [], laidByText := true, laidKinds := [.data, .data, .data, .data], laidTests := true, laidLooks := .later }
def SpendMakesCardSaid : Prop := Claim7.holds Tryz.pinned (.plain (OpenSpec.ofChange spendMakesSpec)) spendMakesCard

/-- THE TIED CARD OF 'specielaw32.SpendComplete'. -/
def spendCompleteCard : Claim7 := { stood := { row := spendCompleteRow, standIns := [], harness := (true, "bda51f25e9e1dfccae9be442733b2de01ed0cea74fb411c6e4978a79486fe72a"), looks := false }, kinds := [], alts := [], laidByText := true, laidKinds := [.data, .data, .data, .data], laidTests := true, laidLooks := .later }
def SpendCompleteCardSaid : Prop := Claim7.holds Tryz.pinned (.plain (OpenSpec.ofChange spendCompleteSpec)) spendCompleteCard

/-- THE TIED CARD OF 'specielaw53.RogueDoubles'. -/
def rogueDoublesCard : Claim7 := { stood := { row := rogueDoublesRow, standIns := [], harness := (true, "bda51f25e9e1dfccae9be442733b2de01ed0cea74fb411c6e4978a79486fe72a"), looks := false }, kinds := [], alts := [], laidByText := true, laidKinds := [.data, .data, .data, .data], laidTests := true, laidLooks := .later }
def RogueDoublesCardSaid : Prop := Claim7.holds Tryz.pinned (.plain (OpenSpec.ofChange rogueDoublesSpec)) rogueDoublesCard

/-- THE TIED CARD OF 'specielaw35.ChainStarts'. -/
def chainStartsCard : Claim7 := { stood := { row := chainStartsRow, standIns := [], harness := (true, "bda51f25e9e1dfccae9be442733b2de01ed0cea74fb411c6e4978a79486fe72a"), looks := false }, kinds := [], alts := [], laidByText := true, laidKinds := [.data, .data, .data, .data], laidTests := true, laidLooks := .later }
def ChainStartsCardSaid : Prop := Claim7.holds Tryz.pinned (.plain (OpenSpec.ofChange chainStartsSpec)) chainStartsCard

/-- THE TIED CARD OF 'specielaw33.ExposeVerifies'. -/
def exposeVerifiesCard : Claim7 := { stood := { row := exposeVerifiesRow, standIns := [], harness := (true, "bda51f25e9e1dfccae9be442733b2de01ed0cea74fb411c6e4978a79486fe72a"), looks := false }, kinds := [], alts := [], laidByText := true, laidKinds := [.data, .data, .data, .data], laidTests := true, laidLooks := .later }
def ExposeVerifiesCardSaid : Prop := Claim7.holds Tryz.pinned (.plain (OpenSpec.ofChange exposeVerifiesSpec)) exposeVerifiesCard

/-- THE TIED CARD OF 'specielaw33.ExposeProves'. -/
def exposeProvesCard : Claim7 := { stood := { row := exposeProvesRow, standIns := [], harness := (true, "bda51f25e9e1dfccae9be442733b2de01ed0cea74fb411c6e4978a79486fe72a"), looks := false }, kinds := [], alts := [], laidByText := true, laidKinds := [.data, .data, .data, .data], laidTests := true, laidLooks := .later }
def ExposeProvesCardSaid : Prop := Claim7.holds Tryz.pinned (.plain (OpenSpec.ofChange exposeProvesSpec)) exposeProvesCard

/-- THE TIED CARD OF 'specielaw33.ExposeStrangers'. -/
def exposeStrangersCard : Claim7 := { stood := { row := exposeStrangersRow, standIns := [], harness := (true, "bda51f25e9e1dfccae9be442733b2de01ed0cea74fb411c6e4978a79486fe72a"), looks := false }, kinds := [], alts := [], laidByText := true, laidKinds := [.data, .data, .data, .data], laidTests := true, laidLooks := .later }
def ExposeStrangersCardSaid : Prop := Claim7.holds Tryz.pinned (.plain (OpenSpec.ofChange exposeStrangersSpec)) exposeStrangersCard

/-- THE TIED CARD OF 'specielaw53.RogueAccuses'. -/
def rogueAccusesCard : Claim7 := { stood := { row := rogueAccusesRow, standIns := [], harness := (true, "bda51f25e9e1dfccae9be442733b2de01ed0cea74fb411c6e4978a79486fe72a"), looks := false }, kinds := [], alts := [], laidByText := true, laidKinds := [.data, .data, .data, .data], laidTests := true, laidLooks := .later }
def RogueAccusesCardSaid : Prop := Claim7.holds Tryz.pinned (.plain (OpenSpec.ofChange rogueAccusesSpec)) rogueAccusesCard

/-- THE SECOND FORM's CARD OF 'specielaw32.SpendMakes'. -/
def spendMakesUptoCard : Claim7 := { stood := { row := spendMakesUptoRow, standIns := [], harness := (true, "bda51f25e9e1dfccae9be442733b2de01ed0cea74fb411c6e4978a79486fe72a"), looks := false }, kinds := [], alts := [], laidByText := true, laidKinds := [.data, .data, .data, .data], laidTests := true, laidLooks := .later }
def SpendMakesUptoCardSaid : Prop := Claim7.holds Tryz.pinned (.plain (OpenSpec.upto spendMakesSpec)) spendMakesUptoCard

/-- THE SECOND FORM's CARD OF 'specielaw32.SpendComplete'. -/
def spendCompleteUptoCard : Claim7 := { stood := { row := spendCompleteUptoRow, standIns := [], harness := (true, "bda51f25e9e1dfccae9be442733b2de01ed0cea74fb411c6e4978a79486fe72a"), looks := false }, kinds := [], alts := [], laidByText := true, laidKinds := [.data, .data, .data, .data], laidTests := true, laidLooks := .later }
def SpendCompleteUptoCardSaid : Prop := Claim7.holds Tryz.pinned (.plain (OpenSpec.upto spendCompleteSpec)) spendCompleteUptoCard

/-- THE SECOND FORM's CARD OF 'specielaw53.RogueDoubles'. -/
def rogueDoublesUptoCard : Claim7 := { stood := { row := rogueDoublesUptoRow, standIns := [], harness := (true, "bda51f25e9e1dfccae9be442733b2de01ed0cea74fb411c6e4978a79486fe72a"), looks := false }, kinds := [], alts := [], laidByText := true, laidKinds := [.data, .data, .data, .data], laidTests := true, laidLooks := .later }
def RogueDoublesUptoCardSaid : Prop := Claim7.holds Tryz.pinned (.plain (OpenSpec.upto rogueDoublesSpec)) rogueDoublesUptoCard

/-- THE SECOND FORM's CARD OF 'specielaw35.ChainStarts'. -/
def chainStartsUptoCard : Claim7 := { stood := { row := chainStartsUptoRow, standIns := [], harness := (true, "bda51f25e9e1dfccae9be442733b2de01ed0cea74fb411c6e4978a79486fe72a"), looks := false }, kinds := [], alts := [], laidByText := true, laidKinds := [.data, .data, .data, .data], laidTests := true, laidLooks := .later }
def ChainStartsUptoCardSaid : Prop := Claim7.holds Tryz.pinned (.plain (OpenSpec.upto chainStartsSpec)) chainStartsUptoCard

/-- THE SECOND FORM's CARD OF 'specielaw33.ExposeVerifies'. -/
def exposeVerifiesUptoCard : Claim7 := { stood := { row := exposeVerifiesUptoRow, standIns := [], harness := (true, "bda51f25e9e1dfccae9be442733b2de01ed0cea74fb411c6e4978a79486fe72a"), looks := false }, kinds := [], alts := [], laidByText := true, laidKinds := [.data, .data, .data, .data], laidTests := true, laidLooks := .later }
def ExposeVerifiesUptoCardSaid : Prop := Claim7.holds Tryz.pinned (.plain (OpenSpec.upto exposeVerifiesSpec)) exposeVerifiesUptoCard

/-- THE SECOND FORM's CARD OF 'specielaw33.ExposeProves'. -/
def exposeProvesUptoCard : Claim7 := { stood := { row := exposeProvesUptoRow, standIns := [], harness := (true, "bda51f25e9e1dfccae9be442733b2de01ed0cea74fb411c6e4978a79486fe72a"), looks := false }, kinds := [], alts := [], laidByText := true, laidKinds := [.data, .data, .data, .data], laidTests := true, laidLooks := .later }
def ExposeProvesUptoCardSaid : Prop := Claim7.holds Tryz.pinned (.plain (OpenSpec.upto exposeProvesSpec)) exposeProvesUptoCard

/-- THE SECOND FORM's CARD OF 'specielaw33.ExposeStrangers'. -/
def exposeStrangersUptoCard : Claim7 := { stood := { row := exposeStrangersUptoRow, standIns := [], harness := (true, "bda51f25e9e1dfccae9be442733b2de01ed0cea74fb411c6e4978a79486fe72a"), looks := false }, kinds := [], alts := [], laidByText := true, laidKinds := [.data, .data, .data, .data], laidTests := true, laidLooks := .later }
def ExposeStrangersUptoCardSaid : Prop := Claim7.holds Tryz.pinned (.plain (OpenSpec.upto exposeStrangersSpec)) exposeStrangersUptoCard

/-- THE SECOND FORM's CARD OF 'specielaw53.RogueAccuses'. -/
def rogueAccusesUptoCard : Claim7 := { stood := { row := rogueAccusesUptoRow, standIns := [], harness := (true, "bda51f25e9e1dfccae9be442733b2de01ed0cea74fb411c6e4978a79486fe72a"), looks := false }, kinds := [], alts := [], laidByText := true, laidKinds := [.data, .data, .data, .data], laidTests := true, laidLooks := .later }
def RogueAccusesUptoCardSaid : Prop := Claim7.holds Tryz.pinned (.plain (OpenSpec.upto rogueAccusesSpec)) rogueAccusesUptoCard
end Rows
end Go.Proofs.YtdaaddkipdmajaaGreatDoor
