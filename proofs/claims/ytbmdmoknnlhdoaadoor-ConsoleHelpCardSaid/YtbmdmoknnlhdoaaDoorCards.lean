/-
  DERIVED. GIVEN WITH THE SEED: THE CARDS: each row of YtbmdmoknnlhdoaaDoorRows.lean that lists a variable, with what it lists TIED to the program's text (the seventh form; the later family's looks); each row that meets fmt, with fmt's text TOLD by the authors' own Lean function (tested against real Go, not proved from fmt's source: count such statements apart). THE CARD IS WHAT COUNTS. Prove the row's statement (the work); the ties are given (YtbmdmoknnlhdoaaDoorTie.lean); close each card by the builder's one call (the guide's Derived/Test/ToyasCard.lean, 'card_holds'). Laid BY PROGRAM, IN A SANDBOX (cutbox-door.mjs). By AI agents, Wed Nov 11 2026. No macro, syntax, notation, axiom, sorry.
-/
import Derived.Test.YtbmdmoknnlhdoaaDoorRows
import GoSem.ClaimSeven
namespace Go.Proofs.YtbmdmoknnlhdoaaDoor
namespace Rows

/-- THE TIED CARD OF 'specielaw55.ConsoleForms'. -/
def consoleFormsCard : Claim7 := { stood := { row := consoleFormsRow, standIns := [], harness := (true, "54934613c13b1d9b3bdbfd5f9311923a1f2c33747980c00dea6217234bc9e923"), looks := true }, kinds := [], alts := [], laidByText := true, laidKinds := [.data, .data, .data, .data, .sentinel, .sentinel, .listed, .data, .pinned], laidTests := true, laidLooks := .later }
def ConsoleFormsCardSaid : Prop := Claim7.holds Tryd.pinned (.plain (OpenSpec.ofChange consoleFormsSpec)) consoleFormsCard

/-- THE TIED CARD OF 'specielaw55.ConsoleHelp'. -/
def consoleHelpCard : Claim7 := { stood := { row := consoleHelpRow, standIns := [], harness := (true, "54934613c13b1d9b3bdbfd5f9311923a1f2c33747980c00dea6217234bc9e923"), looks := true }, kinds := [], alts := [], laidByText := true, laidKinds := [.data, .data, .data, .data, .sentinel, .sentinel, .listed, .data, .pinned], laidTests := true, laidLooks := .later }
def ConsoleHelpCardSaid : Prop := Claim7.holds Tryd.pinned (.plain (OpenSpec.ofChange consoleHelpSpec)) consoleHelpCard

/-- THE TIED CARD OF 'specielaw55.ConsoleScripts'. -/
def consoleScriptsCard : Claim7 := { stood := { row := consoleScriptsRow, standIns := [], harness := (true, "54934613c13b1d9b3bdbfd5f9311923a1f2c33747980c00dea6217234bc9e923"), looks := true }, kinds := [], alts := [], laidByText := true, laidKinds := [.data, .data, .data, .data, .sentinel, .sentinel, .listed, .data, .pinned], laidTests := true, laidLooks := .later }
def ConsoleScriptsCardSaid : Prop := Claim7.holds Tryd.pinned (.plain (OpenSpec.ofChange consoleScriptsSpec)) consoleScriptsCard

/-- THE TIED CARD OF 'specielaw55.ConsoleBack'. -/
def consoleBackCard : Claim7 := { stood := { row := consoleBackRow, standIns := [], harness := (true, "54934613c13b1d9b3bdbfd5f9311923a1f2c33747980c00dea6217234bc9e923"), looks := true }, kinds := [], alts := [], laidByText := true, laidKinds := [.data, .data, .data, .data, .sentinel, .sentinel, .listed, .data, .pinned], laidTests := true, laidLooks := .later }
def ConsoleBackCardSaid : Prop := Claim7.holds Tryd.pinned (.plain (OpenSpec.ofChange consoleBackSpec)) consoleBackCard

/-- THE TIED CARD OF 'specielaw55.ConsoleBlanks'. -/
def consoleBlanksCard : Claim7 := { stood := { row := consoleBlanksRow, standIns := [], harness := (true, "54934613c13b1d9b3bdbfd5f9311923a1f2c33747980c00dea6217234bc9e923"), looks := true }, kinds := [], alts := [], laidByText := true, laidKinds := [.data, .data, .data, .data, .sentinel, .sentinel, .listed, .data, .pinned], laidTests := true, laidLooks := .later }
def ConsoleBlanksCardSaid : Prop := Claim7.holds Tryd.pinned (.plain (OpenSpec.ofChange consoleBlanksSpec)) consoleBlanksCard

/-- THE SECOND FORM's CARD OF 'specielaw55.ConsoleForms'. -/
def consoleFormsUptoCard : Claim7 := { stood := { row := consoleFormsUptoRow, standIns := [], harness := (true, "54934613c13b1d9b3bdbfd5f9311923a1f2c33747980c00dea6217234bc9e923"), looks := true }, kinds := [], alts := [], laidByText := true, laidKinds := [.data, .data, .data, .data, .sentinel, .sentinel, .listed, .data, .pinned], laidTests := true, laidLooks := .later }
def ConsoleFormsUptoCardSaid : Prop := Claim7.holds Tryd.pinned (.plain (OpenSpec.upto consoleFormsSpec)) consoleFormsUptoCard

/-- THE SECOND FORM's CARD OF 'specielaw55.ConsoleHelp'. -/
def consoleHelpUptoCard : Claim7 := { stood := { row := consoleHelpUptoRow, standIns := [], harness := (true, "54934613c13b1d9b3bdbfd5f9311923a1f2c33747980c00dea6217234bc9e923"), looks := true }, kinds := [], alts := [], laidByText := true, laidKinds := [.data, .data, .data, .data, .sentinel, .sentinel, .listed, .data, .pinned], laidTests := true, laidLooks := .later }
def ConsoleHelpUptoCardSaid : Prop := Claim7.holds Tryd.pinned (.plain (OpenSpec.upto consoleHelpSpec)) consoleHelpUptoCard

/-- THE SECOND FORM's CARD OF 'specielaw55.ConsoleScripts'. -/
def consoleScriptsUptoCard : Claim7 := { stood := { row := consoleScriptsUptoRow, standIns := [], harness := (true, "54934613c13b1d9b3bdbfd5f9311923a1f2c33747980c00dea6217234bc9e923"), looks := true }, kinds := [], alts := [], laidByText := true, laidKinds := [.data, .data, .data, .data, .sentinel, .sentinel, .listed, .data, .pinned], laidTests := true, laidLooks := .later }
def ConsoleScriptsUptoCardSaid : Prop := Claim7.holds Tryd.pinned (.plain (OpenSpec.upto consoleScriptsSpec)) consoleScriptsUptoCard

/-- THE SECOND FORM's CARD OF 'specielaw55.ConsoleBack'. -/
def consoleBackUptoCard : Claim7 := { stood := { row := consoleBackUptoRow, standIns := [], harness := (true, "54934613c13b1d9b3bdbfd5f9311923a1f2c33747980c00dea6217234bc9e923"), looks := true }, kinds := [], alts := [], laidByText := true, laidKinds := [.data, .data, .data, .data, .sentinel, .sentinel, .listed, .data, .pinned], laidTests := true, laidLooks := .later }
def ConsoleBackUptoCardSaid : Prop := Claim7.holds Tryd.pinned (.plain (OpenSpec.upto consoleBackSpec)) consoleBackUptoCard

/-- THE SECOND FORM's CARD OF 'specielaw55.ConsoleBlanks'. -/
def consoleBlanksUptoCard : Claim7 := { stood := { row := consoleBlanksUptoRow, standIns := [], harness := (true, "54934613c13b1d9b3bdbfd5f9311923a1f2c33747980c00dea6217234bc9e923"), looks := true }, kinds := [], alts := [], laidByText := true, laidKinds := [.data, .data, .data, .data, .sentinel, .sentinel, .listed, .data, .pinned], laidTests := true, laidLooks := .later }
def ConsoleBlanksUptoCardSaid : Prop := Claim7.holds Tryd.pinned (.plain (OpenSpec.upto consoleBlanksSpec)) consoleBlanksUptoCard
end Rows
end Go.Proofs.YtbmdmoknnlhdoaaDoor
