/-
  No cell of these rows narrows 'for every input' (looked for: loops, veiled, ifaces, maps, wideKeys, modest, calm, conditions, laid).
  DERIVED. THE GIVEN ROWS OF THIS SEAT. 3 by the template 'for every input the law returns true; each argument reads behind the call as it read before'; 0 by the template 'total and deterministic' (their statements: YtehcijjdibdljaaTotals.lean).
  GIVEN WITH THE SEED: the statements are not yours to turn. If you find one false, say at which input.
  Laid BY PROGRAM, IN A SANDBOX (cutbox-rows.mjs): the forced cells as the released guide's own fill.sh prints them over the translation 22ebe01ee6459c66… (all of the seat's roots in one cut). By AI agents, Wed Nov 11 2026. No macro, syntax, notation, axiom, sorry.
-/
import Derived.Test.YtehcijjdibdljaaChecked
import GoSem.Claim
import GoSem.ClaimJoined
import GoSem.ClaimMapViews
import Derived.JoinedTies
import Derived.KernelRfl
namespace Go.Proofs.Ytehcijjdibdljaa
/- THE CELL 'sum', in the pinned program and in every row, IS THE sha256 OF THE DUMP (.gsa) THAT YtehcijjdibdljaaProg.lean LOADS. Nothing in Lean hashes anything: it is a label: what it is worth is what the hold of that sum in a sandbox is worth. -/
noncomputable def Try.pinned : Pinned := { name := "ytehcijjdibdljaa", sum := "22ebe01ee6459c663f09c859d97a770a69fb70f67882240bf489ce2e0aaf2fc9", checked := Try.checked }
namespace Rows
def none {H : Type} : Left H := { results := [], args := [] }

/-- 'specielaw32.SpendHalves': WHATEVER THE INPUT: true; the input reads as it did. -/
def spendHalvesSpec : ChangeSpec := { name := "spendHalves", fn := fun _ => fun
  | [d1, d2, d3] => { results := [.lit (.bool true)], args := [d1, d2, d3] }
  | _ => none }
def spendHalvesRow : OpenClaim := { program := "ytehcijjdibdljaa", sum := "22ebe01ee6459c663f09c859d97a770a69fb70f67882240bf489ce2e0aaf2fc9", func := "specie/specielaw32.SpendHalves", spec := "spendHalves", apart := false }
def SpendHalvesSaid : Prop := spendHalvesRow.holds Try.pinned (OpenSpec.ofChange spendHalvesSpec)

/-- ITS FALSE NEIGHBOUR: 'it returns false'. Refute it at one input. -/
def spendHalvesWrong : ChangeSpec := { name := "spendHalves", fn := fun _ => fun
  | [d1, d2, d3] => { results := [.lit (.bool false)], args := [d1, d2, d3] }
  | _ => none }
def SpendHalvesWrongFalsely : Prop := spendHalvesRow.holds Try.pinned (OpenSpec.ofChange spendHalvesWrong)

/-- 'specielaw53.RogueAlters': WHATEVER THE INPUT: true; the input reads as it did. -/
def rogueAltersSpec : ChangeSpec := { name := "rogueAlters", fn := fun _ => fun
  | [d1, d2, d3] => { results := [.lit (.bool true)], args := [d1, d2, d3] }
  | _ => none }
def rogueAltersRow : OpenClaim := { program := "ytehcijjdibdljaa", sum := "22ebe01ee6459c663f09c859d97a770a69fb70f67882240bf489ce2e0aaf2fc9", func := "specie/specielaw53.RogueAlters", spec := "rogueAlters", unfollowed := true, recurses := true, apart := false }
def RogueAltersSaid : Prop := rogueAltersRow.holds Try.pinned (OpenSpec.ofChange rogueAltersSpec)

/-- ITS FALSE NEIGHBOUR: 'it returns false'. Refute it at one input. -/
def rogueAltersWrong : ChangeSpec := { name := "rogueAlters", fn := fun _ => fun
  | [d1, d2, d3] => { results := [.lit (.bool false)], args := [d1, d2, d3] }
  | _ => none }
def RogueAltersWrongFalsely : Prop := rogueAltersRow.holds Try.pinned (OpenSpec.ofChange rogueAltersWrong)

/-- 'specielaw53.RogueReplays': WHATEVER THE INPUT: true; the input reads as it did. -/
def rogueReplaysSpec : ChangeSpec := { name := "rogueReplays", fn := fun _ => fun
  | [d1, d2] => { results := [.lit (.bool true)], args := [d1, d2] }
  | _ => none }
def rogueReplaysRow : OpenClaim := { program := "ytehcijjdibdljaa", sum := "22ebe01ee6459c663f09c859d97a770a69fb70f67882240bf489ce2e0aaf2fc9", func := "specie/specielaw53.RogueReplays", spec := "rogueReplays", unfollowed := true, recurses := true, apart := false }
def RogueReplaysSaid : Prop := rogueReplaysRow.holds Try.pinned (OpenSpec.ofChange rogueReplaysSpec)

/-- ITS FALSE NEIGHBOUR: 'it returns false'. Refute it at one input. -/
def rogueReplaysWrong : ChangeSpec := { name := "rogueReplays", fn := fun _ => fun
  | [d1, d2] => { results := [.lit (.bool false)], args := [d1, d2] }
  | _ => none }
def RogueReplaysWrongFalsely : Prop := rogueReplaysRow.holds Try.pinned (OpenSpec.ofChange rogueReplaysWrong)

/- THE SECOND FORM. 'bulk': how many values and letters a reading holds, each counted each time it is reached (what is shared counts as often as it is met; a slice's spare places count too). A statement '..UptoSaid' is the law's where the arguments, and the package variables that the reading takes, are together of bulk at most 1048576: NARROWER than '..Said'. Prove '..Said' where nothing that the law and all that it calls make is longer than what came in: it says more and counts as full. Else prove '..UptoSaid'. A law counts once. -/
mutual
def uptoBulk {H : Type} : DataW H → Nat
  | .lit (.string bytes) => bytes.length + 1
  | .lit _ => 1
  | .nil => 1
  | .ptr d => uptoBulk d + 1
  | .slice elems spare => uptoBulkAll elems + uptoBulkAll spare + 1
  | .agg parts => uptoBulkAll parts + 1
  | .iface _ d => uptoBulk d + 1
  | .map entries => uptoBulkEntries entries + 1
  | .held _ => 1
def uptoBulkAll {H : Type} : List (DataW H) → Nat
  | [] => 0
  | d :: r => uptoBulk d + uptoBulkAll r
def uptoBulkEntries {H : Type} : List (Lit × DataW H) → Nat
  | [] => 0
  | x :: r => uptoBulkEntry x + uptoBulkEntries r
def uptoBulkEntry {H : Type} : Lit × DataW H → Nat
  | (.string bytes, d) => bytes.length + uptoBulk d + 1
  | (_, d) => uptoBulk d + 1
 end
def uptoSmall : (H : Type) → List (DataW H) → Bool := fun _ ds => decide (uptoBulkAll ds ≤ 1048576)
def OpenSpec.upto (s : _root_.Go.ChangeSpec) : _root_.Go.OpenSpec := { _root_.Go.OpenSpec.ofChange s with cond := some uptoSmall }

/-- 'specielaw32.SpendHalves', WHERE WHAT IT READS IS OF BULK AT MOST 1048576: true; the input reads as it did. -/
def spendHalvesUptoRow : OpenClaim := { program := "ytehcijjdibdljaa", sum := "22ebe01ee6459c663f09c859d97a770a69fb70f67882240bf489ce2e0aaf2fc9", func := "specie/specielaw32.SpendHalves", spec := "spendHalves", apart := false, narrowed := true }
def SpendHalvesUptoSaid : Prop := spendHalvesUptoRow.holds Try.pinned (OpenSpec.upto spendHalvesSpec)

/-- 'specielaw53.RogueAlters', WHERE WHAT IT READS IS OF BULK AT MOST 1048576: true; the input reads as it did. -/
def rogueAltersUptoRow : OpenClaim := { program := "ytehcijjdibdljaa", sum := "22ebe01ee6459c663f09c859d97a770a69fb70f67882240bf489ce2e0aaf2fc9", func := "specie/specielaw53.RogueAlters", spec := "rogueAlters", unfollowed := true, recurses := true, apart := false, narrowed := true }
def RogueAltersUptoSaid : Prop := rogueAltersUptoRow.holds Try.pinned (OpenSpec.upto rogueAltersSpec)

/-- 'specielaw53.RogueReplays', WHERE WHAT IT READS IS OF BULK AT MOST 1048576: true; the input reads as it did. -/
def rogueReplaysUptoRow : OpenClaim := { program := "ytehcijjdibdljaa", sum := "22ebe01ee6459c663f09c859d97a770a69fb70f67882240bf489ce2e0aaf2fc9", func := "specie/specielaw53.RogueReplays", spec := "rogueReplays", unfollowed := true, recurses := true, apart := false, narrowed := true }
def RogueReplaysUptoSaid : Prop := rogueReplaysUptoRow.holds Try.pinned (OpenSpec.upto rogueReplaysSpec)

end Rows
end Go.Proofs.Ytehcijjdibdljaa
