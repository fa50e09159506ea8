/-
  No cell of these rows narrows 'for every input' (looked for: loops, veiled, ifaces, maps, wideKeys, modest, calm, conditions, laid).
  DERIVED. THE GIVEN ROWS OF THIS SEAT. 11 by the template 'for every input the law returns true; each argument reads behind the call as it read before'; 0 by the template 'total and deterministic' (their statements: YtjaampgpihicmaaTotals.lean).
  GIVEN WITH THE SEED: the statements are not yours to turn. If you find one false, say at which input.
  Laid BY PROGRAM, IN A SANDBOX (cutbox-rows.mjs): the forced cells as the released guide's own fill.sh prints them over the translation effeac1165697349… (all of the seat's roots in one cut). By AI agents, Wed Nov 11 2026. No macro, syntax, notation, axiom, sorry.
-/
import Derived.Test.YtjaampgpihicmaaChecked
import GoSem.Claim
import GoSem.ClaimJoined
import GoSem.ClaimMapViews
import Derived.JoinedTies
import Derived.KernelRfl
namespace Go.Proofs.Ytjaampgpihicmaa
/- THE CELL 'sum', in the pinned program and in every row, IS THE sha256 OF THE DUMP (.gsa) THAT YtjaampgpihicmaaProg.lean LOADS. Nothing in Lean hashes anything: it is a label: what it is worth is what the hold of that sum in a sandbox is worth. -/
noncomputable def Try.pinned : Pinned := { name := "ytjaampgpihicmaa", sum := "effeac11656973491243d33b35fd936e577d0a7b561db4bc26d94aab3b67bb2b", checked := Try.checked }
namespace Rows
def none {H : Type} : Left H := { results := [], args := [] }

/-- 'primerlaw05.SyntaxParses': WHATEVER THE INPUT: true; the input reads as it did. -/
def syntaxParsesSpec : ChangeSpec := { name := "syntaxParses", fn := fun _ => fun
  | [d] => { results := [.lit (.bool true)], args := [d] }
  | _ => none }
def syntaxParsesRow : OpenClaim := { program := "ytjaampgpihicmaa", sum := "effeac11656973491243d33b35fd936e577d0a7b561db4bc26d94aab3b67bb2b", func := "primer/primerlaw05.SyntaxParses", spec := "syntaxParses", inPlace := ["internal/bytealg.IndexByteString"], unfollowed := true, recurses := true, apart := false }
def SyntaxParsesSaid : Prop := syntaxParsesRow.holds Try.pinned (OpenSpec.ofChange syntaxParsesSpec)

/-- ITS FALSE NEIGHBOUR: 'it returns false'. Refute it at one input. -/
def syntaxParsesWrong : ChangeSpec := { name := "syntaxParses", fn := fun _ => fun
  | [d] => { results := [.lit (.bool false)], args := [d] }
  | _ => none }
def SyntaxParsesWrongFalsely : Prop := syntaxParsesRow.holds Try.pinned (OpenSpec.ofChange syntaxParsesWrong)

/-- 'primerlaw05.SyntaxJoins': WHATEVER THE INPUT: true; the input reads as it did. -/
def syntaxJoinsSpec : ChangeSpec := { name := "syntaxJoins", fn := fun _ => fun
  | [d1, d2] => { results := [.lit (.bool true)], args := [d1, d2] }
  | _ => none }
def syntaxJoinsRow : OpenClaim := { program := "ytjaampgpihicmaa", sum := "effeac11656973491243d33b35fd936e577d0a7b561db4bc26d94aab3b67bb2b", func := "primer/primerlaw05.SyntaxJoins", spec := "syntaxJoins", inPlace := ["internal/bytealg.IndexByteString"], unfollowed := true, recurses := true, apart := false }
def SyntaxJoinsSaid : Prop := syntaxJoinsRow.holds Try.pinned (OpenSpec.ofChange syntaxJoinsSpec)

/-- ITS FALSE NEIGHBOUR: 'it returns false'. Refute it at one input. -/
def syntaxJoinsWrong : ChangeSpec := { name := "syntaxJoins", fn := fun _ => fun
  | [d1, d2] => { results := [.lit (.bool false)], args := [d1, d2] }
  | _ => none }
def SyntaxJoinsWrongFalsely : Prop := syntaxJoinsRow.holds Try.pinned (OpenSpec.ofChange syntaxJoinsWrong)

/-- 'primerlaw05.SyntaxBounds': WHATEVER THE INPUT: true; the input reads as it did. -/
def syntaxBoundsSpec : ChangeSpec := { name := "syntaxBounds", fn := fun _ => fun
  | [d1, d2] => { results := [.lit (.bool true)], args := [d1, d2] }
  | _ => none }
def syntaxBoundsRow : OpenClaim := { program := "ytjaampgpihicmaa", sum := "effeac11656973491243d33b35fd936e577d0a7b561db4bc26d94aab3b67bb2b", func := "primer/primerlaw05.SyntaxBounds", spec := "syntaxBounds", inPlace := ["internal/bytealg.IndexByteString"], unfollowed := true, recurses := true, apart := false }
def SyntaxBoundsSaid : Prop := syntaxBoundsRow.holds Try.pinned (OpenSpec.ofChange syntaxBoundsSpec)

/-- ITS FALSE NEIGHBOUR: 'it returns false'. Refute it at one input. -/
def syntaxBoundsWrong : ChangeSpec := { name := "syntaxBounds", fn := fun _ => fun
  | [d1, d2] => { results := [.lit (.bool false)], args := [d1, d2] }
  | _ => none }
def SyntaxBoundsWrongFalsely : Prop := syntaxBoundsRow.holds Try.pinned (OpenSpec.ofChange syntaxBoundsWrong)

/-- 'primerlaw05.SyntaxStart': WHATEVER THE INPUT: true; the input reads as it did. -/
def syntaxStartSpec : ChangeSpec := { name := "syntaxStart", fn := fun _ => fun
  | [d1, d2] => { results := [.lit (.bool true)], args := [d1, d2] }
  | _ => none }
def syntaxStartRow : OpenClaim := { program := "ytjaampgpihicmaa", sum := "effeac11656973491243d33b35fd936e577d0a7b561db4bc26d94aab3b67bb2b", func := "primer/primerlaw05.SyntaxStart", spec := "syntaxStart", inPlace := ["internal/bytealg.IndexByteString"], unfollowed := true, recurses := true, apart := false }
def SyntaxStartSaid : Prop := syntaxStartRow.holds Try.pinned (OpenSpec.ofChange syntaxStartSpec)

/-- ITS FALSE NEIGHBOUR: 'it returns false'. Refute it at one input. -/
def syntaxStartWrong : ChangeSpec := { name := "syntaxStart", fn := fun _ => fun
  | [d1, d2] => { results := [.lit (.bool false)], args := [d1, d2] }
  | _ => none }
def SyntaxStartWrongFalsely : Prop := syntaxStartRow.holds Try.pinned (OpenSpec.ofChange syntaxStartWrong)

/-- 'primerlaw07.SymbolsProblems': WHATEVER THE INPUT: true; the input reads as it did. -/
def symbolsProblemsSpec : ChangeSpec := { name := "symbolsProblems", fn := fun _ => fun
  | [d] => { results := [.lit (.bool true)], args := [d] }
  | _ => none }
def symbolsProblemsRow : OpenClaim := { program := "ytjaampgpihicmaa", sum := "effeac11656973491243d33b35fd936e577d0a7b561db4bc26d94aab3b67bb2b", func := "primer/primerlaw07.SymbolsProblems", spec := "symbolsProblems", inPlace := ["internal/bytealg.IndexByteString"], unfollowed := true, recurses := true, apart := false }
def SymbolsProblemsSaid : Prop := symbolsProblemsRow.holds Try.pinned (OpenSpec.ofChange symbolsProblemsSpec)

/-- ITS FALSE NEIGHBOUR: 'it returns false'. Refute it at one input. -/
def symbolsProblemsWrong : ChangeSpec := { name := "symbolsProblems", fn := fun _ => fun
  | [d] => { results := [.lit (.bool false)], args := [d] }
  | _ => none }
def SymbolsProblemsWrongFalsely : Prop := symbolsProblemsRow.holds Try.pinned (OpenSpec.ofChange symbolsProblemsWrong)

/-- 'primerlaw07.SymbolsAdds': WHATEVER THE INPUT: true; the input reads as it did. -/
def symbolsAddsSpec : ChangeSpec := { name := "symbolsAdds", fn := fun _ => fun
  | [d] => { results := [.lit (.bool true)], args := [d] }
  | _ => none }
def symbolsAddsRow : OpenClaim := { program := "ytjaampgpihicmaa", sum := "effeac11656973491243d33b35fd936e577d0a7b561db4bc26d94aab3b67bb2b", func := "primer/primerlaw07.SymbolsAdds", spec := "symbolsAdds", inPlace := ["internal/bytealg.IndexByteString"], unfollowed := true, recurses := true, apart := false }
def SymbolsAddsSaid : Prop := symbolsAddsRow.holds Try.pinned (OpenSpec.ofChange symbolsAddsSpec)

/-- ITS FALSE NEIGHBOUR: 'it returns false'. Refute it at one input. -/
def symbolsAddsWrong : ChangeSpec := { name := "symbolsAdds", fn := fun _ => fun
  | [d] => { results := [.lit (.bool false)], args := [d] }
  | _ => none }
def SymbolsAddsWrongFalsely : Prop := symbolsAddsRow.holds Try.pinned (OpenSpec.ofChange symbolsAddsWrong)

/-- 'primerlaw07.SymbolsTables': WHATEVER THE INPUT: true; the input reads as it did. -/
def symbolsTablesSpec : ChangeSpec := { name := "symbolsTables", fn := fun _ => fun
  | [d] => { results := [.lit (.bool true)], args := [d] }
  | _ => none }
def symbolsTablesRow : OpenClaim := { program := "ytjaampgpihicmaa", sum := "effeac11656973491243d33b35fd936e577d0a7b561db4bc26d94aab3b67bb2b", func := "primer/primerlaw07.SymbolsTables", spec := "symbolsTables", inPlace := ["internal/bytealg.IndexByteString"], unfollowed := true, recurses := true, apart := false }
def SymbolsTablesSaid : Prop := symbolsTablesRow.holds Try.pinned (OpenSpec.ofChange symbolsTablesSpec)

/-- ITS FALSE NEIGHBOUR: 'it returns false'. Refute it at one input. -/
def symbolsTablesWrong : ChangeSpec := { name := "symbolsTables", fn := fun _ => fun
  | [d] => { results := [.lit (.bool false)], args := [d] }
  | _ => none }
def SymbolsTablesWrongFalsely : Prop := symbolsTablesRow.holds Try.pinned (OpenSpec.ofChange symbolsTablesWrong)

/-- 'primerlaw06.FormatAgain': WHATEVER THE INPUT: true; the input reads as it did. -/
def formatAgainSpec : ChangeSpec := { name := "formatAgain", fn := fun _ => fun
  | [d] => { results := [.lit (.bool true)], args := [d] }
  | _ => none }
def formatAgainRow : OpenClaim := { program := "ytjaampgpihicmaa", sum := "effeac11656973491243d33b35fd936e577d0a7b561db4bc26d94aab3b67bb2b", func := "primer/primerlaw06.FormatAgain", spec := "formatAgain", inPlace := ["internal/bytealg.IndexByteString", "internal/abi.NoEscape", "internal/bytealg.CountString", "internal/bytealg.IndexString"], unfollowed := true, recurses := true, named := ["internal/bytealg.MaxLen"], apart := false }
def FormatAgainSaid : Prop := formatAgainRow.holds Try.pinned (OpenSpec.ofChange formatAgainSpec)

/-- ITS FALSE NEIGHBOUR: 'it returns false'. Refute it at one input. -/
def formatAgainWrong : ChangeSpec := { name := "formatAgain", fn := fun _ => fun
  | [d] => { results := [.lit (.bool false)], args := [d] }
  | _ => none }
def FormatAgainWrongFalsely : Prop := formatAgainRow.holds Try.pinned (OpenSpec.ofChange formatAgainWrong)

/-- 'primerlaw06.FormatBodies': WHATEVER THE INPUT: true; the input reads as it did. -/
def formatBodiesSpec : ChangeSpec := { name := "formatBodies", fn := fun _ => fun
  | [d] => { results := [.lit (.bool true)], args := [d] }
  | _ => none }
def formatBodiesRow : OpenClaim := { program := "ytjaampgpihicmaa", sum := "effeac11656973491243d33b35fd936e577d0a7b561db4bc26d94aab3b67bb2b", func := "primer/primerlaw06.FormatBodies", spec := "formatBodies", inPlace := ["internal/bytealg.IndexByteString", "internal/abi.NoEscape", "internal/bytealg.CountString", "internal/bytealg.IndexString"], unfollowed := true, recurses := true, named := ["internal/bytealg.MaxLen"], apart := false }
def FormatBodiesSaid : Prop := formatBodiesRow.holds Try.pinned (OpenSpec.ofChange formatBodiesSpec)

/-- ITS FALSE NEIGHBOUR: 'it returns false'. Refute it at one input. -/
def formatBodiesWrong : ChangeSpec := { name := "formatBodies", fn := fun _ => fun
  | [d] => { results := [.lit (.bool false)], args := [d] }
  | _ => none }
def FormatBodiesWrongFalsely : Prop := formatBodiesRow.holds Try.pinned (OpenSpec.ofChange formatBodiesWrong)

/-- 'primerlaw06.FormatLines': WHATEVER THE INPUT: true; the input reads as it did. -/
def formatLinesSpec : ChangeSpec := { name := "formatLines", fn := fun _ => fun
  | [d] => { results := [.lit (.bool true)], args := [d] }
  | _ => none }
def formatLinesRow : OpenClaim := { program := "ytjaampgpihicmaa", sum := "effeac11656973491243d33b35fd936e577d0a7b561db4bc26d94aab3b67bb2b", func := "primer/primerlaw06.FormatLines", spec := "formatLines", inPlace := ["internal/bytealg.IndexByteString", "internal/abi.NoEscape", "internal/bytealg.CountString", "internal/bytealg.IndexString", "internal/bytealg.MakeNoZero"], unfollowed := true, recurses := true, named := ["internal/bytealg.MaxLen"], apart := false }
def FormatLinesSaid : Prop := formatLinesRow.holds Try.pinned (OpenSpec.ofChange formatLinesSpec)

/-- ITS FALSE NEIGHBOUR: 'it returns false'. Refute it at one input. -/
def formatLinesWrong : ChangeSpec := { name := "formatLines", fn := fun _ => fun
  | [d] => { results := [.lit (.bool false)], args := [d] }
  | _ => none }
def FormatLinesWrongFalsely : Prop := formatLinesRow.holds Try.pinned (OpenSpec.ofChange formatLinesWrong)

/-- 'primerlaw06.FormatTexts': WHATEVER THE INPUT: true; the input reads as it did. -/
def formatTextsSpec : ChangeSpec := { name := "formatTexts", fn := fun _ => fun
  | [d1, d2] => { results := [.lit (.bool true)], args := [d1, d2] }
  | _ => none }
def formatTextsRow : OpenClaim := { program := "ytjaampgpihicmaa", sum := "effeac11656973491243d33b35fd936e577d0a7b561db4bc26d94aab3b67bb2b", func := "primer/primerlaw06.FormatTexts", spec := "formatTexts", inPlace := ["internal/bytealg.IndexByteString", "internal/abi.NoEscape", "internal/bytealg.CountString", "internal/bytealg.IndexString", "internal/bytealg.MakeNoZero"], unfollowed := true, recurses := true, named := ["internal/bytealg.MaxLen"], apart := false }
def FormatTextsSaid : Prop := formatTextsRow.holds Try.pinned (OpenSpec.ofChange formatTextsSpec)

/-- ITS FALSE NEIGHBOUR: 'it returns false'. Refute it at one input. -/
def formatTextsWrong : ChangeSpec := { name := "formatTexts", fn := fun _ => fun
  | [d1, d2] => { results := [.lit (.bool false)], args := [d1, d2] }
  | _ => none }
def FormatTextsWrongFalsely : Prop := formatTextsRow.holds Try.pinned (OpenSpec.ofChange formatTextsWrong)

/- THE SECOND FORM. 'bulk': how many values and letters a reading holds, each counted each time it is reached (what is shared counts as often as it is met; a slice's spare places count too). A statement '..UptoSaid' is the law's where the arguments, and the package variables that the reading takes, are together of bulk at most 1048576: NARROWER than '..Said'. Prove '..Said' where nothing that the law and all that it calls make is longer than what came in: it says more and counts as full. Else prove '..UptoSaid'. A law counts once. -/
mutual
def uptoBulk {H : Type} : DataW H → Nat
  | .lit (.string bytes) => bytes.length + 1
  | .lit _ => 1
  | .nil => 1
  | .ptr d => uptoBulk d + 1
  | .slice elems spare => uptoBulkAll elems + uptoBulkAll spare + 1
  | .agg parts => uptoBulkAll parts + 1
  | .iface _ d => uptoBulk d + 1
  | .map entries => uptoBulkEntries entries + 1
  | .held _ => 1
def uptoBulkAll {H : Type} : List (DataW H) → Nat
  | [] => 0
  | d :: r => uptoBulk d + uptoBulkAll r
def uptoBulkEntries {H : Type} : List (Lit × DataW H) → Nat
  | [] => 0
  | x :: r => uptoBulkEntry x + uptoBulkEntries r
def uptoBulkEntry {H : Type} : Lit × DataW H → Nat
  | (.string bytes, d) => bytes.length + uptoBulk d + 1
  | (_, d) => uptoBulk d + 1
 end
def uptoSmall : (H : Type) → List (DataW H) → Bool := fun _ ds => decide (uptoBulkAll ds ≤ 1048576)
def OpenSpec.upto (s : _root_.Go.ChangeSpec) : _root_.Go.OpenSpec := { _root_.Go.OpenSpec.ofChange s with cond := some uptoSmall }

/-- 'primerlaw05.SyntaxParses', WHERE WHAT IT READS IS OF BULK AT MOST 1048576: true; the input reads as it did. -/
def syntaxParsesUptoRow : OpenClaim := { program := "ytjaampgpihicmaa", sum := "effeac11656973491243d33b35fd936e577d0a7b561db4bc26d94aab3b67bb2b", func := "primer/primerlaw05.SyntaxParses", spec := "syntaxParses", inPlace := ["internal/bytealg.IndexByteString"], unfollowed := true, recurses := true, apart := false, narrowed := true }
def SyntaxParsesUptoSaid : Prop := syntaxParsesUptoRow.holds Try.pinned (OpenSpec.upto syntaxParsesSpec)

/-- 'primerlaw05.SyntaxJoins', WHERE WHAT IT READS IS OF BULK AT MOST 1048576: true; the input reads as it did. -/
def syntaxJoinsUptoRow : OpenClaim := { program := "ytjaampgpihicmaa", sum := "effeac11656973491243d33b35fd936e577d0a7b561db4bc26d94aab3b67bb2b", func := "primer/primerlaw05.SyntaxJoins", spec := "syntaxJoins", inPlace := ["internal/bytealg.IndexByteString"], unfollowed := true, recurses := true, apart := false, narrowed := true }
def SyntaxJoinsUptoSaid : Prop := syntaxJoinsUptoRow.holds Try.pinned (OpenSpec.upto syntaxJoinsSpec)

/-- 'primerlaw05.SyntaxBounds', WHERE WHAT IT READS IS OF BULK AT MOST 1048576: true; the input reads as it did. -/
def syntaxBoundsUptoRow : OpenClaim := { program := "ytjaampgpihicmaa", sum := "effeac11656973491243d33b35fd936e577d0a7b561db4bc26d94aab3b67bb2b", func := "primer/primerlaw05.SyntaxBounds", spec := "syntaxBounds", inPlace := ["internal/bytealg.IndexByteString"], unfollowed := true, recurses := true, apart := false, narrowed := true }
def SyntaxBoundsUptoSaid : Prop := syntaxBoundsUptoRow.holds Try.pinned (OpenSpec.upto syntaxBoundsSpec)

/-- 'primerlaw05.SyntaxStart', WHERE WHAT IT READS IS OF BULK AT MOST 1048576: true; the input reads as it did. -/
def syntaxStartUptoRow : OpenClaim := { program := "ytjaampgpihicmaa", sum := "effeac11656973491243d33b35fd936e577d0a7b561db4bc26d94aab3b67bb2b", func := "primer/primerlaw05.SyntaxStart", spec := "syntaxStart", inPlace := ["internal/bytealg.IndexByteString"], unfollowed := true, recurses := true, apart := false, narrowed := true }
def SyntaxStartUptoSaid : Prop := syntaxStartUptoRow.holds Try.pinned (OpenSpec.upto syntaxStartSpec)

/-- 'primerlaw07.SymbolsProblems', WHERE WHAT IT READS IS OF BULK AT MOST 1048576: true; the input reads as it did. -/
def symbolsProblemsUptoRow : OpenClaim := { program := "ytjaampgpihicmaa", sum := "effeac11656973491243d33b35fd936e577d0a7b561db4bc26d94aab3b67bb2b", func := "primer/primerlaw07.SymbolsProblems", spec := "symbolsProblems", inPlace := ["internal/bytealg.IndexByteString"], unfollowed := true, recurses := true, apart := false, narrowed := true }
def SymbolsProblemsUptoSaid : Prop := symbolsProblemsUptoRow.holds Try.pinned (OpenSpec.upto symbolsProblemsSpec)

/-- 'primerlaw07.SymbolsAdds', WHERE WHAT IT READS IS OF BULK AT MOST 1048576: true; the input reads as it did. -/
def symbolsAddsUptoRow : OpenClaim := { program := "ytjaampgpihicmaa", sum := "effeac11656973491243d33b35fd936e577d0a7b561db4bc26d94aab3b67bb2b", func := "primer/primerlaw07.SymbolsAdds", spec := "symbolsAdds", inPlace := ["internal/bytealg.IndexByteString"], unfollowed := true, recurses := true, apart := false, narrowed := true }
def SymbolsAddsUptoSaid : Prop := symbolsAddsUptoRow.holds Try.pinned (OpenSpec.upto symbolsAddsSpec)

/-- 'primerlaw07.SymbolsTables', WHERE WHAT IT READS IS OF BULK AT MOST 1048576: true; the input reads as it did. -/
def symbolsTablesUptoRow : OpenClaim := { program := "ytjaampgpihicmaa", sum := "effeac11656973491243d33b35fd936e577d0a7b561db4bc26d94aab3b67bb2b", func := "primer/primerlaw07.SymbolsTables", spec := "symbolsTables", inPlace := ["internal/bytealg.IndexByteString"], unfollowed := true, recurses := true, apart := false, narrowed := true }
def SymbolsTablesUptoSaid : Prop := symbolsTablesUptoRow.holds Try.pinned (OpenSpec.upto symbolsTablesSpec)

/-- 'primerlaw06.FormatAgain', WHERE WHAT IT READS IS OF BULK AT MOST 1048576: true; the input reads as it did. -/
def formatAgainUptoRow : OpenClaim := { program := "ytjaampgpihicmaa", sum := "effeac11656973491243d33b35fd936e577d0a7b561db4bc26d94aab3b67bb2b", func := "primer/primerlaw06.FormatAgain", spec := "formatAgain", inPlace := ["internal/bytealg.IndexByteString", "internal/abi.NoEscape", "internal/bytealg.CountString", "internal/bytealg.IndexString"], unfollowed := true, recurses := true, named := ["internal/bytealg.MaxLen"], apart := false, narrowed := true }
def FormatAgainUptoSaid : Prop := formatAgainUptoRow.holds Try.pinned (OpenSpec.upto formatAgainSpec)

/-- 'primerlaw06.FormatBodies', WHERE WHAT IT READS IS OF BULK AT MOST 1048576: true; the input reads as it did. -/
def formatBodiesUptoRow : OpenClaim := { program := "ytjaampgpihicmaa", sum := "effeac11656973491243d33b35fd936e577d0a7b561db4bc26d94aab3b67bb2b", func := "primer/primerlaw06.FormatBodies", spec := "formatBodies", inPlace := ["internal/bytealg.IndexByteString", "internal/abi.NoEscape", "internal/bytealg.CountString", "internal/bytealg.IndexString"], unfollowed := true, recurses := true, named := ["internal/bytealg.MaxLen"], apart := false, narrowed := true }
def FormatBodiesUptoSaid : Prop := formatBodiesUptoRow.holds Try.pinned (OpenSpec.upto formatBodiesSpec)

/-- 'primerlaw06.FormatLines', WHERE WHAT IT READS IS OF BULK AT MOST 1048576: true; the input reads as it did. -/
def formatLinesUptoRow : OpenClaim := { program := "ytjaampgpihicmaa", sum := "effeac11656973491243d33b35fd936e577d0a7b561db4bc26d94aab3b67bb2b", func := "primer/primerlaw06.FormatLines", spec := "formatLines", inPlace := ["internal/bytealg.IndexByteString", "internal/abi.NoEscape", "internal/bytealg.CountString", "internal/bytealg.IndexString", "internal/bytealg.MakeNoZero"], unfollowed := true, recurses := true, named := ["internal/bytealg.MaxLen"], apart := false, narrowed := true }
def FormatLinesUptoSaid : Prop := formatLinesUptoRow.holds Try.pinned (OpenSpec.upto formatLinesSpec)

/-- 'primerlaw06.FormatTexts', WHERE WHAT IT READS IS OF BULK AT MOST 1048576: true; the input reads as it did. -/
def formatTextsUptoRow : OpenClaim := { program := "ytjaampgpihicmaa", sum := "effeac11656973491243d33b35fd936e577d0a7b561db4bc26d94aab3b67bb2b", func := "primer/primerlaw06.FormatTexts", spec := "formatTexts", inPlace := ["internal/bytealg.IndexByteString", "internal/abi.NoEscape", "internal/bytealg.CountString", "internal/bytealg.IndexString", "internal/bytealg.MakeNoZero"], unfollowed := true, recurses := true, named := ["internal/bytealg.MaxLen"], apart := false, narrowed := true }
def FormatTextsUptoSaid : Prop := formatTextsUptoRow.holds Try.pinned (OpenSpec.upto formatTextsSpec)

end Rows
end Go.Proofs.Ytjaampgpihicmaa
