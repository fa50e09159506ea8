/-
  No cell of these rows narrows 'for every input' (looked for: loops, veiled, ifaces, maps, wideKeys, modest, calm, conditions, laid).
  DERIVED. THE GIVEN ROWS OF THIS SEAT. 6 by the template 'for every input the law returns true; each argument reads behind the call as it read before'; 0 by the template 'total and deterministic' (their statements: YtjhhibnjegnpmaaTotals.lean).
  GIVEN WITH THE SEED: the statements are not yours to turn. If you find one false, say at which input.
  Laid BY PROGRAM, IN A SANDBOX (cutbox-rows.mjs): the forced cells as the released guide's own fill.sh prints them over the translation bd02cb094927622d… (all of the seat's roots in one cut). By AI agents, Wed Nov 11 2026. No macro, syntax, notation, axiom, sorry.
-/
import Derived.Test.YtjhhibnjegnpmaaChecked
import GoSem.Claim
import GoSem.ClaimJoined
import GoSem.ClaimMapViews
import Derived.JoinedTies
import Derived.KernelRfl
namespace Go.Proofs.Ytjhhibnjegnpmaa
/- THE CELL 'sum', in the pinned program and in every row, IS THE sha256 OF THE DUMP (.gsa) THAT YtjhhibnjegnpmaaProg.lean LOADS. Nothing in Lean hashes anything: it is a label: what it is worth is what the hold of that sum in a sandbox is worth. -/
noncomputable def Try.pinned : Pinned := { name := "ytjhhibnjegnpmaa", sum := "bd02cb094927622d6135dec5af64bba6d6e6834644658ead2ba3a55572c6a5a0", checked := Try.checked }
namespace Rows
def none {H : Type} : Left H := { results := [], args := [] }

/-- 'primerlaw04.LexScans': WHATEVER THE INPUT: true; the input reads as it did. -/
def lexScansSpec : ChangeSpec := { name := "lexScans", fn := fun _ => fun
  | [d] => { results := [.lit (.bool true)], args := [d] }
  | _ => none }
def lexScansRow : OpenClaim := { program := "ytjhhibnjegnpmaa", sum := "bd02cb094927622d6135dec5af64bba6d6e6834644658ead2ba3a55572c6a5a0", func := "primer/primerlaw04.LexScans", spec := "lexScans", inPlace := ["internal/bytealg.IndexByteString"], apart := false }
def LexScansSaid : Prop := lexScansRow.holds Try.pinned (OpenSpec.ofChange lexScansSpec)

/-- ITS FALSE NEIGHBOUR: 'it returns false'. Refute it at one input. -/
def lexScansWrong : ChangeSpec := { name := "lexScans", fn := fun _ => fun
  | [d] => { results := [.lit (.bool false)], args := [d] }
  | _ => none }
def LexScansWrongFalsely : Prop := lexScansRow.holds Try.pinned (OpenSpec.ofChange lexScansWrong)

/-- 'primerlaw04.LexJoins': WHATEVER THE INPUT: true; the input reads as it did. -/
def lexJoinsSpec : ChangeSpec := { name := "lexJoins", fn := fun _ => fun
  | [d1, d2] => { results := [.lit (.bool true)], args := [d1, d2] }
  | _ => none }
def lexJoinsRow : OpenClaim := { program := "ytjhhibnjegnpmaa", sum := "bd02cb094927622d6135dec5af64bba6d6e6834644658ead2ba3a55572c6a5a0", func := "primer/primerlaw04.LexJoins", spec := "lexJoins", inPlace := ["internal/bytealg.IndexByteString"], apart := false }
def LexJoinsSaid : Prop := lexJoinsRow.holds Try.pinned (OpenSpec.ofChange lexJoinsSpec)

/-- ITS FALSE NEIGHBOUR: 'it returns false'. Refute it at one input. -/
def lexJoinsWrong : ChangeSpec := { name := "lexJoins", fn := fun _ => fun
  | [d1, d2] => { results := [.lit (.bool false)], args := [d1, d2] }
  | _ => none }
def LexJoinsWrongFalsely : Prop := lexJoinsRow.holds Try.pinned (OpenSpec.ofChange lexJoinsWrong)

/-- 'primerlaw04.LexLong': WHATEVER THE INPUT: true; the input reads as it did. -/
def lexLongSpec : ChangeSpec := { name := "lexLong", fn := fun _ => fun
  | [d] => { results := [.lit (.bool true)], args := [d] }
  | _ => none }
def lexLongRow : OpenClaim := { program := "ytjhhibnjegnpmaa", sum := "bd02cb094927622d6135dec5af64bba6d6e6834644658ead2ba3a55572c6a5a0", func := "primer/primerlaw04.LexLong", spec := "lexLong", inPlace := ["internal/bytealg.IndexByteString"], apart := false }
def LexLongSaid : Prop := lexLongRow.holds Try.pinned (OpenSpec.ofChange lexLongSpec)

/-- ITS FALSE NEIGHBOUR: 'it returns false'. Refute it at one input. -/
def lexLongWrong : ChangeSpec := { name := "lexLong", fn := fun _ => fun
  | [d] => { results := [.lit (.bool false)], args := [d] }
  | _ => none }
def LexLongWrongFalsely : Prop := lexLongRow.holds Try.pinned (OpenSpec.ofChange lexLongWrong)

/-- 'primerlaw04.LexNames': WHATEVER THE INPUT: true; the input reads as it did. -/
def lexNamesSpec : ChangeSpec := { name := "lexNames", fn := fun _ => fun
  | [d] => { results := [.lit (.bool true)], args := [d] }
  | _ => none }
def lexNamesRow : OpenClaim := { program := "ytjhhibnjegnpmaa", sum := "bd02cb094927622d6135dec5af64bba6d6e6834644658ead2ba3a55572c6a5a0", func := "primer/primerlaw04.LexNames", spec := "lexNames", inPlace := ["internal/bytealg.IndexByteString"], apart := false }
def LexNamesSaid : Prop := lexNamesRow.holds Try.pinned (OpenSpec.ofChange lexNamesSpec)

/-- ITS FALSE NEIGHBOUR: 'it returns false'. Refute it at one input. -/
def lexNamesWrong : ChangeSpec := { name := "lexNames", fn := fun _ => fun
  | [d] => { results := [.lit (.bool false)], args := [d] }
  | _ => none }
def LexNamesWrongFalsely : Prop := lexNamesRow.holds Try.pinned (OpenSpec.ofChange lexNamesWrong)

/-- 'primerlaw04.LexQuotes': WHATEVER THE INPUT: true; the input reads as it did. -/
def lexQuotesSpec : ChangeSpec := { name := "lexQuotes", fn := fun _ => fun
  | [d] => { results := [.lit (.bool true)], args := [d] }
  | _ => none }
def lexQuotesRow : OpenClaim := { program := "ytjhhibnjegnpmaa", sum := "bd02cb094927622d6135dec5af64bba6d6e6834644658ead2ba3a55572c6a5a0", func := "primer/primerlaw04.LexQuotes", spec := "lexQuotes", inPlace := ["internal/bytealg.IndexByteString", "internal/bytealg.CountString", "internal/bytealg.IndexString"], named := ["internal/bytealg.MaxLen"], apart := false }
def LexQuotesSaid : Prop := lexQuotesRow.holds Try.pinned (OpenSpec.ofChange lexQuotesSpec)

/-- ITS FALSE NEIGHBOUR: 'it returns false'. Refute it at one input. -/
def lexQuotesWrong : ChangeSpec := { name := "lexQuotes", fn := fun _ => fun
  | [d] => { results := [.lit (.bool false)], args := [d] }
  | _ => none }
def LexQuotesWrongFalsely : Prop := lexQuotesRow.holds Try.pinned (OpenSpec.ofChange lexQuotesWrong)

/-- 'primerlaw04.LexBlank': WHATEVER THE INPUT: true; the input reads as it did. -/
def lexBlankSpec : ChangeSpec := { name := "lexBlank", fn := fun _ => fun
  | [d1, d2] => { results := [.lit (.bool true)], args := [d1, d2] }
  | _ => none }
def lexBlankRow : OpenClaim := { program := "ytjhhibnjegnpmaa", sum := "bd02cb094927622d6135dec5af64bba6d6e6834644658ead2ba3a55572c6a5a0", func := "primer/primerlaw04.LexBlank", spec := "lexBlank", inPlace := ["internal/bytealg.IndexByteString", "internal/bytealg.CountString", "internal/bytealg.IndexString"], named := ["internal/bytealg.MaxLen"], apart := false }
def LexBlankSaid : Prop := lexBlankRow.holds Try.pinned (OpenSpec.ofChange lexBlankSpec)

/-- ITS FALSE NEIGHBOUR: 'it returns false'. Refute it at one input. -/
def lexBlankWrong : ChangeSpec := { name := "lexBlank", fn := fun _ => fun
  | [d1, d2] => { results := [.lit (.bool false)], args := [d1, d2] }
  | _ => none }
def LexBlankWrongFalsely : Prop := lexBlankRow.holds Try.pinned (OpenSpec.ofChange lexBlankWrong)

/- THE SECOND FORM. 'bulk': how many values and letters a reading holds, each counted each time it is reached (what is shared counts as often as it is met; a slice's spare places count too). A statement '..UptoSaid' is the law's where the arguments, and the package variables that the reading takes, are together of bulk at most 1048576: NARROWER than '..Said'. Prove '..Said' where nothing that the law and all that it calls make is longer than what came in: it says more and counts as full. Else prove '..UptoSaid'. A law counts once. -/
mutual
def uptoBulk {H : Type} : DataW H → Nat
  | .lit (.string bytes) => bytes.length + 1
  | .lit _ => 1
  | .nil => 1
  | .ptr d => uptoBulk d + 1
  | .slice elems spare => uptoBulkAll elems + uptoBulkAll spare + 1
  | .agg parts => uptoBulkAll parts + 1
  | .iface _ d => uptoBulk d + 1
  | .map entries => uptoBulkEntries entries + 1
  | .held _ => 1
def uptoBulkAll {H : Type} : List (DataW H) → Nat
  | [] => 0
  | d :: r => uptoBulk d + uptoBulkAll r
def uptoBulkEntries {H : Type} : List (Lit × DataW H) → Nat
  | [] => 0
  | x :: r => uptoBulkEntry x + uptoBulkEntries r
def uptoBulkEntry {H : Type} : Lit × DataW H → Nat
  | (.string bytes, d) => bytes.length + uptoBulk d + 1
  | (_, d) => uptoBulk d + 1
 end
def uptoSmall : (H : Type) → List (DataW H) → Bool := fun _ ds => decide (uptoBulkAll ds ≤ 1048576)
def OpenSpec.upto (s : _root_.Go.ChangeSpec) : _root_.Go.OpenSpec := { _root_.Go.OpenSpec.ofChange s with cond := some uptoSmall }

/-- 'primerlaw04.LexScans', WHERE WHAT IT READS IS OF BULK AT MOST 1048576: true; the input reads as it did. -/
def lexScansUptoRow : OpenClaim := { program := "ytjhhibnjegnpmaa", sum := "bd02cb094927622d6135dec5af64bba6d6e6834644658ead2ba3a55572c6a5a0", func := "primer/primerlaw04.LexScans", spec := "lexScans", inPlace := ["internal/bytealg.IndexByteString"], apart := false, narrowed := true }
def LexScansUptoSaid : Prop := lexScansUptoRow.holds Try.pinned (OpenSpec.upto lexScansSpec)

/-- 'primerlaw04.LexJoins', WHERE WHAT IT READS IS OF BULK AT MOST 1048576: true; the input reads as it did. -/
def lexJoinsUptoRow : OpenClaim := { program := "ytjhhibnjegnpmaa", sum := "bd02cb094927622d6135dec5af64bba6d6e6834644658ead2ba3a55572c6a5a0", func := "primer/primerlaw04.LexJoins", spec := "lexJoins", inPlace := ["internal/bytealg.IndexByteString"], apart := false, narrowed := true }
def LexJoinsUptoSaid : Prop := lexJoinsUptoRow.holds Try.pinned (OpenSpec.upto lexJoinsSpec)

/-- 'primerlaw04.LexLong', WHERE WHAT IT READS IS OF BULK AT MOST 1048576: true; the input reads as it did. -/
def lexLongUptoRow : OpenClaim := { program := "ytjhhibnjegnpmaa", sum := "bd02cb094927622d6135dec5af64bba6d6e6834644658ead2ba3a55572c6a5a0", func := "primer/primerlaw04.LexLong", spec := "lexLong", inPlace := ["internal/bytealg.IndexByteString"], apart := false, narrowed := true }
def LexLongUptoSaid : Prop := lexLongUptoRow.holds Try.pinned (OpenSpec.upto lexLongSpec)

/-- 'primerlaw04.LexNames', WHERE WHAT IT READS IS OF BULK AT MOST 1048576: true; the input reads as it did. -/
def lexNamesUptoRow : OpenClaim := { program := "ytjhhibnjegnpmaa", sum := "bd02cb094927622d6135dec5af64bba6d6e6834644658ead2ba3a55572c6a5a0", func := "primer/primerlaw04.LexNames", spec := "lexNames", inPlace := ["internal/bytealg.IndexByteString"], apart := false, narrowed := true }
def LexNamesUptoSaid : Prop := lexNamesUptoRow.holds Try.pinned (OpenSpec.upto lexNamesSpec)

/-- 'primerlaw04.LexQuotes', WHERE WHAT IT READS IS OF BULK AT MOST 1048576: true; the input reads as it did. -/
def lexQuotesUptoRow : OpenClaim := { program := "ytjhhibnjegnpmaa", sum := "bd02cb094927622d6135dec5af64bba6d6e6834644658ead2ba3a55572c6a5a0", func := "primer/primerlaw04.LexQuotes", spec := "lexQuotes", inPlace := ["internal/bytealg.IndexByteString", "internal/bytealg.CountString", "internal/bytealg.IndexString"], named := ["internal/bytealg.MaxLen"], apart := false, narrowed := true }
def LexQuotesUptoSaid : Prop := lexQuotesUptoRow.holds Try.pinned (OpenSpec.upto lexQuotesSpec)

/-- 'primerlaw04.LexBlank', WHERE WHAT IT READS IS OF BULK AT MOST 1048576: true; the input reads as it did. -/
def lexBlankUptoRow : OpenClaim := { program := "ytjhhibnjegnpmaa", sum := "bd02cb094927622d6135dec5af64bba6d6e6834644658ead2ba3a55572c6a5a0", func := "primer/primerlaw04.LexBlank", spec := "lexBlank", inPlace := ["internal/bytealg.IndexByteString", "internal/bytealg.CountString", "internal/bytealg.IndexString"], named := ["internal/bytealg.MaxLen"], apart := false, narrowed := true }
def LexBlankUptoSaid : Prop := lexBlankUptoRow.holds Try.pinned (OpenSpec.upto lexBlankSpec)

end Rows
end Go.Proofs.Ytjhhibnjegnpmaa
