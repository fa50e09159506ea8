/-
  No cell of these rows narrows 'for every input' (looked for: loops, veiled, ifaces, maps, wideKeys, modest, calm, conditions, laid).
  DERIVED. THE GIVEN ROWS OF THIS SEAT. 11 by the template 'for every input the law returns true; each argument reads behind the call as it read before'; 0 by the template 'total and deterministic' (their statements: YtbpgolmbielpgaaTotals.lean).
  GIVEN WITH THE SEED: the statements are not yours to turn. If you find one false, say at which input.
  Laid BY PROGRAM, IN A SANDBOX (cutbox-rows.mjs): the forced cells as the released guide's own fill.sh prints them over the translation 6e925e1e3964d06d… (all of the seat's roots in one cut). By AI agents, Wed Nov 11 2026. No macro, syntax, notation, axiom, sorry.
-/
import Derived.Test.YtbpgolmbielpgaaChecked
import GoSem.Claim
import GoSem.ClaimJoined
import GoSem.ClaimMapViews
import Derived.JoinedTies
import Derived.KernelRfl
namespace Go.Proofs.Ytbpgolmbielpgaa
/- THE CELL 'sum', in the pinned program and in every row, IS THE sha256 OF THE DUMP (.gsa) THAT YtbpgolmbielpgaaProg.lean LOADS. Nothing in Lean hashes anything: it is a label: what it is worth is what the hold of that sum in a sandbox is worth. -/
noncomputable def Try.pinned : Pinned := { name := "ytbpgolmbielpgaa", sum := "6e925e1e3964d06d9c370c32b0d7fd67642792b71f9ddf5723968db504c0e2e2", checked := Try.checked }
namespace Rows
def none {H : Type} : Left H := { results := [], args := [] }

/-- 'primerlaw13.CykCounts': WHATEVER THE INPUT: true; the input reads as it did. -/
def cykCountsSpec : ChangeSpec := { name := "cykCounts", fn := fun _ => fun
  | [d] => { results := [.lit (.bool true)], args := [d] }
  | _ => none }
def cykCountsRow : OpenClaim := { program := "ytbpgolmbielpgaa", sum := "6e925e1e3964d06d9c370c32b0d7fd67642792b71f9ddf5723968db504c0e2e2", func := "primer/primerlaw13.CykCounts", spec := "cykCounts", apart := false }
def CykCountsSaid : Prop := cykCountsRow.holds Try.pinned (OpenSpec.ofChange cykCountsSpec)

/-- ITS FALSE NEIGHBOUR: 'it returns false'. Refute it at one input. -/
def cykCountsWrong : ChangeSpec := { name := "cykCounts", fn := fun _ => fun
  | [d] => { results := [.lit (.bool false)], args := [d] }
  | _ => none }
def CykCountsWrongFalsely : Prop := cykCountsRow.holds Try.pinned (OpenSpec.ofChange cykCountsWrong)

/-- 'primerlaw13.CykNone': WHATEVER THE INPUT: true; the input reads as it did. -/
def cykNoneSpec : ChangeSpec := { name := "cykNone", fn := fun _ => fun
  | [d1, d2, d3] => { results := [.lit (.bool true)], args := [d1, d2, d3] }
  | _ => none }
def cykNoneRow : OpenClaim := { program := "ytbpgolmbielpgaa", sum := "6e925e1e3964d06d9c370c32b0d7fd67642792b71f9ddf5723968db504c0e2e2", func := "primer/primerlaw13.CykNone", spec := "cykNone", apart := false }
def CykNoneSaid : Prop := cykNoneRow.holds Try.pinned (OpenSpec.ofChange cykNoneSpec)

/-- ITS FALSE NEIGHBOUR: 'it returns false'. Refute it at one input. -/
def cykNoneWrong : ChangeSpec := { name := "cykNone", fn := fun _ => fun
  | [d1, d2, d3] => { results := [.lit (.bool false)], args := [d1, d2, d3] }
  | _ => none }
def CykNoneWrongFalsely : Prop := cykNoneRow.holds Try.pinned (OpenSpec.ofChange cykNoneWrong)

/-- 'primerlaw15.LeastRefuses': WHATEVER THE INPUT: true; the input reads as it did. -/
def leastRefusesSpec : ChangeSpec := { name := "leastRefuses", fn := fun _ => fun
  | [d1, d2, d3] => { results := [.lit (.bool true)], args := [d1, d2, d3] }
  | _ => none }
def leastRefusesRow : OpenClaim := { program := "ytbpgolmbielpgaa", sum := "6e925e1e3964d06d9c370c32b0d7fd67642792b71f9ddf5723968db504c0e2e2", func := "primer/primerlaw15.LeastRefuses", spec := "leastRefuses", unfollowed := true, recurses := true, apart := false }
def LeastRefusesSaid : Prop := leastRefusesRow.holds Try.pinned (OpenSpec.ofChange leastRefusesSpec)

/-- ITS FALSE NEIGHBOUR: 'it returns false'. Refute it at one input. -/
def leastRefusesWrong : ChangeSpec := { name := "leastRefuses", fn := fun _ => fun
  | [d1, d2, d3] => { results := [.lit (.bool false)], args := [d1, d2, d3] }
  | _ => none }
def LeastRefusesWrongFalsely : Prop := leastRefusesRow.holds Try.pinned (OpenSpec.ofChange leastRefusesWrong)

/-- 'primerlaw09.FactsLong': WHATEVER THE INPUT: true; the input reads as it did. -/
def factsLongSpec : ChangeSpec := { name := "factsLong", fn := fun _ => fun
  | [d] => { results := [.lit (.bool true)], args := [d] }
  | _ => none }
def factsLongRow : OpenClaim := { program := "ytbpgolmbielpgaa", sum := "6e925e1e3964d06d9c370c32b0d7fd67642792b71f9ddf5723968db504c0e2e2", func := "primer/primerlaw09.FactsLong", spec := "factsLong", unfollowed := true, recurses := true, apart := false }
def FactsLongSaid : Prop := factsLongRow.holds Try.pinned (OpenSpec.ofChange factsLongSpec)

/-- ITS FALSE NEIGHBOUR: 'it returns false'. Refute it at one input. -/
def factsLongWrong : ChangeSpec := { name := "factsLong", fn := fun _ => fun
  | [d] => { results := [.lit (.bool false)], args := [d] }
  | _ => none }
def FactsLongWrongFalsely : Prop := factsLongRow.holds Try.pinned (OpenSpec.ofChange factsLongWrong)

/-- 'primerlaw09.FactsWords': WHATEVER THE INPUT: true; the input reads as it did. -/
def factsWordsSpec : ChangeSpec := { name := "factsWords", fn := fun _ => fun
  | [d] => { results := [.lit (.bool true)], args := [d] }
  | _ => none }
def factsWordsRow : OpenClaim := { program := "ytbpgolmbielpgaa", sum := "6e925e1e3964d06d9c370c32b0d7fd67642792b71f9ddf5723968db504c0e2e2", func := "primer/primerlaw09.FactsWords", spec := "factsWords", unfollowed := true, recurses := true, apart := false }
def FactsWordsSaid : Prop := factsWordsRow.holds Try.pinned (OpenSpec.ofChange factsWordsSpec)

/-- ITS FALSE NEIGHBOUR: 'it returns false'. Refute it at one input. -/
def factsWordsWrong : ChangeSpec := { name := "factsWords", fn := fun _ => fun
  | [d] => { results := [.lit (.bool false)], args := [d] }
  | _ => none }
def FactsWordsWrongFalsely : Prop := factsWordsRow.holds Try.pinned (OpenSpec.ofChange factsWordsWrong)

/-- 'primerlaw15.LeastGreat': WHATEVER THE INPUT: true; the input reads as it did. -/
def leastGreatSpec : ChangeSpec := { name := "leastGreat", fn := fun _ => fun
  | [d] => { results := [.lit (.bool true)], args := [d] }
  | _ => none }
def leastGreatRow : OpenClaim := { program := "ytbpgolmbielpgaa", sum := "6e925e1e3964d06d9c370c32b0d7fd67642792b71f9ddf5723968db504c0e2e2", func := "primer/primerlaw15.LeastGreat", spec := "leastGreat", unfollowed := true, recurses := true, apart := false }
def LeastGreatSaid : Prop := leastGreatRow.holds Try.pinned (OpenSpec.ofChange leastGreatSpec)

/-- ITS FALSE NEIGHBOUR: 'it returns false'. Refute it at one input. -/
def leastGreatWrong : ChangeSpec := { name := "leastGreat", fn := fun _ => fun
  | [d] => { results := [.lit (.bool false)], args := [d] }
  | _ => none }
def LeastGreatWrongFalsely : Prop := leastGreatRow.holds Try.pinned (OpenSpec.ofChange leastGreatWrong)

/-- 'primerlaw15.LeastBest': WHATEVER THE INPUT: true; the input reads as it did. -/
def leastBestSpec : ChangeSpec := { name := "leastBest", fn := fun _ => fun
  | [d1, d2] => { results := [.lit (.bool true)], args := [d1, d2] }
  | _ => none }
def leastBestRow : OpenClaim := { program := "ytbpgolmbielpgaa", sum := "6e925e1e3964d06d9c370c32b0d7fd67642792b71f9ddf5723968db504c0e2e2", func := "primer/primerlaw15.LeastBest", spec := "leastBest", unfollowed := true, recurses := true, apart := false }
def LeastBestSaid : Prop := leastBestRow.holds Try.pinned (OpenSpec.ofChange leastBestSpec)

/-- ITS FALSE NEIGHBOUR: 'it returns false'. Refute it at one input. -/
def leastBestWrong : ChangeSpec := { name := "leastBest", fn := fun _ => fun
  | [d1, d2] => { results := [.lit (.bool false)], args := [d1, d2] }
  | _ => none }
def LeastBestWrongFalsely : Prop := leastBestRow.holds Try.pinned (OpenSpec.ofChange leastBestWrong)

/-- 'primerlaw15.LeastYields': WHATEVER THE INPUT: true; the input reads as it did. -/
def leastYieldsSpec : ChangeSpec := { name := "leastYields", fn := fun _ => fun
  | [d1, d2] => { results := [.lit (.bool true)], args := [d1, d2] }
  | _ => none }
def leastYieldsRow : OpenClaim := { program := "ytbpgolmbielpgaa", sum := "6e925e1e3964d06d9c370c32b0d7fd67642792b71f9ddf5723968db504c0e2e2", func := "primer/primerlaw15.LeastYields", spec := "leastYields", unfollowed := true, recurses := true, apart := false }
def LeastYieldsSaid : Prop := leastYieldsRow.holds Try.pinned (OpenSpec.ofChange leastYieldsSpec)

/-- ITS FALSE NEIGHBOUR: 'it returns false'. Refute it at one input. -/
def leastYieldsWrong : ChangeSpec := { name := "leastYields", fn := fun _ => fun
  | [d1, d2] => { results := [.lit (.bool false)], args := [d1, d2] }
  | _ => none }
def LeastYieldsWrongFalsely : Prop := leastYieldsRow.holds Try.pinned (OpenSpec.ofChange leastYieldsWrong)

/-- 'primerlaw09.FactsWays': WHATEVER THE INPUT: true; the input reads as it did. -/
def factsWaysSpec : ChangeSpec := { name := "factsWays", fn := fun _ => fun
  | [d] => { results := [.lit (.bool true)], args := [d] }
  | _ => none }
def factsWaysRow : OpenClaim := { program := "ytbpgolmbielpgaa", sum := "6e925e1e3964d06d9c370c32b0d7fd67642792b71f9ddf5723968db504c0e2e2", func := "primer/primerlaw09.FactsWays", spec := "factsWays", unfollowed := true, recurses := true, apart := false }
def FactsWaysSaid : Prop := factsWaysRow.holds Try.pinned (OpenSpec.ofChange factsWaysSpec)

/-- ITS FALSE NEIGHBOUR: 'it returns false'. Refute it at one input. -/
def factsWaysWrong : ChangeSpec := { name := "factsWays", fn := fun _ => fun
  | [d] => { results := [.lit (.bool false)], args := [d] }
  | _ => none }
def FactsWaysWrongFalsely : Prop := factsWaysRow.holds Try.pinned (OpenSpec.ofChange factsWaysWrong)

/-- 'primerlaw09.FactsFit': WHATEVER THE INPUT: true; the input reads as it did. -/
def factsFitSpec : ChangeSpec := { name := "factsFit", fn := fun _ => fun
  | [d] => { results := [.lit (.bool true)], args := [d] }
  | _ => none }
def factsFitRow : OpenClaim := { program := "ytbpgolmbielpgaa", sum := "6e925e1e3964d06d9c370c32b0d7fd67642792b71f9ddf5723968db504c0e2e2", func := "primer/primerlaw09.FactsFit", spec := "factsFit", unfollowed := true, recurses := true, apart := false }
def FactsFitSaid : Prop := factsFitRow.holds Try.pinned (OpenSpec.ofChange factsFitSpec)

/-- ITS FALSE NEIGHBOUR: 'it returns false'. Refute it at one input. -/
def factsFitWrong : ChangeSpec := { name := "factsFit", fn := fun _ => fun
  | [d] => { results := [.lit (.bool false)], args := [d] }
  | _ => none }
def FactsFitWrongFalsely : Prop := factsFitRow.holds Try.pinned (OpenSpec.ofChange factsFitWrong)

/-- 'primerlaw09.FactsUnsound': WHATEVER THE INPUT: true; the input reads as it did. -/
def factsUnsoundSpec : ChangeSpec := { name := "factsUnsound", fn := fun _ => fun
  | [d1, d2] => { results := [.lit (.bool true)], args := [d1, d2] }
  | _ => none }
def factsUnsoundRow : OpenClaim := { program := "ytbpgolmbielpgaa", sum := "6e925e1e3964d06d9c370c32b0d7fd67642792b71f9ddf5723968db504c0e2e2", func := "primer/primerlaw09.FactsUnsound", spec := "factsUnsound", unfollowed := true, recurses := true, apart := false }
def FactsUnsoundSaid : Prop := factsUnsoundRow.holds Try.pinned (OpenSpec.ofChange factsUnsoundSpec)

/-- ITS FALSE NEIGHBOUR: 'it returns false'. Refute it at one input. -/
def factsUnsoundWrong : ChangeSpec := { name := "factsUnsound", fn := fun _ => fun
  | [d1, d2] => { results := [.lit (.bool false)], args := [d1, d2] }
  | _ => none }
def FactsUnsoundWrongFalsely : Prop := factsUnsoundRow.holds Try.pinned (OpenSpec.ofChange factsUnsoundWrong)

/- THE SECOND FORM. 'bulk': how many values and letters a reading holds, each counted each time it is reached (what is shared counts as often as it is met; a slice's spare places count too). A statement '..UptoSaid' is the law's where the arguments, and the package variables that the reading takes, are together of bulk at most 1048576: NARROWER than '..Said'. Prove '..Said' where nothing that the law and all that it calls make is longer than what came in: it says more and counts as full. Else prove '..UptoSaid'. A law counts once. -/
mutual
def uptoBulk {H : Type} : DataW H → Nat
  | .lit (.string bytes) => bytes.length + 1
  | .lit _ => 1
  | .nil => 1
  | .ptr d => uptoBulk d + 1
  | .slice elems spare => uptoBulkAll elems + uptoBulkAll spare + 1
  | .agg parts => uptoBulkAll parts + 1
  | .iface _ d => uptoBulk d + 1
  | .map entries => uptoBulkEntries entries + 1
  | .held _ => 1
def uptoBulkAll {H : Type} : List (DataW H) → Nat
  | [] => 0
  | d :: r => uptoBulk d + uptoBulkAll r
def uptoBulkEntries {H : Type} : List (Lit × DataW H) → Nat
  | [] => 0
  | x :: r => uptoBulkEntry x + uptoBulkEntries r
def uptoBulkEntry {H : Type} : Lit × DataW H → Nat
  | (.string bytes, d) => bytes.length + uptoBulk d + 1
  | (_, d) => uptoBulk d + 1
 end
def uptoSmall : (H : Type) → List (DataW H) → Bool := fun _ ds => decide (uptoBulkAll ds ≤ 1048576)
def OpenSpec.upto (s : _root_.Go.ChangeSpec) : _root_.Go.OpenSpec := { _root_.Go.OpenSpec.ofChange s with cond := some uptoSmall }

/-- 'primerlaw13.CykCounts', WHERE WHAT IT READS IS OF BULK AT MOST 1048576: true; the input reads as it did. -/
def cykCountsUptoRow : OpenClaim := { program := "ytbpgolmbielpgaa", sum := "6e925e1e3964d06d9c370c32b0d7fd67642792b71f9ddf5723968db504c0e2e2", func := "primer/primerlaw13.CykCounts", spec := "cykCounts", apart := false, narrowed := true }
def CykCountsUptoSaid : Prop := cykCountsUptoRow.holds Try.pinned (OpenSpec.upto cykCountsSpec)

/-- 'primerlaw13.CykNone', WHERE WHAT IT READS IS OF BULK AT MOST 1048576: true; the input reads as it did. -/
def cykNoneUptoRow : OpenClaim := { program := "ytbpgolmbielpgaa", sum := "6e925e1e3964d06d9c370c32b0d7fd67642792b71f9ddf5723968db504c0e2e2", func := "primer/primerlaw13.CykNone", spec := "cykNone", apart := false, narrowed := true }
def CykNoneUptoSaid : Prop := cykNoneUptoRow.holds Try.pinned (OpenSpec.upto cykNoneSpec)

/-- 'primerlaw15.LeastRefuses', WHERE WHAT IT READS IS OF BULK AT MOST 1048576: true; the input reads as it did. -/
def leastRefusesUptoRow : OpenClaim := { program := "ytbpgolmbielpgaa", sum := "6e925e1e3964d06d9c370c32b0d7fd67642792b71f9ddf5723968db504c0e2e2", func := "primer/primerlaw15.LeastRefuses", spec := "leastRefuses", unfollowed := true, recurses := true, apart := false, narrowed := true }
def LeastRefusesUptoSaid : Prop := leastRefusesUptoRow.holds Try.pinned (OpenSpec.upto leastRefusesSpec)

/-- 'primerlaw09.FactsLong', WHERE WHAT IT READS IS OF BULK AT MOST 1048576: true; the input reads as it did. -/
def factsLongUptoRow : OpenClaim := { program := "ytbpgolmbielpgaa", sum := "6e925e1e3964d06d9c370c32b0d7fd67642792b71f9ddf5723968db504c0e2e2", func := "primer/primerlaw09.FactsLong", spec := "factsLong", unfollowed := true, recurses := true, apart := false, narrowed := true }
def FactsLongUptoSaid : Prop := factsLongUptoRow.holds Try.pinned (OpenSpec.upto factsLongSpec)

/-- 'primerlaw09.FactsWords', WHERE WHAT IT READS IS OF BULK AT MOST 1048576: true; the input reads as it did. -/
def factsWordsUptoRow : OpenClaim := { program := "ytbpgolmbielpgaa", sum := "6e925e1e3964d06d9c370c32b0d7fd67642792b71f9ddf5723968db504c0e2e2", func := "primer/primerlaw09.FactsWords", spec := "factsWords", unfollowed := true, recurses := true, apart := false, narrowed := true }
def FactsWordsUptoSaid : Prop := factsWordsUptoRow.holds Try.pinned (OpenSpec.upto factsWordsSpec)

/-- 'primerlaw15.LeastGreat', WHERE WHAT IT READS IS OF BULK AT MOST 1048576: true; the input reads as it did. -/
def leastGreatUptoRow : OpenClaim := { program := "ytbpgolmbielpgaa", sum := "6e925e1e3964d06d9c370c32b0d7fd67642792b71f9ddf5723968db504c0e2e2", func := "primer/primerlaw15.LeastGreat", spec := "leastGreat", unfollowed := true, recurses := true, apart := false, narrowed := true }
def LeastGreatUptoSaid : Prop := leastGreatUptoRow.holds Try.pinned (OpenSpec.upto leastGreatSpec)

/-- 'primerlaw15.LeastBest', WHERE WHAT IT READS IS OF BULK AT MOST 1048576: true; the input reads as it did. -/
def leastBestUptoRow : OpenClaim := { program := "ytbpgolmbielpgaa", sum := "6e925e1e3964d06d9c370c32b0d7fd67642792b71f9ddf5723968db504c0e2e2", func := "primer/primerlaw15.LeastBest", spec := "leastBest", unfollowed := true, recurses := true, apart := false, narrowed := true }
def LeastBestUptoSaid : Prop := leastBestUptoRow.holds Try.pinned (OpenSpec.upto leastBestSpec)

/-- 'primerlaw15.LeastYields', WHERE WHAT IT READS IS OF BULK AT MOST 1048576: true; the input reads as it did. -/
def leastYieldsUptoRow : OpenClaim := { program := "ytbpgolmbielpgaa", sum := "6e925e1e3964d06d9c370c32b0d7fd67642792b71f9ddf5723968db504c0e2e2", func := "primer/primerlaw15.LeastYields", spec := "leastYields", unfollowed := true, recurses := true, apart := false, narrowed := true }
def LeastYieldsUptoSaid : Prop := leastYieldsUptoRow.holds Try.pinned (OpenSpec.upto leastYieldsSpec)

/-- 'primerlaw09.FactsWays', WHERE WHAT IT READS IS OF BULK AT MOST 1048576: true; the input reads as it did. -/
def factsWaysUptoRow : OpenClaim := { program := "ytbpgolmbielpgaa", sum := "6e925e1e3964d06d9c370c32b0d7fd67642792b71f9ddf5723968db504c0e2e2", func := "primer/primerlaw09.FactsWays", spec := "factsWays", unfollowed := true, recurses := true, apart := false, narrowed := true }
def FactsWaysUptoSaid : Prop := factsWaysUptoRow.holds Try.pinned (OpenSpec.upto factsWaysSpec)

/-- 'primerlaw09.FactsFit', WHERE WHAT IT READS IS OF BULK AT MOST 1048576: true; the input reads as it did. -/
def factsFitUptoRow : OpenClaim := { program := "ytbpgolmbielpgaa", sum := "6e925e1e3964d06d9c370c32b0d7fd67642792b71f9ddf5723968db504c0e2e2", func := "primer/primerlaw09.FactsFit", spec := "factsFit", unfollowed := true, recurses := true, apart := false, narrowed := true }
def FactsFitUptoSaid : Prop := factsFitUptoRow.holds Try.pinned (OpenSpec.upto factsFitSpec)

/-- 'primerlaw09.FactsUnsound', WHERE WHAT IT READS IS OF BULK AT MOST 1048576: true; the input reads as it did. -/
def factsUnsoundUptoRow : OpenClaim := { program := "ytbpgolmbielpgaa", sum := "6e925e1e3964d06d9c370c32b0d7fd67642792b71f9ddf5723968db504c0e2e2", func := "primer/primerlaw09.FactsUnsound", spec := "factsUnsound", unfollowed := true, recurses := true, apart := false, narrowed := true }
def FactsUnsoundUptoSaid : Prop := factsUnsoundUptoRow.holds Try.pinned (OpenSpec.upto factsUnsoundSpec)

end Rows
end Go.Proofs.Ytbpgolmbielpgaa
