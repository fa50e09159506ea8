/-
  No cell of these rows narrows 'for every input' (looked for: loops, veiled, ifaces, maps, wideKeys, modest, calm, conditions, laid).
  DERIVED. THE GIVEN ROWS OF THIS SEAT. 12 by the template 'for every input the law returns true; each argument reads behind the call as it read before'; 0 by the template 'total and deterministic' (their statements: YtaehooafdbaomaaTotals.lean).
  GIVEN WITH THE SEED: the statements are not yours to turn. If you find one false, say at which input.
  Laid BY PROGRAM, IN A SANDBOX (cutbox-rows.mjs): the forced cells as the released guide's own fill.sh prints them over the translation 5105c8b1d3206bb7… (all of the seat's roots in one cut). By AI agents, Wed Nov 11 2026. No macro, syntax, notation, axiom, sorry.
-/
import Derived.Test.YtaehooafdbaomaaChecked
import GoSem.Claim
import GoSem.ClaimJoined
import GoSem.ClaimMapViews
import Derived.JoinedTies
import Derived.KernelRfl
namespace Go.Proofs.Ytaehooafdbaomaa
/- THE CELL 'sum', in the pinned program and in every row, IS THE sha256 OF THE DUMP (.gsa) THAT YtaehooafdbaomaaProg.lean LOADS. Nothing in Lean hashes anything: it is a label: what it is worth is what the hold of that sum in a sandbox is worth. -/
noncomputable def Try.pinned : Pinned := { name := "ytaehooafdbaomaa", sum := "5105c8b1d3206bb7eee43ad7ed90571cd40bb378577a1a589f3d057d8268e030", checked := Try.checked }
namespace Rows
def none {H : Type} : Left H := { results := [], args := [] }

/-- 'primerlaw14.TreeReplays': WHATEVER THE INPUT: true; the input reads as it did. -/
def treeReplaysSpec : ChangeSpec := { name := "treeReplays", fn := fun _ => fun
  | [d1, d2, d3] => { results := [.lit (.bool true)], args := [d1, d2, d3] }
  | _ => none }
def treeReplaysRow : OpenClaim := { program := "ytaehooafdbaomaa", sum := "5105c8b1d3206bb7eee43ad7ed90571cd40bb378577a1a589f3d057d8268e030", func := "primer/primerlaw14.TreeReplays", spec := "treeReplays", inPlace := ["internal/bytealg.CountString", "internal/bytealg.IndexByteString", "internal/bytealg.IndexString", "internal/abi.NoEscape"], unfollowed := true, recurses := true, named := ["internal/bytealg.MaxLen"], plainKeys := false, apart := false }
def TreeReplaysSaid : Prop := treeReplaysRow.holds Try.pinned (OpenSpec.ofChange treeReplaysSpec)

/-- ITS FALSE NEIGHBOUR: 'it returns false'. Refute it at one input. -/
def treeReplaysWrong : ChangeSpec := { name := "treeReplays", fn := fun _ => fun
  | [d1, d2, d3] => { results := [.lit (.bool false)], args := [d1, d2, d3] }
  | _ => none }
def TreeReplaysWrongFalsely : Prop := treeReplaysRow.holds Try.pinned (OpenSpec.ofChange treeReplaysWrong)

/-- 'primerlaw14.TreeReads': WHATEVER THE INPUT: true; the input reads as it did. -/
def treeReadsSpec : ChangeSpec := { name := "treeReads", fn := fun _ => fun
  | [d1, d2] => { results := [.lit (.bool true)], args := [d1, d2] }
  | _ => none }
def treeReadsRow : OpenClaim := { program := "ytaehooafdbaomaa", sum := "5105c8b1d3206bb7eee43ad7ed90571cd40bb378577a1a589f3d057d8268e030", func := "primer/primerlaw14.TreeReads", spec := "treeReads", inPlace := ["internal/bytealg.CountString", "internal/bytealg.IndexByteString", "internal/bytealg.IndexString", "internal/abi.NoEscape"], unfollowed := true, recurses := true, named := ["internal/bytealg.MaxLen"], plainKeys := false, apart := false }
def TreeReadsSaid : Prop := treeReadsRow.holds Try.pinned (OpenSpec.ofChange treeReadsSpec)

/-- ITS FALSE NEIGHBOUR: 'it returns false'. Refute it at one input. -/
def treeReadsWrong : ChangeSpec := { name := "treeReads", fn := fun _ => fun
  | [d1, d2] => { results := [.lit (.bool false)], args := [d1, d2] }
  | _ => none }
def TreeReadsWrongFalsely : Prop := treeReadsRow.holds Try.pinned (OpenSpec.ofChange treeReadsWrong)

/-- 'primerlaw14.TreeTells': WHATEVER THE INPUT: true; the input reads as it did. -/
def treeTellsSpec : ChangeSpec := { name := "treeTells", fn := fun _ => fun
  | [d1, d2, d3] => { results := [.lit (.bool true)], args := [d1, d2, d3] }
  | _ => none }
def treeTellsRow : OpenClaim := { program := "ytaehooafdbaomaa", sum := "5105c8b1d3206bb7eee43ad7ed90571cd40bb378577a1a589f3d057d8268e030", func := "primer/primerlaw14.TreeTells", spec := "treeTells", inPlace := ["internal/bytealg.CountString", "internal/bytealg.IndexByteString", "internal/bytealg.IndexString", "internal/abi.NoEscape"], unfollowed := true, recurses := true, named := ["internal/bytealg.MaxLen"], plainKeys := false, apart := false }
def TreeTellsSaid : Prop := treeTellsRow.holds Try.pinned (OpenSpec.ofChange treeTellsSpec)

/-- ITS FALSE NEIGHBOUR: 'it returns false'. Refute it at one input. -/
def treeTellsWrong : ChangeSpec := { name := "treeTells", fn := fun _ => fun
  | [d1, d2, d3] => { results := [.lit (.bool false)], args := [d1, d2, d3] }
  | _ => none }
def TreeTellsWrongFalsely : Prop := treeTellsRow.holds Try.pinned (OpenSpec.ofChange treeTellsWrong)

/-- 'primerlaw14.TreeGrows': WHATEVER THE INPUT: true; the input reads as it did. -/
def treeGrowsSpec : ChangeSpec := { name := "treeGrows", fn := fun _ => fun
  | [d1, d2] => { results := [.lit (.bool true)], args := [d1, d2] }
  | _ => none }
def treeGrowsRow : OpenClaim := { program := "ytaehooafdbaomaa", sum := "5105c8b1d3206bb7eee43ad7ed90571cd40bb378577a1a589f3d057d8268e030", func := "primer/primerlaw14.TreeGrows", spec := "treeGrows", inPlace := ["internal/bytealg.CountString", "internal/bytealg.IndexByteString", "internal/bytealg.IndexString", "internal/abi.NoEscape"], unfollowed := true, recurses := true, named := ["internal/bytealg.MaxLen"], plainKeys := false, apart := false }
def TreeGrowsSaid : Prop := treeGrowsRow.holds Try.pinned (OpenSpec.ofChange treeGrowsSpec)

/-- ITS FALSE NEIGHBOUR: 'it returns false'. Refute it at one input. -/
def treeGrowsWrong : ChangeSpec := { name := "treeGrows", fn := fun _ => fun
  | [d1, d2] => { results := [.lit (.bool false)], args := [d1, d2] }
  | _ => none }
def TreeGrowsWrongFalsely : Prop := treeGrowsRow.holds Try.pinned (OpenSpec.ofChange treeGrowsWrong)

/-- 'primerlaw17.EarleyTells': WHATEVER THE INPUT: true; the input reads as it did. -/
def earleyTellsSpec : ChangeSpec := { name := "earleyTells", fn := fun _ => fun
  | [d1, d2] => { results := [.lit (.bool true)], args := [d1, d2] }
  | _ => none }
def earleyTellsRow : OpenClaim := { program := "ytaehooafdbaomaa", sum := "5105c8b1d3206bb7eee43ad7ed90571cd40bb378577a1a589f3d057d8268e030", func := "primer/primerlaw17.EarleyTells", spec := "earleyTells", unfollowed := true, recurses := true, plainKeys := false, apart := false }
def EarleyTellsSaid : Prop := earleyTellsRow.holds Try.pinned (OpenSpec.ofChange earleyTellsSpec)

/-- ITS FALSE NEIGHBOUR: 'it returns false'. Refute it at one input. -/
def earleyTellsWrong : ChangeSpec := { name := "earleyTells", fn := fun _ => fun
  | [d1, d2] => { results := [.lit (.bool false)], args := [d1, d2] }
  | _ => none }
def EarleyTellsWrongFalsely : Prop := earleyTellsRow.holds Try.pinned (OpenSpec.ofChange earleyTellsWrong)

/-- 'primerlaw17.EarleyWalks': WHATEVER THE INPUT: true; the input reads as it did. -/
def earleyWalksSpec : ChangeSpec := { name := "earleyWalks", fn := fun _ => fun
  | [d1, d2] => { results := [.lit (.bool true)], args := [d1, d2] }
  | _ => none }
def earleyWalksRow : OpenClaim := { program := "ytaehooafdbaomaa", sum := "5105c8b1d3206bb7eee43ad7ed90571cd40bb378577a1a589f3d057d8268e030", func := "primer/primerlaw17.EarleyWalks", spec := "earleyWalks", unfollowed := true, recurses := true, plainKeys := false, apart := false }
def EarleyWalksSaid : Prop := earleyWalksRow.holds Try.pinned (OpenSpec.ofChange earleyWalksSpec)

/-- ITS FALSE NEIGHBOUR: 'it returns false'. Refute it at one input. -/
def earleyWalksWrong : ChangeSpec := { name := "earleyWalks", fn := fun _ => fun
  | [d1, d2] => { results := [.lit (.bool false)], args := [d1, d2] }
  | _ => none }
def EarleyWalksWrongFalsely : Prop := earleyWalksRow.holds Try.pinned (OpenSpec.ofChange earleyWalksWrong)

/-- 'primerlaw17.EarleyNone': WHATEVER THE INPUT: true; the input reads as it did. -/
def earleyNoneSpec : ChangeSpec := { name := "earleyNone", fn := fun _ => fun
  | [d1, d2, d3] => { results := [.lit (.bool true)], args := [d1, d2, d3] }
  | _ => none }
def earleyNoneRow : OpenClaim := { program := "ytaehooafdbaomaa", sum := "5105c8b1d3206bb7eee43ad7ed90571cd40bb378577a1a589f3d057d8268e030", func := "primer/primerlaw17.EarleyNone", spec := "earleyNone", unfollowed := true, recurses := true, plainKeys := false, apart := false }
def EarleyNoneSaid : Prop := earleyNoneRow.holds Try.pinned (OpenSpec.ofChange earleyNoneSpec)

/-- ITS FALSE NEIGHBOUR: 'it returns false'. Refute it at one input. -/
def earleyNoneWrong : ChangeSpec := { name := "earleyNone", fn := fun _ => fun
  | [d1, d2, d3] => { results := [.lit (.bool false)], args := [d1, d2, d3] }
  | _ => none }
def EarleyNoneWrongFalsely : Prop := earleyNoneRow.holds Try.pinned (OpenSpec.ofChange earleyNoneWrong)

/-- 'primerlaw10.LangWords': WHATEVER THE INPUT: true; the input reads as it did. -/
def langWordsSpec : ChangeSpec := { name := "langWords", fn := fun _ => fun
  | [d1, d2] => { results := [.lit (.bool true)], args := [d1, d2] }
  | _ => none }
def langWordsRow : OpenClaim := { program := "ytaehooafdbaomaa", sum := "5105c8b1d3206bb7eee43ad7ed90571cd40bb378577a1a589f3d057d8268e030", func := "primer/primerlaw10.LangWords", spec := "langWords", inPlace := ["internal/bytealg.abigen_runtime_cmpstring"], unfollowed := true, recurses := true, plainKeys := false, apart := false }
def LangWordsSaid : Prop := langWordsRow.holds Try.pinned (OpenSpec.ofChange langWordsSpec)

/-- ITS FALSE NEIGHBOUR: 'it returns false'. Refute it at one input. -/
def langWordsWrong : ChangeSpec := { name := "langWords", fn := fun _ => fun
  | [d1, d2] => { results := [.lit (.bool false)], args := [d1, d2] }
  | _ => none }
def LangWordsWrongFalsely : Prop := langWordsRow.holds Try.pinned (OpenSpec.ofChange langWordsWrong)

/-- 'primerlaw10.LangDerives': WHATEVER THE INPUT: true; the input reads as it did. -/
def langDerivesSpec : ChangeSpec := { name := "langDerives", fn := fun _ => fun
  | [d1, d2] => { results := [.lit (.bool true)], args := [d1, d2] }
  | _ => none }
def langDerivesRow : OpenClaim := { program := "ytaehooafdbaomaa", sum := "5105c8b1d3206bb7eee43ad7ed90571cd40bb378577a1a589f3d057d8268e030", func := "primer/primerlaw10.LangDerives", spec := "langDerives", inPlace := ["internal/bytealg.abigen_runtime_cmpstring"], unfollowed := true, recurses := true, plainKeys := false, apart := false }
def LangDerivesSaid : Prop := langDerivesRow.holds Try.pinned (OpenSpec.ofChange langDerivesSpec)

/-- ITS FALSE NEIGHBOUR: 'it returns false'. Refute it at one input. -/
def langDerivesWrong : ChangeSpec := { name := "langDerives", fn := fun _ => fun
  | [d1, d2] => { results := [.lit (.bool false)], args := [d1, d2] }
  | _ => none }
def LangDerivesWrongFalsely : Prop := langDerivesRow.holds Try.pinned (OpenSpec.ofChange langDerivesWrong)

/-- 'primerlaw10.LangFits': WHATEVER THE INPUT: true; the input reads as it did. -/
def langFitsSpec : ChangeSpec := { name := "langFits", fn := fun _ => fun
  | [d1, d2] => { results := [.lit (.bool true)], args := [d1, d2] }
  | _ => none }
def langFitsRow : OpenClaim := { program := "ytaehooafdbaomaa", sum := "5105c8b1d3206bb7eee43ad7ed90571cd40bb378577a1a589f3d057d8268e030", func := "primer/primerlaw10.LangFits", spec := "langFits", inPlace := ["internal/bytealg.abigen_runtime_cmpstring"], unfollowed := true, recurses := true, plainKeys := false, apart := false }
def LangFitsSaid : Prop := langFitsRow.holds Try.pinned (OpenSpec.ofChange langFitsSpec)

/-- ITS FALSE NEIGHBOUR: 'it returns false'. Refute it at one input. -/
def langFitsWrong : ChangeSpec := { name := "langFits", fn := fun _ => fun
  | [d1, d2] => { results := [.lit (.bool false)], args := [d1, d2] }
  | _ => none }
def LangFitsWrongFalsely : Prop := langFitsRow.holds Try.pinned (OpenSpec.ofChange langFitsWrong)

/-- 'primerlaw10.LangMany': WHATEVER THE INPUT: true; the input reads as it did. -/
def langManySpec : ChangeSpec := { name := "langMany", fn := fun _ => fun
  | [d1, d2] => { results := [.lit (.bool true)], args := [d1, d2] }
  | _ => none }
def langManyRow : OpenClaim := { program := "ytaehooafdbaomaa", sum := "5105c8b1d3206bb7eee43ad7ed90571cd40bb378577a1a589f3d057d8268e030", func := "primer/primerlaw10.LangMany", spec := "langMany", inPlace := ["internal/bytealg.abigen_runtime_cmpstring"], unfollowed := true, recurses := true, plainKeys := false, apart := false }
def LangManySaid : Prop := langManyRow.holds Try.pinned (OpenSpec.ofChange langManySpec)

/-- ITS FALSE NEIGHBOUR: 'it returns false'. Refute it at one input. -/
def langManyWrong : ChangeSpec := { name := "langMany", fn := fun _ => fun
  | [d1, d2] => { results := [.lit (.bool false)], args := [d1, d2] }
  | _ => none }
def LangManyWrongFalsely : Prop := langManyRow.holds Try.pinned (OpenSpec.ofChange langManyWrong)

/-- 'primerlaw10.LangSame': WHATEVER THE INPUT: true; the input reads as it did. -/
def langSameSpec : ChangeSpec := { name := "langSame", fn := fun _ => fun
  | [d1, d2, d3] => { results := [.lit (.bool true)], args := [d1, d2, d3] }
  | _ => none }
def langSameRow : OpenClaim := { program := "ytaehooafdbaomaa", sum := "5105c8b1d3206bb7eee43ad7ed90571cd40bb378577a1a589f3d057d8268e030", func := "primer/primerlaw10.LangSame", spec := "langSame", inPlace := ["internal/bytealg.abigen_runtime_cmpstring", "internal/abi.NoEscape"], unfollowed := true, recurses := true, plainKeys := false, apart := false }
def LangSameSaid : Prop := langSameRow.holds Try.pinned (OpenSpec.ofChange langSameSpec)

/-- ITS FALSE NEIGHBOUR: 'it returns false'. Refute it at one input. -/
def langSameWrong : ChangeSpec := { name := "langSame", fn := fun _ => fun
  | [d1, d2, d3] => { results := [.lit (.bool false)], args := [d1, d2, d3] }
  | _ => none }
def LangSameWrongFalsely : Prop := langSameRow.holds Try.pinned (OpenSpec.ofChange langSameWrong)

/- THE SECOND FORM. 'bulk': how many values and letters a reading holds, each counted each time it is reached (what is shared counts as often as it is met; a slice's spare places count too). A statement '..UptoSaid' is the law's where the arguments, and the package variables that the reading takes, are together of bulk at most 1048576: NARROWER than '..Said'. Prove '..Said' where nothing that the law and all that it calls make is longer than what came in: it says more and counts as full. Else prove '..UptoSaid'. A law counts once. -/
mutual
def uptoBulk {H : Type} : DataW H → Nat
  | .lit (.string bytes) => bytes.length + 1
  | .lit _ => 1
  | .nil => 1
  | .ptr d => uptoBulk d + 1
  | .slice elems spare => uptoBulkAll elems + uptoBulkAll spare + 1
  | .agg parts => uptoBulkAll parts + 1
  | .iface _ d => uptoBulk d + 1
  | .map entries => uptoBulkEntries entries + 1
  | .held _ => 1
def uptoBulkAll {H : Type} : List (DataW H) → Nat
  | [] => 0
  | d :: r => uptoBulk d + uptoBulkAll r
def uptoBulkEntries {H : Type} : List (Lit × DataW H) → Nat
  | [] => 0
  | x :: r => uptoBulkEntry x + uptoBulkEntries r
def uptoBulkEntry {H : Type} : Lit × DataW H → Nat
  | (.string bytes, d) => bytes.length + uptoBulk d + 1
  | (_, d) => uptoBulk d + 1
 end
def uptoSmall : (H : Type) → List (DataW H) → Bool := fun _ ds => decide (uptoBulkAll ds ≤ 1048576)
def OpenSpec.upto (s : _root_.Go.ChangeSpec) : _root_.Go.OpenSpec := { _root_.Go.OpenSpec.ofChange s with cond := some uptoSmall }

/-- 'primerlaw14.TreeReplays', WHERE WHAT IT READS IS OF BULK AT MOST 1048576: true; the input reads as it did. -/
def treeReplaysUptoRow : OpenClaim := { program := "ytaehooafdbaomaa", sum := "5105c8b1d3206bb7eee43ad7ed90571cd40bb378577a1a589f3d057d8268e030", func := "primer/primerlaw14.TreeReplays", spec := "treeReplays", inPlace := ["internal/bytealg.CountString", "internal/bytealg.IndexByteString", "internal/bytealg.IndexString", "internal/abi.NoEscape"], unfollowed := true, recurses := true, named := ["internal/bytealg.MaxLen"], plainKeys := false, apart := false, narrowed := true }
def TreeReplaysUptoSaid : Prop := treeReplaysUptoRow.holds Try.pinned (OpenSpec.upto treeReplaysSpec)

/-- 'primerlaw14.TreeReads', WHERE WHAT IT READS IS OF BULK AT MOST 1048576: true; the input reads as it did. -/
def treeReadsUptoRow : OpenClaim := { program := "ytaehooafdbaomaa", sum := "5105c8b1d3206bb7eee43ad7ed90571cd40bb378577a1a589f3d057d8268e030", func := "primer/primerlaw14.TreeReads", spec := "treeReads", inPlace := ["internal/bytealg.CountString", "internal/bytealg.IndexByteString", "internal/bytealg.IndexString", "internal/abi.NoEscape"], unfollowed := true, recurses := true, named := ["internal/bytealg.MaxLen"], plainKeys := false, apart := false, narrowed := true }
def TreeReadsUptoSaid : Prop := treeReadsUptoRow.holds Try.pinned (OpenSpec.upto treeReadsSpec)

/-- 'primerlaw14.TreeTells', WHERE WHAT IT READS IS OF BULK AT MOST 1048576: true; the input reads as it did. -/
def treeTellsUptoRow : OpenClaim := { program := "ytaehooafdbaomaa", sum := "5105c8b1d3206bb7eee43ad7ed90571cd40bb378577a1a589f3d057d8268e030", func := "primer/primerlaw14.TreeTells", spec := "treeTells", inPlace := ["internal/bytealg.CountString", "internal/bytealg.IndexByteString", "internal/bytealg.IndexString", "internal/abi.NoEscape"], unfollowed := true, recurses := true, named := ["internal/bytealg.MaxLen"], plainKeys := false, apart := false, narrowed := true }
def TreeTellsUptoSaid : Prop := treeTellsUptoRow.holds Try.pinned (OpenSpec.upto treeTellsSpec)

/-- 'primerlaw14.TreeGrows', WHERE WHAT IT READS IS OF BULK AT MOST 1048576: true; the input reads as it did. -/
def treeGrowsUptoRow : OpenClaim := { program := "ytaehooafdbaomaa", sum := "5105c8b1d3206bb7eee43ad7ed90571cd40bb378577a1a589f3d057d8268e030", func := "primer/primerlaw14.TreeGrows", spec := "treeGrows", inPlace := ["internal/bytealg.CountString", "internal/bytealg.IndexByteString", "internal/bytealg.IndexString", "internal/abi.NoEscape"], unfollowed := true, recurses := true, named := ["internal/bytealg.MaxLen"], plainKeys := false, apart := false, narrowed := true }
def TreeGrowsUptoSaid : Prop := treeGrowsUptoRow.holds Try.pinned (OpenSpec.upto treeGrowsSpec)

/-- 'primerlaw17.EarleyTells', WHERE WHAT IT READS IS OF BULK AT MOST 1048576: true; the input reads as it did. -/
def earleyTellsUptoRow : OpenClaim := { program := "ytaehooafdbaomaa", sum := "5105c8b1d3206bb7eee43ad7ed90571cd40bb378577a1a589f3d057d8268e030", func := "primer/primerlaw17.EarleyTells", spec := "earleyTells", unfollowed := true, recurses := true, plainKeys := false, apart := false, narrowed := true }
def EarleyTellsUptoSaid : Prop := earleyTellsUptoRow.holds Try.pinned (OpenSpec.upto earleyTellsSpec)

/-- 'primerlaw17.EarleyWalks', WHERE WHAT IT READS IS OF BULK AT MOST 1048576: true; the input reads as it did. -/
def earleyWalksUptoRow : OpenClaim := { program := "ytaehooafdbaomaa", sum := "5105c8b1d3206bb7eee43ad7ed90571cd40bb378577a1a589f3d057d8268e030", func := "primer/primerlaw17.EarleyWalks", spec := "earleyWalks", unfollowed := true, recurses := true, plainKeys := false, apart := false, narrowed := true }
def EarleyWalksUptoSaid : Prop := earleyWalksUptoRow.holds Try.pinned (OpenSpec.upto earleyWalksSpec)

/-- 'primerlaw17.EarleyNone', WHERE WHAT IT READS IS OF BULK AT MOST 1048576: true; the input reads as it did. -/
def earleyNoneUptoRow : OpenClaim := { program := "ytaehooafdbaomaa", sum := "5105c8b1d3206bb7eee43ad7ed90571cd40bb378577a1a589f3d057d8268e030", func := "primer/primerlaw17.EarleyNone", spec := "earleyNone", unfollowed := true, recurses := true, plainKeys := false, apart := false, narrowed := true }
def EarleyNoneUptoSaid : Prop := earleyNoneUptoRow.holds Try.pinned (OpenSpec.upto earleyNoneSpec)

/-- 'primerlaw10.LangWords', WHERE WHAT IT READS IS OF BULK AT MOST 1048576: true; the input reads as it did. -/
def langWordsUptoRow : OpenClaim := { program := "ytaehooafdbaomaa", sum := "5105c8b1d3206bb7eee43ad7ed90571cd40bb378577a1a589f3d057d8268e030", func := "primer/primerlaw10.LangWords", spec := "langWords", inPlace := ["internal/bytealg.abigen_runtime_cmpstring"], unfollowed := true, recurses := true, plainKeys := false, apart := false, narrowed := true }
def LangWordsUptoSaid : Prop := langWordsUptoRow.holds Try.pinned (OpenSpec.upto langWordsSpec)

/-- 'primerlaw10.LangDerives', WHERE WHAT IT READS IS OF BULK AT MOST 1048576: true; the input reads as it did. -/
def langDerivesUptoRow : OpenClaim := { program := "ytaehooafdbaomaa", sum := "5105c8b1d3206bb7eee43ad7ed90571cd40bb378577a1a589f3d057d8268e030", func := "primer/primerlaw10.LangDerives", spec := "langDerives", inPlace := ["internal/bytealg.abigen_runtime_cmpstring"], unfollowed := true, recurses := true, plainKeys := false, apart := false, narrowed := true }
def LangDerivesUptoSaid : Prop := langDerivesUptoRow.holds Try.pinned (OpenSpec.upto langDerivesSpec)

/-- 'primerlaw10.LangFits', WHERE WHAT IT READS IS OF BULK AT MOST 1048576: true; the input reads as it did. -/
def langFitsUptoRow : OpenClaim := { program := "ytaehooafdbaomaa", sum := "5105c8b1d3206bb7eee43ad7ed90571cd40bb378577a1a589f3d057d8268e030", func := "primer/primerlaw10.LangFits", spec := "langFits", inPlace := ["internal/bytealg.abigen_runtime_cmpstring"], unfollowed := true, recurses := true, plainKeys := false, apart := false, narrowed := true }
def LangFitsUptoSaid : Prop := langFitsUptoRow.holds Try.pinned (OpenSpec.upto langFitsSpec)

/-- 'primerlaw10.LangMany', WHERE WHAT IT READS IS OF BULK AT MOST 1048576: true; the input reads as it did. -/
def langManyUptoRow : OpenClaim := { program := "ytaehooafdbaomaa", sum := "5105c8b1d3206bb7eee43ad7ed90571cd40bb378577a1a589f3d057d8268e030", func := "primer/primerlaw10.LangMany", spec := "langMany", inPlace := ["internal/bytealg.abigen_runtime_cmpstring"], unfollowed := true, recurses := true, plainKeys := false, apart := false, narrowed := true }
def LangManyUptoSaid : Prop := langManyUptoRow.holds Try.pinned (OpenSpec.upto langManySpec)

/-- 'primerlaw10.LangSame', WHERE WHAT IT READS IS OF BULK AT MOST 1048576: true; the input reads as it did. -/
def langSameUptoRow : OpenClaim := { program := "ytaehooafdbaomaa", sum := "5105c8b1d3206bb7eee43ad7ed90571cd40bb378577a1a589f3d057d8268e030", func := "primer/primerlaw10.LangSame", spec := "langSame", inPlace := ["internal/bytealg.abigen_runtime_cmpstring", "internal/abi.NoEscape"], unfollowed := true, recurses := true, plainKeys := false, apart := false, narrowed := true }
def LangSameUptoSaid : Prop := langSameUptoRow.holds Try.pinned (OpenSpec.upto langSameSpec)

end Rows
end Go.Proofs.Ytaehooafdbaomaa
