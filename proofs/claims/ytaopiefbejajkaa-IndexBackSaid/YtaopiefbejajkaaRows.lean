/-
  No cell of these rows narrows 'for every input' (looked for: loops, veiled, ifaces, maps, wideKeys, modest, calm, conditions, laid).
  DERIVED. THE GIVEN ROWS OF THIS SEAT. 10 by the template 'for every input the law returns true; each argument reads behind the call as it read before'; 0 by the template 'total and deterministic' (their statements: YtaopiefbejajkaaTotals.lean).
  GIVEN WITH THE SEED: the statements are not yours to turn. If you find one false, say at which input.
  Laid BY PROGRAM, IN A SANDBOX (cutbox-rows.mjs): the forced cells as the released guide's own fill.sh prints them over the translation 6d0efe975cb2a8d4… (all of the seat's roots in one cut). By AI agents, Wed Nov 11 2026. No macro, syntax, notation, axiom, sorry.
-/
import Derived.Test.YtaopiefbejajkaaChecked
import GoSem.Claim
import GoSem.ClaimJoined
import GoSem.ClaimMapViews
import Derived.JoinedTies
import Derived.KernelRfl
namespace Go.Proofs.Ytaopiefbejajkaa
/- THE CELL 'sum', in the pinned program and in every row, IS THE sha256 OF THE DUMP (.gsa) THAT YtaopiefbejajkaaProg.lean LOADS. Nothing in Lean hashes anything: it is a label: what it is worth is what the hold of that sum in a sandbox is worth. -/
noncomputable def Try.pinned : Pinned := { name := "ytaopiefbejajkaa", sum := "6d0efe975cb2a8d431e6a24a93bab674d77491e694e28014f74be8bce1d813a6", checked := Try.checked }
namespace Rows
def none {H : Type} : Left H := { results := [], args := [] }

/-- 'coraclelaw23.ResolveDue': WHATEVER THE INPUT: true; the input reads as it did. -/
def resolveDueSpec : ChangeSpec := { name := "resolveDue", fn := fun _ => fun
  | [d1, d2, d3, d4, d5, d6, d7] => { results := [.lit (.bool true)], args := [d1, d2, d3, d4, d5, d6, d7] }
  | _ => none }
def resolveDueRow : OpenClaim := { program := "ytaopiefbejajkaa", sum := "6d0efe975cb2a8d431e6a24a93bab674d77491e694e28014f74be8bce1d813a6", func := "coracle/coraclelaw23.ResolveDue", spec := "resolveDue", unfollowed := true, recurses := true, plainKeys := false, apart := false }
def ResolveDueSaid : Prop := resolveDueRow.holds Try.pinned (OpenSpec.ofChange resolveDueSpec)

/-- ITS FALSE NEIGHBOUR: 'it returns false'. Refute it at one input. -/
def resolveDueWrong : ChangeSpec := { name := "resolveDue", fn := fun _ => fun
  | [d1, d2, d3, d4, d5, d6, d7] => { results := [.lit (.bool false)], args := [d1, d2, d3, d4, d5, d6, d7] }
  | _ => none }
def ResolveDueWrongFalsely : Prop := resolveDueRow.holds Try.pinned (OpenSpec.ofChange resolveDueWrong)

/-- 'coraclelaw5.TxWeighs': WHATEVER THE INPUT: true; the input reads as it did. -/
def txWeighsSpec : ChangeSpec := { name := "txWeighs", fn := fun _ => fun
  | [d1, d2, d3] => { results := [.lit (.bool true)], args := [d1, d2, d3] }
  | _ => none }
def txWeighsRow : OpenClaim := { program := "ytaopiefbejajkaa", sum := "6d0efe975cb2a8d431e6a24a93bab674d77491e694e28014f74be8bce1d813a6", func := "coracle/coraclelaw5.TxWeighs", spec := "txWeighs", unfollowed := true, recurses := true, plainKeys := false, apart := false }
def TxWeighsSaid : Prop := txWeighsRow.holds Try.pinned (OpenSpec.ofChange txWeighsSpec)

/-- ITS FALSE NEIGHBOUR: 'it returns false'. Refute it at one input. -/
def txWeighsWrong : ChangeSpec := { name := "txWeighs", fn := fun _ => fun
  | [d1, d2, d3] => { results := [.lit (.bool false)], args := [d1, d2, d3] }
  | _ => none }
def TxWeighsWrongFalsely : Prop := txWeighsRow.holds Try.pinned (OpenSpec.ofChange txWeighsWrong)

/-- 'coraclelaw21.ClassifySecond': WHATEVER THE INPUT: true; the input reads as it did. -/
def classifySecondSpec : ChangeSpec := { name := "classifySecond", fn := fun _ => fun
  | [d1, d2] => { results := [.lit (.bool true)], args := [d1, d2] }
  | _ => none }
def classifySecondRow : OpenClaim := { program := "ytaopiefbejajkaa", sum := "6d0efe975cb2a8d431e6a24a93bab674d77491e694e28014f74be8bce1d813a6", func := "coracle/coraclelaw21.ClassifySecond", spec := "classifySecond", unfollowed := true, recurses := true, plainKeys := false, apart := false }
def ClassifySecondSaid : Prop := classifySecondRow.holds Try.pinned (OpenSpec.ofChange classifySecondSpec)

/-- ITS FALSE NEIGHBOUR: 'it returns false'. Refute it at one input. -/
def classifySecondWrong : ChangeSpec := { name := "classifySecond", fn := fun _ => fun
  | [d1, d2] => { results := [.lit (.bool false)], args := [d1, d2] }
  | _ => none }
def ClassifySecondWrongFalsely : Prop := classifySecondRow.holds Try.pinned (OpenSpec.ofChange classifySecondWrong)

/-- 'coraclelaw11.IndexBack': WHATEVER THE INPUT: true; the input reads as it did. -/
def indexBackSpec : ChangeSpec := { name := "indexBack", fn := fun _ => fun
  | [d1, d2] => { results := [.lit (.bool true)], args := [d1, d2] }
  | _ => none }
def indexBackRow : OpenClaim := { program := "ytaopiefbejajkaa", sum := "6d0efe975cb2a8d431e6a24a93bab674d77491e694e28014f74be8bce1d813a6", func := "coracle/coraclelaw11.IndexBack", spec := "indexBack", unfollowed := true, recurses := true, plainKeys := false, apart := false }
def IndexBackSaid : Prop := indexBackRow.holds Try.pinned (OpenSpec.ofChange indexBackSpec)

/-- ITS FALSE NEIGHBOUR: 'it returns false'. Refute it at one input. -/
def indexBackWrong : ChangeSpec := { name := "indexBack", fn := fun _ => fun
  | [d1, d2] => { results := [.lit (.bool false)], args := [d1, d2] }
  | _ => none }
def IndexBackWrongFalsely : Prop := indexBackRow.holds Try.pinned (OpenSpec.ofChange indexBackWrong)

/-- 'coraclelaw11.IndexRules': WHATEVER THE INPUT: true; the input reads as it did. -/
def indexRulesSpec : ChangeSpec := { name := "indexRules", fn := fun _ => fun
  | [d1, d2, d3, d4] => { results := [.lit (.bool true)], args := [d1, d2, d3, d4] }
  | _ => none }
def indexRulesRow : OpenClaim := { program := "ytaopiefbejajkaa", sum := "6d0efe975cb2a8d431e6a24a93bab674d77491e694e28014f74be8bce1d813a6", func := "coracle/coraclelaw11.IndexRules", spec := "indexRules", unfollowed := true, recurses := true, plainKeys := false, apart := false }
def IndexRulesSaid : Prop := indexRulesRow.holds Try.pinned (OpenSpec.ofChange indexRulesSpec)

/-- ITS FALSE NEIGHBOUR: 'it returns false'. Refute it at one input. -/
def indexRulesWrong : ChangeSpec := { name := "indexRules", fn := fun _ => fun
  | [d1, d2, d3, d4] => { results := [.lit (.bool false)], args := [d1, d2, d3, d4] }
  | _ => none }
def IndexRulesWrongFalsely : Prop := indexRulesRow.holds Try.pinned (OpenSpec.ofChange indexRulesWrong)

/-- 'coraclelaw11.IndexOne': WHATEVER THE INPUT: true; the input reads as it did. -/
def indexOneSpec : ChangeSpec := { name := "indexOne", fn := fun _ => fun
  | [d1, d2] => { results := [.lit (.bool true)], args := [d1, d2] }
  | _ => none }
def indexOneRow : OpenClaim := { program := "ytaopiefbejajkaa", sum := "6d0efe975cb2a8d431e6a24a93bab674d77491e694e28014f74be8bce1d813a6", func := "coracle/coraclelaw11.IndexOne", spec := "indexOne", unfollowed := true, recurses := true, plainKeys := false, apart := false }
def IndexOneSaid : Prop := indexOneRow.holds Try.pinned (OpenSpec.ofChange indexOneSpec)

/-- ITS FALSE NEIGHBOUR: 'it returns false'. Refute it at one input. -/
def indexOneWrong : ChangeSpec := { name := "indexOne", fn := fun _ => fun
  | [d1, d2] => { results := [.lit (.bool false)], args := [d1, d2] }
  | _ => none }
def IndexOneWrongFalsely : Prop := indexOneRow.holds Try.pinned (OpenSpec.ofChange indexOneWrong)

/-- 'coraclelaw11.IndexPlays': WHATEVER THE INPUT: true; the input reads as it did. -/
def indexPlaysSpec : ChangeSpec := { name := "indexPlays", fn := fun _ => fun
  | [d1, d2, d3] => { results := [.lit (.bool true)], args := [d1, d2, d3] }
  | _ => none }
def indexPlaysRow : OpenClaim := { program := "ytaopiefbejajkaa", sum := "6d0efe975cb2a8d431e6a24a93bab674d77491e694e28014f74be8bce1d813a6", func := "coracle/coraclelaw11.IndexPlays", spec := "indexPlays", unfollowed := true, recurses := true, plainKeys := false, apart := false }
def IndexPlaysSaid : Prop := indexPlaysRow.holds Try.pinned (OpenSpec.ofChange indexPlaysSpec)

/-- ITS FALSE NEIGHBOUR: 'it returns false'. Refute it at one input. -/
def indexPlaysWrong : ChangeSpec := { name := "indexPlays", fn := fun _ => fun
  | [d1, d2, d3] => { results := [.lit (.bool false)], args := [d1, d2, d3] }
  | _ => none }
def IndexPlaysWrongFalsely : Prop := indexPlaysRow.holds Try.pinned (OpenSpec.ofChange indexPlaysWrong)

/-- 'coraclelaw7.FileSafe': WHATEVER THE INPUT: true; the input reads as it did. -/
def fileSafeSpec : ChangeSpec := { name := "fileSafe", fn := fun _ => fun
  | [d1, d2, d3] => { results := [.lit (.bool true)], args := [d1, d2, d3] }
  | _ => none }
def fileSafeRow : OpenClaim := { program := "ytaopiefbejajkaa", sum := "6d0efe975cb2a8d431e6a24a93bab674d77491e694e28014f74be8bce1d813a6", func := "coracle/coraclelaw7.FileSafe", spec := "fileSafe", unfollowed := true, recurses := true, plainKeys := false, apart := false }
def FileSafeSaid : Prop := fileSafeRow.holds Try.pinned (OpenSpec.ofChange fileSafeSpec)

/-- ITS FALSE NEIGHBOUR: 'it returns false'. Refute it at one input. -/
def fileSafeWrong : ChangeSpec := { name := "fileSafe", fn := fun _ => fun
  | [d1, d2, d3] => { results := [.lit (.bool false)], args := [d1, d2, d3] }
  | _ => none }
def FileSafeWrongFalsely : Prop := fileSafeRow.holds Try.pinned (OpenSpec.ofChange fileSafeWrong)

/-- 'coraclelaw7.FileCuts': WHATEVER THE INPUT: true; the input reads as it did. -/
def fileCutsSpec : ChangeSpec := { name := "fileCuts", fn := fun _ => fun
  | [d1, d2] => { results := [.lit (.bool true)], args := [d1, d2] }
  | _ => none }
def fileCutsRow : OpenClaim := { program := "ytaopiefbejajkaa", sum := "6d0efe975cb2a8d431e6a24a93bab674d77491e694e28014f74be8bce1d813a6", func := "coracle/coraclelaw7.FileCuts", spec := "fileCuts", unfollowed := true, recurses := true, plainKeys := false, apart := false }
def FileCutsSaid : Prop := fileCutsRow.holds Try.pinned (OpenSpec.ofChange fileCutsSpec)

/-- ITS FALSE NEIGHBOUR: 'it returns false'. Refute it at one input. -/
def fileCutsWrong : ChangeSpec := { name := "fileCuts", fn := fun _ => fun
  | [d1, d2] => { results := [.lit (.bool false)], args := [d1, d2] }
  | _ => none }
def FileCutsWrongFalsely : Prop := fileCutsRow.holds Try.pinned (OpenSpec.ofChange fileCutsWrong)

/-- 'coraclelaw7.FileNames': WHATEVER THE INPUT: true; the input reads as it did. -/
def fileNamesSpec : ChangeSpec := { name := "fileNames", fn := fun _ => fun
  | [d1, d2, d3] => { results := [.lit (.bool true)], args := [d1, d2, d3] }
  | _ => none }
def fileNamesRow : OpenClaim := { program := "ytaopiefbejajkaa", sum := "6d0efe975cb2a8d431e6a24a93bab674d77491e694e28014f74be8bce1d813a6", func := "coracle/coraclelaw7.FileNames", spec := "fileNames", unfollowed := true, recurses := true, plainKeys := false, apart := false }
def FileNamesSaid : Prop := fileNamesRow.holds Try.pinned (OpenSpec.ofChange fileNamesSpec)

/-- ITS FALSE NEIGHBOUR: 'it returns false'. Refute it at one input. -/
def fileNamesWrong : ChangeSpec := { name := "fileNames", fn := fun _ => fun
  | [d1, d2, d3] => { results := [.lit (.bool false)], args := [d1, d2, d3] }
  | _ => none }
def FileNamesWrongFalsely : Prop := fileNamesRow.holds Try.pinned (OpenSpec.ofChange fileNamesWrong)

/- THE SECOND FORM. 'bulk': how many values and letters a reading holds, each counted each time it is reached (what is shared counts as often as it is met; a slice's spare places count too). A statement '..UptoSaid' is the law's where the arguments, and the package variables that the reading takes, are together of bulk at most 1048576: NARROWER than '..Said'. Prove '..Said' where nothing that the law and all that it calls make is longer than what came in: it says more and counts as full. Else prove '..UptoSaid'. A law counts once. -/
mutual
def uptoBulk {H : Type} : DataW H → Nat
  | .lit (.string bytes) => bytes.length + 1
  | .lit _ => 1
  | .nil => 1
  | .ptr d => uptoBulk d + 1
  | .slice elems spare => uptoBulkAll elems + uptoBulkAll spare + 1
  | .agg parts => uptoBulkAll parts + 1
  | .iface _ d => uptoBulk d + 1
  | .map entries => uptoBulkEntries entries + 1
  | .held _ => 1
def uptoBulkAll {H : Type} : List (DataW H) → Nat
  | [] => 0
  | d :: r => uptoBulk d + uptoBulkAll r
def uptoBulkEntries {H : Type} : List (Lit × DataW H) → Nat
  | [] => 0
  | x :: r => uptoBulkEntry x + uptoBulkEntries r
def uptoBulkEntry {H : Type} : Lit × DataW H → Nat
  | (.string bytes, d) => bytes.length + uptoBulk d + 1
  | (_, d) => uptoBulk d + 1
 end
def uptoSmall : (H : Type) → List (DataW H) → Bool := fun _ ds => decide (uptoBulkAll ds ≤ 1048576)
def OpenSpec.upto (s : _root_.Go.ChangeSpec) : _root_.Go.OpenSpec := { _root_.Go.OpenSpec.ofChange s with cond := some uptoSmall }

/-- 'coraclelaw23.ResolveDue', WHERE WHAT IT READS IS OF BULK AT MOST 1048576: true; the input reads as it did. -/
def resolveDueUptoRow : OpenClaim := { program := "ytaopiefbejajkaa", sum := "6d0efe975cb2a8d431e6a24a93bab674d77491e694e28014f74be8bce1d813a6", func := "coracle/coraclelaw23.ResolveDue", spec := "resolveDue", unfollowed := true, recurses := true, plainKeys := false, apart := false, narrowed := true }
def ResolveDueUptoSaid : Prop := resolveDueUptoRow.holds Try.pinned (OpenSpec.upto resolveDueSpec)

/-- 'coraclelaw5.TxWeighs', WHERE WHAT IT READS IS OF BULK AT MOST 1048576: true; the input reads as it did. -/
def txWeighsUptoRow : OpenClaim := { program := "ytaopiefbejajkaa", sum := "6d0efe975cb2a8d431e6a24a93bab674d77491e694e28014f74be8bce1d813a6", func := "coracle/coraclelaw5.TxWeighs", spec := "txWeighs", unfollowed := true, recurses := true, plainKeys := false, apart := false, narrowed := true }
def TxWeighsUptoSaid : Prop := txWeighsUptoRow.holds Try.pinned (OpenSpec.upto txWeighsSpec)

/-- 'coraclelaw21.ClassifySecond', WHERE WHAT IT READS IS OF BULK AT MOST 1048576: true; the input reads as it did. -/
def classifySecondUptoRow : OpenClaim := { program := "ytaopiefbejajkaa", sum := "6d0efe975cb2a8d431e6a24a93bab674d77491e694e28014f74be8bce1d813a6", func := "coracle/coraclelaw21.ClassifySecond", spec := "classifySecond", unfollowed := true, recurses := true, plainKeys := false, apart := false, narrowed := true }
def ClassifySecondUptoSaid : Prop := classifySecondUptoRow.holds Try.pinned (OpenSpec.upto classifySecondSpec)

/-- 'coraclelaw11.IndexBack', WHERE WHAT IT READS IS OF BULK AT MOST 1048576: true; the input reads as it did. -/
def indexBackUptoRow : OpenClaim := { program := "ytaopiefbejajkaa", sum := "6d0efe975cb2a8d431e6a24a93bab674d77491e694e28014f74be8bce1d813a6", func := "coracle/coraclelaw11.IndexBack", spec := "indexBack", unfollowed := true, recurses := true, plainKeys := false, apart := false, narrowed := true }
def IndexBackUptoSaid : Prop := indexBackUptoRow.holds Try.pinned (OpenSpec.upto indexBackSpec)

/-- 'coraclelaw11.IndexRules', WHERE WHAT IT READS IS OF BULK AT MOST 1048576: true; the input reads as it did. -/
def indexRulesUptoRow : OpenClaim := { program := "ytaopiefbejajkaa", sum := "6d0efe975cb2a8d431e6a24a93bab674d77491e694e28014f74be8bce1d813a6", func := "coracle/coraclelaw11.IndexRules", spec := "indexRules", unfollowed := true, recurses := true, plainKeys := false, apart := false, narrowed := true }
def IndexRulesUptoSaid : Prop := indexRulesUptoRow.holds Try.pinned (OpenSpec.upto indexRulesSpec)

/-- 'coraclelaw11.IndexOne', WHERE WHAT IT READS IS OF BULK AT MOST 1048576: true; the input reads as it did. -/
def indexOneUptoRow : OpenClaim := { program := "ytaopiefbejajkaa", sum := "6d0efe975cb2a8d431e6a24a93bab674d77491e694e28014f74be8bce1d813a6", func := "coracle/coraclelaw11.IndexOne", spec := "indexOne", unfollowed := true, recurses := true, plainKeys := false, apart := false, narrowed := true }
def IndexOneUptoSaid : Prop := indexOneUptoRow.holds Try.pinned (OpenSpec.upto indexOneSpec)

/-- 'coraclelaw11.IndexPlays', WHERE WHAT IT READS IS OF BULK AT MOST 1048576: true; the input reads as it did. -/
def indexPlaysUptoRow : OpenClaim := { program := "ytaopiefbejajkaa", sum := "6d0efe975cb2a8d431e6a24a93bab674d77491e694e28014f74be8bce1d813a6", func := "coracle/coraclelaw11.IndexPlays", spec := "indexPlays", unfollowed := true, recurses := true, plainKeys := false, apart := false, narrowed := true }
def IndexPlaysUptoSaid : Prop := indexPlaysUptoRow.holds Try.pinned (OpenSpec.upto indexPlaysSpec)

/-- 'coraclelaw7.FileSafe', WHERE WHAT IT READS IS OF BULK AT MOST 1048576: true; the input reads as it did. -/
def fileSafeUptoRow : OpenClaim := { program := "ytaopiefbejajkaa", sum := "6d0efe975cb2a8d431e6a24a93bab674d77491e694e28014f74be8bce1d813a6", func := "coracle/coraclelaw7.FileSafe", spec := "fileSafe", unfollowed := true, recurses := true, plainKeys := false, apart := false, narrowed := true }
def FileSafeUptoSaid : Prop := fileSafeUptoRow.holds Try.pinned (OpenSpec.upto fileSafeSpec)

/-- 'coraclelaw7.FileCuts', WHERE WHAT IT READS IS OF BULK AT MOST 1048576: true; the input reads as it did. -/
def fileCutsUptoRow : OpenClaim := { program := "ytaopiefbejajkaa", sum := "6d0efe975cb2a8d431e6a24a93bab674d77491e694e28014f74be8bce1d813a6", func := "coracle/coraclelaw7.FileCuts", spec := "fileCuts", unfollowed := true, recurses := true, plainKeys := false, apart := false, narrowed := true }
def FileCutsUptoSaid : Prop := fileCutsUptoRow.holds Try.pinned (OpenSpec.upto fileCutsSpec)

/-- 'coraclelaw7.FileNames', WHERE WHAT IT READS IS OF BULK AT MOST 1048576: true; the input reads as it did. -/
def fileNamesUptoRow : OpenClaim := { program := "ytaopiefbejajkaa", sum := "6d0efe975cb2a8d431e6a24a93bab674d77491e694e28014f74be8bce1d813a6", func := "coracle/coraclelaw7.FileNames", spec := "fileNames", unfollowed := true, recurses := true, plainKeys := false, apart := false, narrowed := true }
def FileNamesUptoSaid : Prop := fileNamesUptoRow.holds Try.pinned (OpenSpec.upto fileNamesSpec)

end Rows
end Go.Proofs.Ytaopiefbejajkaa
