/-
  No cell of these rows narrows 'for every input' (looked for: loops, veiled, ifaces, maps, wideKeys, modest, calm, conditions, laid).
  DERIVED. THE GIVEN ROWS OF THIS SEAT. 10 by the template 'for every input the law returns true; each argument reads behind the call as it read before'; 0 by the template 'total and deterministic' (their statements: YtkiindgcbpkddaaTotals.lean).
  GIVEN WITH THE SEED: the statements are not yours to turn. If you find one false, say at which input.
  Laid BY PROGRAM, IN A SANDBOX (cutbox-rows.mjs): the forced cells as the released guide's own fill.sh prints them over the translation 4e8bcc8699705ac9… (all of the seat's roots in one cut). By AI agents, Wed Nov 11 2026. No macro, syntax, notation, axiom, sorry.
-/
import Derived.Test.YtkiindgcbpkddaaChecked
import GoSem.Claim
import GoSem.ClaimJoined
import GoSem.ClaimMapViews
import Derived.JoinedTies
import Derived.KernelRfl
namespace Go.Proofs.Ytkiindgcbpkddaa
/- THE CELL 'sum', in the pinned program and in every row, IS THE sha256 OF THE DUMP (.gsa) THAT YtkiindgcbpkddaaProg.lean LOADS. Nothing in Lean hashes anything: it is a label: what it is worth is what the hold of that sum in a sandbox is worth. -/
noncomputable def Try.pinned : Pinned := { name := "ytkiindgcbpkddaa", sum := "4e8bcc8699705ac98ede32910e2cdf0c0bf7e4be552f3c388067db789b8517a0", checked := Try.checked }
namespace Rows
def none {H : Type} : Left H := { results := [], args := [] }

/-- 'coraclelaw5.TxWeighs': WHATEVER THE INPUT: true; the input reads as it did. -/
def txWeighsSpec : ChangeSpec := { name := "txWeighs", fn := fun _ => fun
  | [d1, d2, d3] => { results := [.lit (.bool true)], args := [d1, d2, d3] }
  | _ => none }
def txWeighsRow : OpenClaim := { program := "ytkiindgcbpkddaa", sum := "4e8bcc8699705ac98ede32910e2cdf0c0bf7e4be552f3c388067db789b8517a0", func := "coracle/coraclelaw5.TxWeighs", spec := "txWeighs", unfollowed := true, recurses := true, plainKeys := false, apart := false }
def TxWeighsSaid : Prop := txWeighsRow.holds Try.pinned (OpenSpec.ofChange txWeighsSpec)

/-- ITS FALSE NEIGHBOUR: 'it returns false'. Refute it at one input. -/
def txWeighsWrong : ChangeSpec := { name := "txWeighs", fn := fun _ => fun
  | [d1, d2, d3] => { results := [.lit (.bool false)], args := [d1, d2, d3] }
  | _ => none }
def TxWeighsWrongFalsely : Prop := txWeighsRow.holds Try.pinned (OpenSpec.ofChange txWeighsWrong)

/-- 'coraclelaw21.ClassifySecond': WHATEVER THE INPUT: true; the input reads as it did. -/
def classifySecondSpec : ChangeSpec := { name := "classifySecond", fn := fun _ => fun
  | [d1, d2] => { results := [.lit (.bool true)], args := [d1, d2] }
  | _ => none }
def classifySecondRow : OpenClaim := { program := "ytkiindgcbpkddaa", sum := "4e8bcc8699705ac98ede32910e2cdf0c0bf7e4be552f3c388067db789b8517a0", func := "coracle/coraclelaw21.ClassifySecond", spec := "classifySecond", unfollowed := true, recurses := true, plainKeys := false, apart := false }
def ClassifySecondSaid : Prop := classifySecondRow.holds Try.pinned (OpenSpec.ofChange classifySecondSpec)

/-- ITS FALSE NEIGHBOUR: 'it returns false'. Refute it at one input. -/
def classifySecondWrong : ChangeSpec := { name := "classifySecond", fn := fun _ => fun
  | [d1, d2] => { results := [.lit (.bool false)], args := [d1, d2] }
  | _ => none }
def ClassifySecondWrongFalsely : Prop := classifySecondRow.holds Try.pinned (OpenSpec.ofChange classifySecondWrong)

/-- 'coraclelaw11.IndexPlays': WHATEVER THE INPUT: true; the input reads as it did. -/
def indexPlaysSpec : ChangeSpec := { name := "indexPlays", fn := fun _ => fun
  | [d1, d2, d3] => { results := [.lit (.bool true)], args := [d1, d2, d3] }
  | _ => none }
def indexPlaysRow : OpenClaim := { program := "ytkiindgcbpkddaa", sum := "4e8bcc8699705ac98ede32910e2cdf0c0bf7e4be552f3c388067db789b8517a0", func := "coracle/coraclelaw11.IndexPlays", spec := "indexPlays", unfollowed := true, recurses := true, plainKeys := false, apart := false }
def IndexPlaysSaid : Prop := indexPlaysRow.holds Try.pinned (OpenSpec.ofChange indexPlaysSpec)

/-- ITS FALSE NEIGHBOUR: 'it returns false'. Refute it at one input. -/
def indexPlaysWrong : ChangeSpec := { name := "indexPlays", fn := fun _ => fun
  | [d1, d2, d3] => { results := [.lit (.bool false)], args := [d1, d2, d3] }
  | _ => none }
def IndexPlaysWrongFalsely : Prop := indexPlaysRow.holds Try.pinned (OpenSpec.ofChange indexPlaysWrong)

/-- 'coraclelaw23.ResolveLives': WHATEVER THE INPUT: true; the input reads as it did. -/
def resolveLivesSpec : ChangeSpec := { name := "resolveLives", fn := fun _ => fun
  | [d1, d2, d3, d4] => { results := [.lit (.bool true)], args := [d1, d2, d3, d4] }
  | _ => none }
def resolveLivesRow : OpenClaim := { program := "ytkiindgcbpkddaa", sum := "4e8bcc8699705ac98ede32910e2cdf0c0bf7e4be552f3c388067db789b8517a0", func := "coracle/coraclelaw23.ResolveLives", spec := "resolveLives", unfollowed := true, recurses := true, plainKeys := false, apart := false }
def ResolveLivesSaid : Prop := resolveLivesRow.holds Try.pinned (OpenSpec.ofChange resolveLivesSpec)

/-- ITS FALSE NEIGHBOUR: 'it returns false'. Refute it at one input. -/
def resolveLivesWrong : ChangeSpec := { name := "resolveLives", fn := fun _ => fun
  | [d1, d2, d3, d4] => { results := [.lit (.bool false)], args := [d1, d2, d3, d4] }
  | _ => none }
def ResolveLivesWrongFalsely : Prop := resolveLivesRow.holds Try.pinned (OpenSpec.ofChange resolveLivesWrong)

/-- 'coraclelaw23.ResolveFollows': WHATEVER THE INPUT: true; the input reads as it did. -/
def resolveFollowsSpec : ChangeSpec := { name := "resolveFollows", fn := fun _ => fun
  | [d1, d2] => { results := [.lit (.bool true)], args := [d1, d2] }
  | _ => none }
def resolveFollowsRow : OpenClaim := { program := "ytkiindgcbpkddaa", sum := "4e8bcc8699705ac98ede32910e2cdf0c0bf7e4be552f3c388067db789b8517a0", func := "coracle/coraclelaw23.ResolveFollows", spec := "resolveFollows", unfollowed := true, recurses := true, plainKeys := false, apart := false }
def ResolveFollowsSaid : Prop := resolveFollowsRow.holds Try.pinned (OpenSpec.ofChange resolveFollowsSpec)

/-- ITS FALSE NEIGHBOUR: 'it returns false'. Refute it at one input. -/
def resolveFollowsWrong : ChangeSpec := { name := "resolveFollows", fn := fun _ => fun
  | [d1, d2] => { results := [.lit (.bool false)], args := [d1, d2] }
  | _ => none }
def ResolveFollowsWrongFalsely : Prop := resolveFollowsRow.holds Try.pinned (OpenSpec.ofChange resolveFollowsWrong)

/-- 'coraclelaw23.ResolveBack': WHATEVER THE INPUT: true; the input reads as it did. -/
def resolveBackSpec : ChangeSpec := { name := "resolveBack", fn := fun _ => fun
  | [d1, d2, d3, d4] => { results := [.lit (.bool true)], args := [d1, d2, d3, d4] }
  | _ => none }
def resolveBackRow : OpenClaim := { program := "ytkiindgcbpkddaa", sum := "4e8bcc8699705ac98ede32910e2cdf0c0bf7e4be552f3c388067db789b8517a0", func := "coracle/coraclelaw23.ResolveBack", spec := "resolveBack", unfollowed := true, recurses := true, plainKeys := false, apart := false }
def ResolveBackSaid : Prop := resolveBackRow.holds Try.pinned (OpenSpec.ofChange resolveBackSpec)

/-- ITS FALSE NEIGHBOUR: 'it returns false'. Refute it at one input. -/
def resolveBackWrong : ChangeSpec := { name := "resolveBack", fn := fun _ => fun
  | [d1, d2, d3, d4] => { results := [.lit (.bool false)], args := [d1, d2, d3, d4] }
  | _ => none }
def ResolveBackWrongFalsely : Prop := resolveBackRow.holds Try.pinned (OpenSpec.ofChange resolveBackWrong)

/-- 'coraclelaw8.WalTurns': WHATEVER THE INPUT: true; the input reads as it did. -/
def walTurnsSpec : ChangeSpec := { name := "walTurns", fn := fun _ => fun
  | [d1, d2] => { results := [.lit (.bool true)], args := [d1, d2] }
  | _ => none }
def walTurnsRow : OpenClaim := { program := "ytkiindgcbpkddaa", sum := "4e8bcc8699705ac98ede32910e2cdf0c0bf7e4be552f3c388067db789b8517a0", func := "coracle/coraclelaw8.WalTurns", spec := "walTurns", unfollowed := true, recurses := true, plainKeys := false, apart := false }
def WalTurnsSaid : Prop := walTurnsRow.holds Try.pinned (OpenSpec.ofChange walTurnsSpec)

/-- ITS FALSE NEIGHBOUR: 'it returns false'. Refute it at one input. -/
def walTurnsWrong : ChangeSpec := { name := "walTurns", fn := fun _ => fun
  | [d1, d2] => { results := [.lit (.bool false)], args := [d1, d2] }
  | _ => none }
def WalTurnsWrongFalsely : Prop := walTurnsRow.holds Try.pinned (OpenSpec.ofChange walTurnsWrong)

/-- 'coraclelaw8.WalKeeps': WHATEVER THE INPUT: true; the input reads as it did. -/
def walKeepsSpec : ChangeSpec := { name := "walKeeps", fn := fun _ => fun
  | [d] => { results := [.lit (.bool true)], args := [d] }
  | _ => none }
def walKeepsRow : OpenClaim := { program := "ytkiindgcbpkddaa", sum := "4e8bcc8699705ac98ede32910e2cdf0c0bf7e4be552f3c388067db789b8517a0", func := "coracle/coraclelaw8.WalKeeps", spec := "walKeeps", unfollowed := true, recurses := true, plainKeys := false, apart := false }
def WalKeepsSaid : Prop := walKeepsRow.holds Try.pinned (OpenSpec.ofChange walKeepsSpec)

/-- ITS FALSE NEIGHBOUR: 'it returns false'. Refute it at one input. -/
def walKeepsWrong : ChangeSpec := { name := "walKeeps", fn := fun _ => fun
  | [d] => { results := [.lit (.bool false)], args := [d] }
  | _ => none }
def WalKeepsWrongFalsely : Prop := walKeepsRow.holds Try.pinned (OpenSpec.ofChange walKeepsWrong)

/-- 'coraclelaw8.WalReset': WHATEVER THE INPUT: true; the input reads as it did. -/
def walResetSpec : ChangeSpec := { name := "walReset", fn := fun _ => fun
  | [d1, d2, d3] => { results := [.lit (.bool true)], args := [d1, d2, d3] }
  | _ => none }
def walResetRow : OpenClaim := { program := "ytkiindgcbpkddaa", sum := "4e8bcc8699705ac98ede32910e2cdf0c0bf7e4be552f3c388067db789b8517a0", func := "coracle/coraclelaw8.WalReset", spec := "walReset", unfollowed := true, recurses := true, plainKeys := false, apart := false }
def WalResetSaid : Prop := walResetRow.holds Try.pinned (OpenSpec.ofChange walResetSpec)

/-- ITS FALSE NEIGHBOUR: 'it returns false'. Refute it at one input. -/
def walResetWrong : ChangeSpec := { name := "walReset", fn := fun _ => fun
  | [d1, d2, d3] => { results := [.lit (.bool false)], args := [d1, d2, d3] }
  | _ => none }
def WalResetWrongFalsely : Prop := walResetRow.holds Try.pinned (OpenSpec.ofChange walResetWrong)

/-- 'coraclelaw8.WalCrash': WHATEVER THE INPUT: true; the input reads as it did. -/
def walCrashSpec : ChangeSpec := { name := "walCrash", fn := fun _ => fun
  | [d1, d2, d3, d4, d5] => { results := [.lit (.bool true)], args := [d1, d2, d3, d4, d5] }
  | _ => none }
def walCrashRow : OpenClaim := { program := "ytkiindgcbpkddaa", sum := "4e8bcc8699705ac98ede32910e2cdf0c0bf7e4be552f3c388067db789b8517a0", func := "coracle/coraclelaw8.WalCrash", spec := "walCrash", unfollowed := true, recurses := true, plainKeys := false, apart := false }
def WalCrashSaid : Prop := walCrashRow.holds Try.pinned (OpenSpec.ofChange walCrashSpec)

/-- ITS FALSE NEIGHBOUR: 'it returns false'. Refute it at one input. -/
def walCrashWrong : ChangeSpec := { name := "walCrash", fn := fun _ => fun
  | [d1, d2, d3, d4, d5] => { results := [.lit (.bool false)], args := [d1, d2, d3, d4, d5] }
  | _ => none }
def WalCrashWrongFalsely : Prop := walCrashRow.holds Try.pinned (OpenSpec.ofChange walCrashWrong)

/- THE SECOND FORM. 'bulk': how many values and letters a reading holds, each counted each time it is reached (what is shared counts as often as it is met; a slice's spare places count too). A statement '..UptoSaid' is the law's where the arguments, and the package variables that the reading takes, are together of bulk at most 1048576: NARROWER than '..Said'. Prove '..Said' where nothing that the law and all that it calls make is longer than what came in: it says more and counts as full. Else prove '..UptoSaid'. A law counts once. -/
mutual
def uptoBulk {H : Type} : DataW H → Nat
  | .lit (.string bytes) => bytes.length + 1
  | .lit _ => 1
  | .nil => 1
  | .ptr d => uptoBulk d + 1
  | .slice elems spare => uptoBulkAll elems + uptoBulkAll spare + 1
  | .agg parts => uptoBulkAll parts + 1
  | .iface _ d => uptoBulk d + 1
  | .map entries => uptoBulkEntries entries + 1
  | .held _ => 1
def uptoBulkAll {H : Type} : List (DataW H) → Nat
  | [] => 0
  | d :: r => uptoBulk d + uptoBulkAll r
def uptoBulkEntries {H : Type} : List (Lit × DataW H) → Nat
  | [] => 0
  | x :: r => uptoBulkEntry x + uptoBulkEntries r
def uptoBulkEntry {H : Type} : Lit × DataW H → Nat
  | (.string bytes, d) => bytes.length + uptoBulk d + 1
  | (_, d) => uptoBulk d + 1
 end
def uptoSmall : (H : Type) → List (DataW H) → Bool := fun _ ds => decide (uptoBulkAll ds ≤ 1048576)
def OpenSpec.upto (s : _root_.Go.ChangeSpec) : _root_.Go.OpenSpec := { _root_.Go.OpenSpec.ofChange s with cond := some uptoSmall }

/-- 'coraclelaw5.TxWeighs', WHERE WHAT IT READS IS OF BULK AT MOST 1048576: true; the input reads as it did. -/
def txWeighsUptoRow : OpenClaim := { program := "ytkiindgcbpkddaa", sum := "4e8bcc8699705ac98ede32910e2cdf0c0bf7e4be552f3c388067db789b8517a0", func := "coracle/coraclelaw5.TxWeighs", spec := "txWeighs", unfollowed := true, recurses := true, plainKeys := false, apart := false, narrowed := true }
def TxWeighsUptoSaid : Prop := txWeighsUptoRow.holds Try.pinned (OpenSpec.upto txWeighsSpec)

/-- 'coraclelaw21.ClassifySecond', WHERE WHAT IT READS IS OF BULK AT MOST 1048576: true; the input reads as it did. -/
def classifySecondUptoRow : OpenClaim := { program := "ytkiindgcbpkddaa", sum := "4e8bcc8699705ac98ede32910e2cdf0c0bf7e4be552f3c388067db789b8517a0", func := "coracle/coraclelaw21.ClassifySecond", spec := "classifySecond", unfollowed := true, recurses := true, plainKeys := false, apart := false, narrowed := true }
def ClassifySecondUptoSaid : Prop := classifySecondUptoRow.holds Try.pinned (OpenSpec.upto classifySecondSpec)

/-- 'coraclelaw11.IndexPlays', WHERE WHAT IT READS IS OF BULK AT MOST 1048576: true; the input reads as it did. -/
def indexPlaysUptoRow : OpenClaim := { program := "ytkiindgcbpkddaa", sum := "4e8bcc8699705ac98ede32910e2cdf0c0bf7e4be552f3c388067db789b8517a0", func := "coracle/coraclelaw11.IndexPlays", spec := "indexPlays", unfollowed := true, recurses := true, plainKeys := false, apart := false, narrowed := true }
def IndexPlaysUptoSaid : Prop := indexPlaysUptoRow.holds Try.pinned (OpenSpec.upto indexPlaysSpec)

/-- 'coraclelaw23.ResolveLives', WHERE WHAT IT READS IS OF BULK AT MOST 1048576: true; the input reads as it did. -/
def resolveLivesUptoRow : OpenClaim := { program := "ytkiindgcbpkddaa", sum := "4e8bcc8699705ac98ede32910e2cdf0c0bf7e4be552f3c388067db789b8517a0", func := "coracle/coraclelaw23.ResolveLives", spec := "resolveLives", unfollowed := true, recurses := true, plainKeys := false, apart := false, narrowed := true }
def ResolveLivesUptoSaid : Prop := resolveLivesUptoRow.holds Try.pinned (OpenSpec.upto resolveLivesSpec)

/-- 'coraclelaw23.ResolveFollows', WHERE WHAT IT READS IS OF BULK AT MOST 1048576: true; the input reads as it did. -/
def resolveFollowsUptoRow : OpenClaim := { program := "ytkiindgcbpkddaa", sum := "4e8bcc8699705ac98ede32910e2cdf0c0bf7e4be552f3c388067db789b8517a0", func := "coracle/coraclelaw23.ResolveFollows", spec := "resolveFollows", unfollowed := true, recurses := true, plainKeys := false, apart := false, narrowed := true }
def ResolveFollowsUptoSaid : Prop := resolveFollowsUptoRow.holds Try.pinned (OpenSpec.upto resolveFollowsSpec)

/-- 'coraclelaw23.ResolveBack', WHERE WHAT IT READS IS OF BULK AT MOST 1048576: true; the input reads as it did. -/
def resolveBackUptoRow : OpenClaim := { program := "ytkiindgcbpkddaa", sum := "4e8bcc8699705ac98ede32910e2cdf0c0bf7e4be552f3c388067db789b8517a0", func := "coracle/coraclelaw23.ResolveBack", spec := "resolveBack", unfollowed := true, recurses := true, plainKeys := false, apart := false, narrowed := true }
def ResolveBackUptoSaid : Prop := resolveBackUptoRow.holds Try.pinned (OpenSpec.upto resolveBackSpec)

/-- 'coraclelaw8.WalTurns', WHERE WHAT IT READS IS OF BULK AT MOST 1048576: true; the input reads as it did. -/
def walTurnsUptoRow : OpenClaim := { program := "ytkiindgcbpkddaa", sum := "4e8bcc8699705ac98ede32910e2cdf0c0bf7e4be552f3c388067db789b8517a0", func := "coracle/coraclelaw8.WalTurns", spec := "walTurns", unfollowed := true, recurses := true, plainKeys := false, apart := false, narrowed := true }
def WalTurnsUptoSaid : Prop := walTurnsUptoRow.holds Try.pinned (OpenSpec.upto walTurnsSpec)

/-- 'coraclelaw8.WalKeeps', WHERE WHAT IT READS IS OF BULK AT MOST 1048576: true; the input reads as it did. -/
def walKeepsUptoRow : OpenClaim := { program := "ytkiindgcbpkddaa", sum := "4e8bcc8699705ac98ede32910e2cdf0c0bf7e4be552f3c388067db789b8517a0", func := "coracle/coraclelaw8.WalKeeps", spec := "walKeeps", unfollowed := true, recurses := true, plainKeys := false, apart := false, narrowed := true }
def WalKeepsUptoSaid : Prop := walKeepsUptoRow.holds Try.pinned (OpenSpec.upto walKeepsSpec)

/-- 'coraclelaw8.WalReset', WHERE WHAT IT READS IS OF BULK AT MOST 1048576: true; the input reads as it did. -/
def walResetUptoRow : OpenClaim := { program := "ytkiindgcbpkddaa", sum := "4e8bcc8699705ac98ede32910e2cdf0c0bf7e4be552f3c388067db789b8517a0", func := "coracle/coraclelaw8.WalReset", spec := "walReset", unfollowed := true, recurses := true, plainKeys := false, apart := false, narrowed := true }
def WalResetUptoSaid : Prop := walResetUptoRow.holds Try.pinned (OpenSpec.upto walResetSpec)

/-- 'coraclelaw8.WalCrash', WHERE WHAT IT READS IS OF BULK AT MOST 1048576: true; the input reads as it did. -/
def walCrashUptoRow : OpenClaim := { program := "ytkiindgcbpkddaa", sum := "4e8bcc8699705ac98ede32910e2cdf0c0bf7e4be552f3c388067db789b8517a0", func := "coracle/coraclelaw8.WalCrash", spec := "walCrash", unfollowed := true, recurses := true, plainKeys := false, apart := false, narrowed := true }
def WalCrashUptoSaid : Prop := walCrashUptoRow.holds Try.pinned (OpenSpec.upto walCrashSpec)

end Rows
end Go.Proofs.Ytkiindgcbpkddaa
