/-
  No cell of these rows narrows 'for every input' (looked for: loops, veiled, ifaces, maps, wideKeys, modest, calm, conditions, laid).
  DERIVED. THE GIVEN ROWS OF THIS SEAT. 10 by the template 'for every input the law returns true; each argument reads behind the call as it read before'; 0 by the template 'total and deterministic' (their statements: YtlkojkjeklblkaaGreatTotals.lean).
  GIVEN WITH THE SEED: the statements are not yours to turn. If you find one false, say at which input.
  Laid BY PROGRAM, IN A SANDBOX (cutbox-rows.mjs): the forced cells as the released guide's own fill.sh prints them over the translation 0314b3e9bb80f895… (all of the seat's roots in one cut). By AI agents, Wed Nov 11 2026. No macro, syntax, notation, axiom, sorry.
-/
import Derived.Test.YtlkojkjeklblkaaGreatChecked
import GoSem.Claim
import GoSem.ClaimJoined
import GoSem.ClaimMapViews
import Derived.JoinedTies
import Derived.KernelRfl
namespace Go.Proofs.YtlkojkjeklblkaaGreat
/- THE CELL 'sum', in the pinned program and in every row, IS THE sha256 OF THE DUMP (.gsa) THAT YtlkojkjeklblkaaGreatProg.lean LOADS. Nothing in Lean hashes anything: it is a label: what it is worth is what the hold of that sum in a sandbox is worth. -/
noncomputable def Tryz.pinned : Pinned := { name := "ytlkojkjeklblkaagreat", sum := "0314b3e9bb80f895646fc1f995549001a9ed2bd53b522ab71d666bfb253c18d3", checked := Tryz.checked }
namespace Rows
def none {H : Type} : Left H := { results := [], args := [] }

/-- 'coraclelaw12.NotifyPlays': WHATEVER THE INPUT: true; the input reads as it did. -/
def notifyPlaysSpec : ChangeSpec := { name := "notifyPlays", fn := fun _ => fun
  | [d1, d2] => { results := [.lit (.bool true)], args := [d1, d2] }
  | _ => none }
def notifyPlaysRow : OpenClaim := { program := "ytlkojkjeklblkaagreat", sum := "0314b3e9bb80f895646fc1f995549001a9ed2bd53b522ab71d666bfb253c18d3", func := "coracle/coraclelaw12.NotifyPlays", spec := "notifyPlays", unfollowed := true, recurses := true, plainKeys := false, apart := false }
def NotifyPlaysSaid : Prop := notifyPlaysRow.holds Tryz.pinned (OpenSpec.ofChange notifyPlaysSpec)

/-- ITS FALSE NEIGHBOUR: 'it returns false'. Refute it at one input. -/
def notifyPlaysWrong : ChangeSpec := { name := "notifyPlays", fn := fun _ => fun
  | [d1, d2] => { results := [.lit (.bool false)], args := [d1, d2] }
  | _ => none }
def NotifyPlaysWrongFalsely : Prop := notifyPlaysRow.holds Tryz.pinned (OpenSpec.ofChange notifyPlaysWrong)

/-- 'coraclelaw12.NotifyPairs': WHATEVER THE INPUT: true; the input reads as it did. -/
def notifyPairsSpec : ChangeSpec := { name := "notifyPairs", fn := fun _ => fun
  | [d] => { results := [.lit (.bool true)], args := [d] }
  | _ => none }
def notifyPairsRow : OpenClaim := { program := "ytlkojkjeklblkaagreat", sum := "0314b3e9bb80f895646fc1f995549001a9ed2bd53b522ab71d666bfb253c18d3", func := "coracle/coraclelaw12.NotifyPairs", spec := "notifyPairs", unfollowed := true, recurses := true, plainKeys := false, apart := false }
def NotifyPairsSaid : Prop := notifyPairsRow.holds Tryz.pinned (OpenSpec.ofChange notifyPairsSpec)

/-- ITS FALSE NEIGHBOUR: 'it returns false'. Refute it at one input. -/
def notifyPairsWrong : ChangeSpec := { name := "notifyPairs", fn := fun _ => fun
  | [d] => { results := [.lit (.bool false)], args := [d] }
  | _ => none }
def NotifyPairsWrongFalsely : Prop := notifyPairsRow.holds Tryz.pinned (OpenSpec.ofChange notifyPairsWrong)

/-- 'coraclelaw12.NotifyDepth': WHATEVER THE INPUT: true; the input reads as it did. -/
def notifyDepthSpec : ChangeSpec := { name := "notifyDepth", fn := fun _ => fun
  | [d1, d2, d3] => { results := [.lit (.bool true)], args := [d1, d2, d3] }
  | _ => none }
def notifyDepthRow : OpenClaim := { program := "ytlkojkjeklblkaagreat", sum := "0314b3e9bb80f895646fc1f995549001a9ed2bd53b522ab71d666bfb253c18d3", func := "coracle/coraclelaw12.NotifyDepth", spec := "notifyDepth", unfollowed := true, recurses := true, plainKeys := false, apart := false }
def NotifyDepthSaid : Prop := notifyDepthRow.holds Tryz.pinned (OpenSpec.ofChange notifyDepthSpec)

/-- ITS FALSE NEIGHBOUR: 'it returns false'. Refute it at one input. -/
def notifyDepthWrong : ChangeSpec := { name := "notifyDepth", fn := fun _ => fun
  | [d1, d2, d3] => { results := [.lit (.bool false)], args := [d1, d2, d3] }
  | _ => none }
def NotifyDepthWrongFalsely : Prop := notifyDepthRow.holds Tryz.pinned (OpenSpec.ofChange notifyDepthWrong)

/-- 'coraclelaw12.NotifyMoves': WHATEVER THE INPUT: true; the input reads as it did. -/
def notifyMovesSpec : ChangeSpec := { name := "notifyMoves", fn := fun _ => fun
  | [d1, d2, d3] => { results := [.lit (.bool true)], args := [d1, d2, d3] }
  | _ => none }
def notifyMovesRow : OpenClaim := { program := "ytlkojkjeklblkaagreat", sum := "0314b3e9bb80f895646fc1f995549001a9ed2bd53b522ab71d666bfb253c18d3", func := "coracle/coraclelaw12.NotifyMoves", spec := "notifyMoves", unfollowed := true, recurses := true, plainKeys := false, apart := false }
def NotifyMovesSaid : Prop := notifyMovesRow.holds Tryz.pinned (OpenSpec.ofChange notifyMovesSpec)

/-- ITS FALSE NEIGHBOUR: 'it returns false'. Refute it at one input. -/
def notifyMovesWrong : ChangeSpec := { name := "notifyMoves", fn := fun _ => fun
  | [d1, d2, d3] => { results := [.lit (.bool false)], args := [d1, d2, d3] }
  | _ => none }
def NotifyMovesWrongFalsely : Prop := notifyMovesRow.holds Tryz.pinned (OpenSpec.ofChange notifyMovesWrong)

/-- 'coraclelaw12.NotifyDrops': WHATEVER THE INPUT: true; the input reads as it did. -/
def notifyDropsSpec : ChangeSpec := { name := "notifyDrops", fn := fun _ => fun
  | [d1, d2, d3] => { results := [.lit (.bool true)], args := [d1, d2, d3] }
  | _ => none }
def notifyDropsRow : OpenClaim := { program := "ytlkojkjeklblkaagreat", sum := "0314b3e9bb80f895646fc1f995549001a9ed2bd53b522ab71d666bfb253c18d3", func := "coracle/coraclelaw12.NotifyDrops", spec := "notifyDrops", unfollowed := true, recurses := true, plainKeys := false, apart := false }
def NotifyDropsSaid : Prop := notifyDropsRow.holds Tryz.pinned (OpenSpec.ofChange notifyDropsSpec)

/-- ITS FALSE NEIGHBOUR: 'it returns false'. Refute it at one input. -/
def notifyDropsWrong : ChangeSpec := { name := "notifyDrops", fn := fun _ => fun
  | [d1, d2, d3] => { results := [.lit (.bool false)], args := [d1, d2, d3] }
  | _ => none }
def NotifyDropsWrongFalsely : Prop := notifyDropsRow.holds Tryz.pinned (OpenSpec.ofChange notifyDropsWrong)

/-- 'coraclelaw12.NotifyFull': WHATEVER THE INPUT: true; the input reads as it did. -/
def notifyFullSpec : ChangeSpec := { name := "notifyFull", fn := fun _ => fun
  | [d1, d2, d3, d4] => { results := [.lit (.bool true)], args := [d1, d2, d3, d4] }
  | _ => none }
def notifyFullRow : OpenClaim := { program := "ytlkojkjeklblkaagreat", sum := "0314b3e9bb80f895646fc1f995549001a9ed2bd53b522ab71d666bfb253c18d3", func := "coracle/coraclelaw12.NotifyFull", spec := "notifyFull", unfollowed := true, recurses := true, plainKeys := false, apart := false }
def NotifyFullSaid : Prop := notifyFullRow.holds Tryz.pinned (OpenSpec.ofChange notifyFullSpec)

/-- ITS FALSE NEIGHBOUR: 'it returns false'. Refute it at one input. -/
def notifyFullWrong : ChangeSpec := { name := "notifyFull", fn := fun _ => fun
  | [d1, d2, d3, d4] => { results := [.lit (.bool false)], args := [d1, d2, d3, d4] }
  | _ => none }
def NotifyFullWrongFalsely : Prop := notifyFullRow.holds Tryz.pinned (OpenSpec.ofChange notifyFullWrong)

/-- 'coraclelaw9.KvPlays': WHATEVER THE INPUT: true; the input reads as it did. -/
def kvPlaysSpec : ChangeSpec := { name := "kvPlays", fn := fun _ => fun
  | [d1, d2, d3] => { results := [.lit (.bool true)], args := [d1, d2, d3] }
  | _ => none }
def kvPlaysRow : OpenClaim := { program := "ytlkojkjeklblkaagreat", sum := "0314b3e9bb80f895646fc1f995549001a9ed2bd53b522ab71d666bfb253c18d3", func := "coracle/coraclelaw9.KvPlays", spec := "kvPlays", unfollowed := true, recurses := true, plainKeys := false, apart := false }
def KvPlaysSaid : Prop := kvPlaysRow.holds Tryz.pinned (OpenSpec.ofChange kvPlaysSpec)

/-- ITS FALSE NEIGHBOUR: 'it returns false'. Refute it at one input. -/
def kvPlaysWrong : ChangeSpec := { name := "kvPlays", fn := fun _ => fun
  | [d1, d2, d3] => { results := [.lit (.bool false)], args := [d1, d2, d3] }
  | _ => none }
def KvPlaysWrongFalsely : Prop := kvPlaysRow.holds Tryz.pinned (OpenSpec.ofChange kvPlaysWrong)

/-- 'coraclelaw9.KvShrinks': WHATEVER THE INPUT: true; the input reads as it did. -/
def kvShrinksSpec : ChangeSpec := { name := "kvShrinks", fn := fun _ => fun
  | [d1, d2] => { results := [.lit (.bool true)], args := [d1, d2] }
  | _ => none }
def kvShrinksRow : OpenClaim := { program := "ytlkojkjeklblkaagreat", sum := "0314b3e9bb80f895646fc1f995549001a9ed2bd53b522ab71d666bfb253c18d3", func := "coracle/coraclelaw9.KvShrinks", spec := "kvShrinks", unfollowed := true, recurses := true, plainKeys := false, apart := false }
def KvShrinksSaid : Prop := kvShrinksRow.holds Tryz.pinned (OpenSpec.ofChange kvShrinksSpec)

/-- ITS FALSE NEIGHBOUR: 'it returns false'. Refute it at one input. -/
def kvShrinksWrong : ChangeSpec := { name := "kvShrinks", fn := fun _ => fun
  | [d1, d2] => { results := [.lit (.bool false)], args := [d1, d2] }
  | _ => none }
def KvShrinksWrongFalsely : Prop := kvShrinksRow.holds Tryz.pinned (OpenSpec.ofChange kvShrinksWrong)

/-- 'coraclelaw9.KvApart': WHATEVER THE INPUT: true; the input reads as it did. -/
def kvApartSpec : ChangeSpec := { name := "kvApart", fn := fun _ => fun
  | [d] => { results := [.lit (.bool true)], args := [d] }
  | _ => none }
def kvApartRow : OpenClaim := { program := "ytlkojkjeklblkaagreat", sum := "0314b3e9bb80f895646fc1f995549001a9ed2bd53b522ab71d666bfb253c18d3", func := "coracle/coraclelaw9.KvApart", spec := "kvApart", unfollowed := true, recurses := true, plainKeys := false, apart := false }
def KvApartSaid : Prop := kvApartRow.holds Tryz.pinned (OpenSpec.ofChange kvApartSpec)

/-- ITS FALSE NEIGHBOUR: 'it returns false'. Refute it at one input. -/
def kvApartWrong : ChangeSpec := { name := "kvApart", fn := fun _ => fun
  | [d] => { results := [.lit (.bool false)], args := [d] }
  | _ => none }
def KvApartWrongFalsely : Prop := kvApartRow.holds Tryz.pinned (OpenSpec.ofChange kvApartWrong)

/-- 'coraclelaw9.KvCrash': WHATEVER THE INPUT: true; the input reads as it did. -/
def kvCrashSpec : ChangeSpec := { name := "kvCrash", fn := fun _ => fun
  | [d1, d2, d3, d4, d5] => { results := [.lit (.bool true)], args := [d1, d2, d3, d4, d5] }
  | _ => none }
def kvCrashRow : OpenClaim := { program := "ytlkojkjeklblkaagreat", sum := "0314b3e9bb80f895646fc1f995549001a9ed2bd53b522ab71d666bfb253c18d3", func := "coracle/coraclelaw9.KvCrash", spec := "kvCrash", unfollowed := true, recurses := true, plainKeys := false, apart := false }
def KvCrashSaid : Prop := kvCrashRow.holds Tryz.pinned (OpenSpec.ofChange kvCrashSpec)

/-- ITS FALSE NEIGHBOUR: 'it returns false'. Refute it at one input. -/
def kvCrashWrong : ChangeSpec := { name := "kvCrash", fn := fun _ => fun
  | [d1, d2, d3, d4, d5] => { results := [.lit (.bool false)], args := [d1, d2, d3, d4, d5] }
  | _ => none }
def KvCrashWrongFalsely : Prop := kvCrashRow.holds Tryz.pinned (OpenSpec.ofChange kvCrashWrong)

/- THE SECOND FORM. 'bulk': how many values and letters a reading holds, each counted each time it is reached (what is shared counts as often as it is met; a slice's spare places count too). A statement '..UptoSaid' is the law's where the arguments, and the package variables that the reading takes, are together of bulk at most 1048576: NARROWER than '..Said'. Prove '..Said' where nothing that the law and all that it calls make is longer than what came in: it says more and counts as full. Else prove '..UptoSaid'. A law counts once. -/
mutual
def uptoBulk {H : Type} : DataW H → Nat
  | .lit (.string bytes) => bytes.length + 1
  | .lit _ => 1
  | .nil => 1
  | .ptr d => uptoBulk d + 1
  | .slice elems spare => uptoBulkAll elems + uptoBulkAll spare + 1
  | .agg parts => uptoBulkAll parts + 1
  | .iface _ d => uptoBulk d + 1
  | .map entries => uptoBulkEntries entries + 1
  | .held _ => 1
def uptoBulkAll {H : Type} : List (DataW H) → Nat
  | [] => 0
  | d :: r => uptoBulk d + uptoBulkAll r
def uptoBulkEntries {H : Type} : List (Lit × DataW H) → Nat
  | [] => 0
  | x :: r => uptoBulkEntry x + uptoBulkEntries r
def uptoBulkEntry {H : Type} : Lit × DataW H → Nat
  | (.string bytes, d) => bytes.length + uptoBulk d + 1
  | (_, d) => uptoBulk d + 1
 end
def uptoSmall : (H : Type) → List (DataW H) → Bool := fun _ ds => decide (uptoBulkAll ds ≤ 1048576)
def OpenSpec.upto (s : _root_.Go.ChangeSpec) : _root_.Go.OpenSpec := { _root_.Go.OpenSpec.ofChange s with cond := some uptoSmall }

/-- 'coraclelaw12.NotifyPlays', WHERE WHAT IT READS IS OF BULK AT MOST 1048576: true; the input reads as it did. -/
def notifyPlaysUptoRow : OpenClaim := { program := "ytlkojkjeklblkaagreat", sum := "0314b3e9bb80f895646fc1f995549001a9ed2bd53b522ab71d666bfb253c18d3", func := "coracle/coraclelaw12.NotifyPlays", spec := "notifyPlays", unfollowed := true, recurses := true, plainKeys := false, apart := false, narrowed := true }
def NotifyPlaysUptoSaid : Prop := notifyPlaysUptoRow.holds Tryz.pinned (OpenSpec.upto notifyPlaysSpec)

/-- 'coraclelaw12.NotifyPairs', WHERE WHAT IT READS IS OF BULK AT MOST 1048576: true; the input reads as it did. -/
def notifyPairsUptoRow : OpenClaim := { program := "ytlkojkjeklblkaagreat", sum := "0314b3e9bb80f895646fc1f995549001a9ed2bd53b522ab71d666bfb253c18d3", func := "coracle/coraclelaw12.NotifyPairs", spec := "notifyPairs", unfollowed := true, recurses := true, plainKeys := false, apart := false, narrowed := true }
def NotifyPairsUptoSaid : Prop := notifyPairsUptoRow.holds Tryz.pinned (OpenSpec.upto notifyPairsSpec)

/-- 'coraclelaw12.NotifyDepth', WHERE WHAT IT READS IS OF BULK AT MOST 1048576: true; the input reads as it did. -/
def notifyDepthUptoRow : OpenClaim := { program := "ytlkojkjeklblkaagreat", sum := "0314b3e9bb80f895646fc1f995549001a9ed2bd53b522ab71d666bfb253c18d3", func := "coracle/coraclelaw12.NotifyDepth", spec := "notifyDepth", unfollowed := true, recurses := true, plainKeys := false, apart := false, narrowed := true }
def NotifyDepthUptoSaid : Prop := notifyDepthUptoRow.holds Tryz.pinned (OpenSpec.upto notifyDepthSpec)

/-- 'coraclelaw12.NotifyMoves', WHERE WHAT IT READS IS OF BULK AT MOST 1048576: true; the input reads as it did. -/
def notifyMovesUptoRow : OpenClaim := { program := "ytlkojkjeklblkaagreat", sum := "0314b3e9bb80f895646fc1f995549001a9ed2bd53b522ab71d666bfb253c18d3", func := "coracle/coraclelaw12.NotifyMoves", spec := "notifyMoves", unfollowed := true, recurses := true, plainKeys := false, apart := false, narrowed := true }
def NotifyMovesUptoSaid : Prop := notifyMovesUptoRow.holds Tryz.pinned (OpenSpec.upto notifyMovesSpec)

/-- 'coraclelaw12.NotifyDrops', WHERE WHAT IT READS IS OF BULK AT MOST 1048576: true; the input reads as it did. -/
def notifyDropsUptoRow : OpenClaim := { program := "ytlkojkjeklblkaagreat", sum := "0314b3e9bb80f895646fc1f995549001a9ed2bd53b522ab71d666bfb253c18d3", func := "coracle/coraclelaw12.NotifyDrops", spec := "notifyDrops", unfollowed := true, recurses := true, plainKeys := false, apart := false, narrowed := true }
def NotifyDropsUptoSaid : Prop := notifyDropsUptoRow.holds Tryz.pinned (OpenSpec.upto notifyDropsSpec)

/-- 'coraclelaw12.NotifyFull', WHERE WHAT IT READS IS OF BULK AT MOST 1048576: true; the input reads as it did. -/
def notifyFullUptoRow : OpenClaim := { program := "ytlkojkjeklblkaagreat", sum := "0314b3e9bb80f895646fc1f995549001a9ed2bd53b522ab71d666bfb253c18d3", func := "coracle/coraclelaw12.NotifyFull", spec := "notifyFull", unfollowed := true, recurses := true, plainKeys := false, apart := false, narrowed := true }
def NotifyFullUptoSaid : Prop := notifyFullUptoRow.holds Tryz.pinned (OpenSpec.upto notifyFullSpec)

/-- 'coraclelaw9.KvPlays', WHERE WHAT IT READS IS OF BULK AT MOST 1048576: true; the input reads as it did. -/
def kvPlaysUptoRow : OpenClaim := { program := "ytlkojkjeklblkaagreat", sum := "0314b3e9bb80f895646fc1f995549001a9ed2bd53b522ab71d666bfb253c18d3", func := "coracle/coraclelaw9.KvPlays", spec := "kvPlays", unfollowed := true, recurses := true, plainKeys := false, apart := false, narrowed := true }
def KvPlaysUptoSaid : Prop := kvPlaysUptoRow.holds Tryz.pinned (OpenSpec.upto kvPlaysSpec)

/-- 'coraclelaw9.KvShrinks', WHERE WHAT IT READS IS OF BULK AT MOST 1048576: true; the input reads as it did. -/
def kvShrinksUptoRow : OpenClaim := { program := "ytlkojkjeklblkaagreat", sum := "0314b3e9bb80f895646fc1f995549001a9ed2bd53b522ab71d666bfb253c18d3", func := "coracle/coraclelaw9.KvShrinks", spec := "kvShrinks", unfollowed := true, recurses := true, plainKeys := false, apart := false, narrowed := true }
def KvShrinksUptoSaid : Prop := kvShrinksUptoRow.holds Tryz.pinned (OpenSpec.upto kvShrinksSpec)

/-- 'coraclelaw9.KvApart', WHERE WHAT IT READS IS OF BULK AT MOST 1048576: true; the input reads as it did. -/
def kvApartUptoRow : OpenClaim := { program := "ytlkojkjeklblkaagreat", sum := "0314b3e9bb80f895646fc1f995549001a9ed2bd53b522ab71d666bfb253c18d3", func := "coracle/coraclelaw9.KvApart", spec := "kvApart", unfollowed := true, recurses := true, plainKeys := false, apart := false, narrowed := true }
def KvApartUptoSaid : Prop := kvApartUptoRow.holds Tryz.pinned (OpenSpec.upto kvApartSpec)

/-- 'coraclelaw9.KvCrash', WHERE WHAT IT READS IS OF BULK AT MOST 1048576: true; the input reads as it did. -/
def kvCrashUptoRow : OpenClaim := { program := "ytlkojkjeklblkaagreat", sum := "0314b3e9bb80f895646fc1f995549001a9ed2bd53b522ab71d666bfb253c18d3", func := "coracle/coraclelaw9.KvCrash", spec := "kvCrash", unfollowed := true, recurses := true, plainKeys := false, apart := false, narrowed := true }
def KvCrashUptoSaid : Prop := kvCrashUptoRow.holds Tryz.pinned (OpenSpec.upto kvCrashSpec)

end Rows
end Go.Proofs.YtlkojkjeklblkaaGreat
