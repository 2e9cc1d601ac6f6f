/- A slice of one struct, made. -/
import Derived.Test.YtlkojkjeklblkaaGreatRw
set_option linter.unusedSimpArgs false
set_option linter.unusedVariables false
namespace Go.Proofs.YtlkojkjeklblkaaGreat
open Go.RowKit
theorem run_buildSlice_one {P : Program} {t e : TypeId} {n : Nat} {z : Array Value} (hu : P.underlying t = some (.slice e)) (hi : (P.info? e).map (·.size) = some n) (hz : (P.info? e).map (·.zero) = some (some (.agg z))) (hzs : z.size = n) (h0 : 0 < n) (hn : n ≤ 16777216)
    (c : Array Value) (hc : c.size = n) (w : World) : (Instr.buildSlice t 1 #[(0, .agg c)]).run P w = .ok (.slice (some ⟨w.heap.size, 0, none⟩) 1 1) (w.alloc (.cells c e)) := by
  have hs := sizeOf_run (P := P) (t := e) (n := n) hi
  have hzv := zeroValue_run (P := P) (t := e) hz
  obtain ⟨B, hB⟩ : ∃ B : List Value, ((Array.range (1 * n)).map fun x => z[x % z.size]!) = B.toArray ∧ B.length = n := ⟨((Array.range (1 * n)).map fun x => z[x % z.size]!).toList, Array.toArray_toList.symm, by simp⟩
  have hfill : Instr.fill (fun i => some (i * n, n)) B.toArray [(0, Value.agg c)] = some c := by
    unfold Instr.fill
    have hcc : (Value.agg c).cells = c := rfl
    simp only [hcc, Nat.zero_mul, Nat.zero_add]
    rw [if_neg (by simp [hc, hB.2])]
    have e1 := putRow_eq 0 [] B [] c.toList rfl (by simp [hc, hB.2])
    simp only [List.nil_append, List.append_nil, Nat.zero_add, Array.toArray_toList] at e1
    rw [← Array.foldl_toList, Array.toList_zipIdx]
    unfold Instr.fill
    exact congrArg some e1
  have hcells : (Value.agg z).cells = z := rfl
  have c1 : ¬ (1 * n > 2 ^ 24) := by omega
  have c2 : ¬ (1 * n = 0) := by omega
  unfold Instr.buildSlice
  simp only [Sem.run_bind, run_underlying hu, Result.andThen_ok, hs, c1, c2, if_false, Sem.run_pure, hzv, hcells, hB.1, hfill, newRow, run_newObj_alloc]
def bslS (t : TypeId) (n : Nat) (parts : Array (Nat × Value)) : Sem Value := Instr.buildSlice t n parts
@[go_sem ↓] theorem execOp_bsl_In (parts : Array (Nat × Operand)) (ρ : Operand → Value) (dst : Option Tmp) (ty : TypeId) (pos : String) (after : Array Edge) (guard : Option (Nat × Bool)) : execOp ρ { dst := dst, op := .buildSlice 69 1 parts, type := ty, pos := pos, after := after, guard := guard } = (do pure (.value (← bslS 69 1 (parts.map fun (i, x) => (i, ρ x))))) := rfl
@[go_sem] theorem bsl_In (x : In) (w : World) : (bslS 69 1 #[(0, .agg x.arr)]).run Tryz.prog w = .ok (.slice (some ⟨w.heap.size, 0, none⟩) 1 1) (w.alloc (.cells x.arr 68)) :=
  run_buildSlice_one Tryz.underlying69 size_In zero_In (by simp) (by decide) (by decide) x.arr (by simp) w
@[go_sem ↓] theorem execOp_bsl_Out (parts : Array (Nat × Operand)) (ρ : Operand → Value) (dst : Option Tmp) (ty : TypeId) (pos : String) (after : Array Edge) (guard : Option (Nat × Bool)) : execOp ρ { dst := dst, op := .buildSlice 70 1 parts, type := ty, pos := pos, after := after, guard := guard } = (do pure (.value (← bslS 70 1 (parts.map fun (i, x) => (i, ρ x))))) := rfl
@[go_sem] theorem bsl_Out (x : Out) (w : World) : (bslS 70 1 #[(0, .agg x.arr)]).run Tryz.prog w = .ok (.slice (some ⟨w.heap.size, 0, none⟩) 1 1) (w.alloc (.cells x.arr 196)) :=
  run_buildSlice_one Tryz.underlying70 size_Out zero_Out (by simp) (by decide) (by decide) x.arr (by simp) w
@[go_sem ↓] theorem execOp_bsl_TxV (parts : Array (Nat × Operand)) (ρ : Operand → Value) (dst : Option Tmp) (ty : TypeId) (pos : String) (after : Array Edge) (guard : Option (Nat × Bool)) : execOp ρ { dst := dst, op := .buildSlice 43 1 parts, type := ty, pos := pos, after := after, guard := guard } = (do pure (.value (← bslS 43 1 (parts.map fun (i, x) => (i, ρ x))))) := rfl
@[go_sem] theorem bsl_TxV (x : TxV) (w : World) : (bslS 43 1 #[(0, .agg x.arr)]).run Tryz.prog w = .ok (.slice (some ⟨w.heap.size, 0, none⟩) 1 1) (w.alloc (.cells x.arr 72)) :=
  run_buildSlice_one Tryz.underlying43 size_TxV zero_TxV (by simp) (by decide) (by decide) x.arr (by simp) w
@[go_sem ↓] theorem execOp_build_Hash (parts : Array (Nat × Operand)) (ρ : Operand → Value) (dst : Option Tmp) (ty : TypeId) (pos : String) (after : Array Edge) (guard : Option (Nat × Bool)) : execOp ρ { dst := dst, op := .build 38 parts, type := ty, pos := pos, after := after, guard := guard } = (do pure (.value (← buildS 38 (parts.map fun p => (p.1, ρ p.2))))) := rfl
@[go_sem] theorem build_Hash_nil (w : World) : (buildS 38 #[]).run Tryz.prog w = .ok (.agg Hash.zero.arr) w := by kernel_rfl
end Go.Proofs.YtlkojkjeklblkaaGreat
