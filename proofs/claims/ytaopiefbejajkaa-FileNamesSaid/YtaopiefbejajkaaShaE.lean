/- Contracts of package sha: a sum begun, and ended. -/
import Derived.Test.YtaopiefbejajkaaShaD
set_option linter.unusedSimpArgs false
set_option linter.unusedVariables false
namespace Go.Proofs.Ytaopiefbejajkaa
open Go.RowKit
def ivVals : Array (Nat × Value) := #[(0, .int .u32 1779033703), (1, .int .u32 3144134277), (2, .int .u32 1013904242), (3, .int .u32 2773480762), (4, .int .u32 1359893119), (5, .int .u32 2600822924), (6, .int .u32 528734635), (7, .int .u32 1541459225)]
theorem build_iv (w : World) : (Instr.build 185 #[(0, .int .u32 1779033703), (1, .int .u32 3144134277), (2, .int .u32 1013904242), (3, .int .u32 2773480762), (4, .int .u32 1359893119), (5, .int .u32 2600822924), (6, .int .u32 528734635), (7, .int .u32 1541459225)]).run Try.prog w = .ok (.agg (ivS.l.map w32).toArray) w := by kernel_rfl
theorem build_ini (w : World) : (Instr.build 223 #[(0, .agg (ivS.l.map w32).toArray)]).run Try.prog w = .ok (.agg SumV.ini.arr) w := by kernel_rfl
set_option maxRecDepth 100000 in
set_option maxHeartbeats 1000000 in
theorem begin_sha (w : World) : Calls Try.prog 138 #[] w fun e w' => ∃ p, e = .returned (.pointer (some ⟨p, 0, none⟩)) ∧ w.heap.size ≤ p ∧ sumAt w' p SumV.ini ∧ Below w.heap.size w w' := by
  have h1 := build_iv
  have h2 := build_ini
  go_enter Try.func138, Try.ntmps138
  go_wp2_with fail
  go_ret
  refine ⟨w.heap.size, rfl, Nat.le_refl _, ⟨?_, by simp [SumV.ini]⟩, (Below.refl _ _).alloc (Nat.le_refl _) _⟩
  show (w.heap.push _)[w.heap.size]? = _
  rw [Array.getElem?_push_size]
  kernel_rfl
/-- A hash stored over a block that holds one, at the operation. -/
theorem wpList_storeHash {w : World} {ops : Array Oper} {rest : List Oper} {o : Oper} {a : Act} {Q : Exit → Act → World → Prop} (x v : Operand) (hop : o.op = Op.store 30 x v) (hg : o.guard = none)
    (b : Nat) (y z : Hash) (hx : a.eval x = .pointer (some ⟨b, 0, none⟩)) (hv : a.eval v = .agg y.arr) (h : w.heap[b]? = some (.cells z.arr 30 (0, 0)))
    (hK : ∀ w', w'.heap[b]? = some (.cells y.arr 30 (0, 0)) → Upd w w' (fun k => k = b) → wpList Try.prog ops Q rest (a.put o.dst undef) w') : wpList Try.prog ops Q (o :: rest) a w := by
  refine wpList_plain hg fun K' hK' => ?_
  have hrow : row? w ⟨b, 0, none⟩ 32 = some z.arr := by
    unfold row?
    simp only [h]
    rw [if_pos (And.intro trivial (by simp))]
    congr 1
    rw [show 0 + 32 = z.arr.size by simp]
    exact Array.extract_size
  have hrun : (Instr.storeAt 30 (.pointer (some ⟨b, 0, none⟩)) (.agg y.arr)).run Try.prog w = .ok () (putRow w ⟨b, 0, none⟩ y.arr) := stores_Hash b 0 y w (by rw [hrow]; rfl) (fun j _ => (cells_known h).2.1 _)
  unfold Oper.wp
  obtain ⟨dst, op, ty, pos, after, guard⟩ := o
  simp only at hop
  subst hop
  rw [execOp_store_Hash]
  unfold storeS
  rw [hx, hv]
  simp only [Sem.run_bind, hrun, Result.andThen_ok, Sem.run_pure]
  refine hK' _ _ (hK _ ?_ (setCells_upd b _ 0 w))
  have hh := heap_setCells y.arr.toList 0 w _ h
  have e := putRow_eq 0 [] z.arr.toList [] y.arr.toList rfl (by simp)
  simp only [List.nil_append, List.append_nil, Array.toArray_toList] at e
  rw [e] at hh
  exact hh
/-- The first k bytes of a hash, zeros behind them. -/
def partH (l : List UInt8) (h : l.length = 32) (k : Nat) : Hash := ⟨l.take k ++ List.replicate (32 - k) 0, by simp [h]; omega⟩
theorem partH_zero (l : List UInt8) (h : l.length = 32) : partH l h 0 = Hash.zero := by apply Hash.ext'; simp [partH, Hash.zero]
theorem partH_all (l : List UInt8) (h : l.length = 32) : partH l h 32 = ⟨l, h⟩ := by apply Hash.ext'; simp [partH, ← h]
theorem partH_set (l : List UInt8) (h : l.length = 32) (k : Nat) (hk : k < 32) (v : Value) (hv : v = byteV (l[k]'(by omega))) : (partH l h k).arr.setIfInBounds k v = (partH l h (k + 1)).arr := by
  subst hv
  apply Array.ext'
  apply List.ext_getElem?
  intro j
  simp only [Array.toList_setIfInBounds, Hash.arr, partH, List.getElem?_set, List.length_map, List.length_append, List.length_take, List.length_replicate, List.getElem?_map, List.getElem?_append, List.getElem?_take, List.getElem?_replicate, h, Nat.min_eq_left (Nat.le_of_lt hk), Nat.min_eq_left (show k + 1 ≤ 32 by omega)]
  by_cases e : k = j
  · subst e
    rw [if_pos rfl, if_pos (by omega), if_pos (by omega), if_pos (by omega), List.getElem?_eq_getElem (by omega)]; rfl
  · rw [if_neg e]
    by_cases hj : j < k
    · rw [if_pos hj, if_pos hj, if_pos (by omega), if_pos (by omega)]
    · rw [if_neg hj, if_neg (show ¬ j < k + 1 by omega)]
      by_cases h32 : j < 32
      · rw [if_pos (by omega), if_pos (by omega)]
      · rw [if_neg (by omega), if_neg (by omega)]
end Go.Proofs.Ytaopiefbejajkaa
