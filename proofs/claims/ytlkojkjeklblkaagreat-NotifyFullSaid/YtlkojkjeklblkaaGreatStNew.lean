/- A struct stored over a variable that was just laid. -/
import Derived.Test.YtlkojkjeklblkaaGreatRw
set_option linter.unusedSimpArgs false
set_option linter.unusedVariables false
namespace Go.Proofs.YtlkojkjeklblkaaGreat
open Go.RowKit
theorem new_Hash_row (w : World) (x : Hash) (t : TypeId) (fr : Nat × Nat) : (row? (w.alloc (.cells x.arr t fr)) ⟨w.heap.size, 0, none⟩ 32).isSome = true := by simp [go_sem]
theorem new_Hash_free (w : World) (x : Hash) (t : TypeId) : rowFree (w.alloc (.cells x.arr t)) ⟨w.heap.size, 0, none⟩ 32 := rowFree_alloc _ _ _ _ _ _ rfl
@[go_sem] theorem stores_new_Hash (w : World) (x y : Hash) (t : TypeId) : (storeS 38 (.pointer (some ⟨w.heap.size, 0, none⟩)) (.agg y.arr)).run Tryz.prog (w.alloc (.cells x.arr t)) = .ok () (w.alloc (.cells y.arr t)) := by
  rw [stores_Hash _ _ _ _ (new_Hash_row _ _ _ _) (new_Hash_free _ _ _), put_Hash _ _ rfl]
@[go_sem] theorem stores_new_Hash_drew (w : World) (x y : Hash) (t : TypeId) : (storeS 38 (.pointer (some ⟨w.heap.size, 0, none⟩)) (.agg y.arr)).run Tryz.prog (w.alloc (.cells x.arr t)).drew = .ok () (w.alloc (.cells y.arr t)).drew := by
  have h1 : (row? (w.alloc (.cells x.arr t)).drew ⟨w.heap.size, 0, none⟩ 32).isSome = true := new_Hash_row w x t (0, 0)
  have h2 : rowFree (w.alloc (.cells x.arr t)).drew ⟨w.heap.size, 0, none⟩ 32 := new_Hash_free w x t
  rw [stores_Hash _ _ _ _ h1 h2, putRow_drew, put_Hash _ _ rfl]
theorem new_Outpoint_row (w : World) (x : Outpoint) (t : TypeId) (fr : Nat × Nat) : (row? (w.alloc (.cells x.arr t fr)) ⟨w.heap.size, 0, none⟩ 33).isSome = true := by simp [go_sem]
theorem new_Outpoint_free (w : World) (x : Outpoint) (t : TypeId) : rowFree (w.alloc (.cells x.arr t)) ⟨w.heap.size, 0, none⟩ 33 := rowFree_alloc _ _ _ _ _ _ rfl
@[go_sem] theorem stores_new_Outpoint (w : World) (x y : Outpoint) (t : TypeId) : (storeS 40 (.pointer (some ⟨w.heap.size, 0, none⟩)) (.agg y.arr)).run Tryz.prog (w.alloc (.cells x.arr t)) = .ok () (w.alloc (.cells y.arr t)) := by
  rw [stores_Outpoint _ _ _ _ (new_Outpoint_row _ _ _ _) (new_Outpoint_free _ _ _), put_Outpoint _ _ rfl]
@[go_sem] theorem stores_new_Outpoint_drew (w : World) (x y : Outpoint) (t : TypeId) : (storeS 40 (.pointer (some ⟨w.heap.size, 0, none⟩)) (.agg y.arr)).run Tryz.prog (w.alloc (.cells x.arr t)).drew = .ok () (w.alloc (.cells y.arr t)).drew := by
  have h1 : (row? (w.alloc (.cells x.arr t)).drew ⟨w.heap.size, 0, none⟩ 33).isSome = true := new_Outpoint_row w x t (0, 0)
  have h2 : rowFree (w.alloc (.cells x.arr t)).drew ⟨w.heap.size, 0, none⟩ 33 := new_Outpoint_free w x t
  rw [stores_Outpoint _ _ _ _ h1 h2, putRow_drew, put_Outpoint _ _ rfl]
theorem new_In_row (w : World) (x : In) (t : TypeId) (fr : Nat × Nat) : (row? (w.alloc (.cells x.arr t fr)) ⟨w.heap.size, 0, none⟩ 37).isSome = true := by simp [go_sem]
theorem new_In_free (w : World) (x : In) (t : TypeId) : rowFree (w.alloc (.cells x.arr t)) ⟨w.heap.size, 0, none⟩ 37 := rowFree_alloc _ _ _ _ _ _ rfl
@[go_sem] theorem stores_new_In (w : World) (x y : In) (t : TypeId) : (storeS 68 (.pointer (some ⟨w.heap.size, 0, none⟩)) (.agg y.arr)).run Tryz.prog (w.alloc (.cells x.arr t)) = .ok () (w.alloc (.cells y.arr t)) := by
  rw [stores_In _ _ _ _ (new_In_row _ _ _ _) (new_In_free _ _ _), put_In _ _ rfl]
@[go_sem] theorem stores_new_In_drew (w : World) (x y : In) (t : TypeId) : (storeS 68 (.pointer (some ⟨w.heap.size, 0, none⟩)) (.agg y.arr)).run Tryz.prog (w.alloc (.cells x.arr t)).drew = .ok () (w.alloc (.cells y.arr t)).drew := by
  have h1 : (row? (w.alloc (.cells x.arr t)).drew ⟨w.heap.size, 0, none⟩ 37).isSome = true := new_In_row w x t (0, 0)
  have h2 : rowFree (w.alloc (.cells x.arr t)).drew ⟨w.heap.size, 0, none⟩ 37 := new_In_free w x t
  rw [stores_In _ _ _ _ h1 h2, putRow_drew, put_In _ _ rfl]
theorem new_Out_row (w : World) (x : Out) (t : TypeId) (fr : Nat × Nat) : (row? (w.alloc (.cells x.arr t fr)) ⟨w.heap.size, 0, none⟩ 39).isSome = true := by simp [go_sem]
theorem new_Out_free (w : World) (x : Out) (t : TypeId) : rowFree (w.alloc (.cells x.arr t)) ⟨w.heap.size, 0, none⟩ 39 := rowFree_alloc _ _ _ _ _ _ rfl
@[go_sem] theorem stores_new_Out (w : World) (x y : Out) (t : TypeId) : (storeS 196 (.pointer (some ⟨w.heap.size, 0, none⟩)) (.agg y.arr)).run Tryz.prog (w.alloc (.cells x.arr t)) = .ok () (w.alloc (.cells y.arr t)) := by
  rw [stores_Out _ _ _ _ (new_Out_row _ _ _ _) (new_Out_free _ _ _), put_Out _ _ rfl]
@[go_sem] theorem stores_new_Out_drew (w : World) (x y : Out) (t : TypeId) : (storeS 196 (.pointer (some ⟨w.heap.size, 0, none⟩)) (.agg y.arr)).run Tryz.prog (w.alloc (.cells x.arr t)).drew = .ok () (w.alloc (.cells y.arr t)).drew := by
  have h1 : (row? (w.alloc (.cells x.arr t)).drew ⟨w.heap.size, 0, none⟩ 39).isSome = true := new_Out_row w x t (0, 0)
  have h2 : rowFree (w.alloc (.cells x.arr t)).drew ⟨w.heap.size, 0, none⟩ 39 := new_Out_free w x t
  rw [stores_Out _ _ _ _ h1 h2, putRow_drew, put_Out _ _ rfl]
theorem new_TxV_row (w : World) (x : TxV) (t : TypeId) (fr : Nat × Nat) : (row? (w.alloc (.cells x.arr t fr)) ⟨w.heap.size, 0, none⟩ 3).isSome = true := by simp [go_sem]
theorem new_TxV_free (w : World) (x : TxV) (t : TypeId) : rowFree (w.alloc (.cells x.arr t)) ⟨w.heap.size, 0, none⟩ 3 := rowFree_alloc _ _ _ _ _ _ rfl
@[go_sem] theorem stores_new_TxV (w : World) (x y : TxV) (t : TypeId) : (storeS 72 (.pointer (some ⟨w.heap.size, 0, none⟩)) (.agg y.arr)).run Tryz.prog (w.alloc (.cells x.arr t)) = .ok () (w.alloc (.cells y.arr t)) := by
  rw [stores_TxV _ _ _ _ (new_TxV_row _ _ _ _) (new_TxV_free _ _ _), put_TxV _ _ rfl]
@[go_sem] theorem stores_new_TxV_drew (w : World) (x y : TxV) (t : TypeId) : (storeS 72 (.pointer (some ⟨w.heap.size, 0, none⟩)) (.agg y.arr)).run Tryz.prog (w.alloc (.cells x.arr t)).drew = .ok () (w.alloc (.cells y.arr t)).drew := by
  have h1 : (row? (w.alloc (.cells x.arr t)).drew ⟨w.heap.size, 0, none⟩ 3).isSome = true := new_TxV_row w x t (0, 0)
  have h2 : rowFree (w.alloc (.cells x.arr t)).drew ⟨w.heap.size, 0, none⟩ 3 := new_TxV_free w x t
  rw [stores_TxV _ _ _ _ h1 h2, putRow_drew, put_TxV _ _ rfl]
theorem new_EntryV_row (w : World) (x : EntryV) (t : TypeId) (fr : Nat × Nat) : (row? (w.alloc (.cells x.arr t fr)) ⟨w.heap.size, 0, none⟩ 4).isSome = true := by simp [go_sem]
theorem new_EntryV_free (w : World) (x : EntryV) (t : TypeId) : rowFree (w.alloc (.cells x.arr t)) ⟨w.heap.size, 0, none⟩ 4 := rowFree_alloc _ _ _ _ _ _ rfl
@[go_sem] theorem stores_new_EntryV (w : World) (x y : EntryV) (t : TypeId) : (storeS 188 (.pointer (some ⟨w.heap.size, 0, none⟩)) (.agg y.arr)).run Tryz.prog (w.alloc (.cells x.arr t)) = .ok () (w.alloc (.cells y.arr t)) := by
  rw [stores_EntryV _ _ _ _ (new_EntryV_row _ _ _ _) (new_EntryV_free _ _ _), put_EntryV _ _ rfl]
@[go_sem] theorem stores_new_EntryV_drew (w : World) (x y : EntryV) (t : TypeId) : (storeS 188 (.pointer (some ⟨w.heap.size, 0, none⟩)) (.agg y.arr)).run Tryz.prog (w.alloc (.cells x.arr t)).drew = .ok () (w.alloc (.cells y.arr t)).drew := by
  have h1 : (row? (w.alloc (.cells x.arr t)).drew ⟨w.heap.size, 0, none⟩ 4).isSome = true := new_EntryV_row w x t (0, 0)
  have h2 : rowFree (w.alloc (.cells x.arr t)).drew ⟨w.heap.size, 0, none⟩ 4 := new_EntryV_free w x t
  rw [stores_EntryV _ _ _ _ h1 h2, putRow_drew, put_EntryV _ _ rfl]
end Go.Proofs.YtlkojkjeklblkaaGreat
