/- The model's operations on package sha's arrays and struct, at this program's numbers. -/
import Derived.Test.YtaopiefbejajkaaShaA
import Derived.Laws.Rows
set_option linter.unusedSimpArgs false
set_option linter.unusedVariables false
namespace Go.Proofs.Ytaopiefbejajkaa
open Go.RowKit
def w32 (n : Nat) : Value := .int .u32 n
/-- Sixty-four words. -/
structure W64 where
  l : List Nat
  len : l.length = 64
def W64.arr (x : W64) : Array Value := (x.l.map w32).toArray
@[simp] theorem W64.size_arr (x : W64) : x.arr.size = 64 := by simp [W64.arr, x.len]
@[simp] theorem W64.length_arr (x : W64) : x.arr.toList.length = 64 := by simp [W64.arr, x.len]
def W64.zero : W64 := ⟨List.replicate 64 0, by simp⟩
def W64.roots : W64 := ⟨shaK, shaK_length⟩
theorem one_W64 (x : W64) : ∀ v ∈ x.arr.toList, v.oneCell' = true := by
  intro v hv; simp [W64.arr] at hv; obtain ⟨b, _, rfl⟩ := hv; rfl
@[simp] theorem W64.ext_all (x : W64) : x.arr.extract 0 64 = x.arr := by rw [show 64 = x.arr.size by simp]; exact Array.extract_size
theorem zero_W64 : (Try.prog.info? 220).map (·.zero) = some (some (.agg W64.zero.arr)) := by kernel_rfl
theorem size_W64 : (Try.prog.info? 220).map (·.size) = some 64 := by kernel_rfl
@[go_sem ↓] theorem execOp_alloc_W64 (ρ : Operand → Value) (dst : Option Tmp) (ty : TypeId) (pos : String) (after : Array Edge) (guard : Option (Nat × Bool)) : execOp ρ { dst := dst, op := .alloc 220, type := ty, pos := pos, after := after, guard := guard } = (do pure (.value (← allocS 220))) := rfl
@[go_sem] theorem alloc_W64 (w : World) : (allocS 220).run Try.prog w = .ok (.pointer (some ⟨w.heap.size, 0, none⟩)) (w.alloc (.cells W64.zero.arr 220)) := run_alloc zero_W64 _ w
@[go_sem ↓] theorem execOp_store_W64 (x v : Operand) (ρ : Operand → Value) (dst : Option Tmp) (ty : TypeId) (pos : String) (after : Array Edge) (guard : Option (Nat × Bool)) : execOp ρ { dst := dst, op := .store 220 x v, type := ty, pos := pos, after := after, guard := guard } = (do storeS 220 (ρ x) (ρ v); pure .skip) := rfl
@[go_sem] theorem stores_W64 (b off : Nat) (y : W64) (w : World) (h : (row? w ⟨b, off, none⟩ 64).isSome = true) (hf : rowFree w ⟨b, off, none⟩ 64) : (storeS 220 (.pointer (some ⟨b, off, none⟩)) (.agg y.arr)).run Try.prog w = .ok () (putRow w ⟨b, off, none⟩ y.arr) := aggStore_row size_W64 b off y.arr (by simp) (one_W64 y) w h hf
@[go_sem] theorem put_W64 (w : World) (m : Nat) (hm : m = w.heap.size) (x y : W64) (t : TypeId) (fr : Nat × Nat) : putRow (w.alloc (.cells x.arr t fr)) ⟨m, 0, none⟩ y.arr = w.alloc (.cells y.arr t fr) := putRow_alloc w m 0 hm _ t fr [] x.arr.toList [] _ _ (by simp) rfl (by simp) (by simp)
@[go_sem ↓] theorem execOp_build_W64 (parts : Array (Nat × Operand)) (ρ : Operand → Value) (dst : Option Tmp) (ty : TypeId) (pos : String) (after : Array Edge) (guard : Option (Nat × Bool)) : execOp ρ { dst := dst, op := .build 220 parts, type := ty, pos := pos, after := after, guard := guard } = (do pure (.value (← buildS 220 (parts.map fun p => (p.1, ρ p.2))))) := rfl
@[go_sem] theorem build_W64_nil (w : World) : (buildS 220 #[]).run Try.prog w = .ok (.agg W64.zero.arr) w := by kernel_rfl
@[go_sem] theorem build_W64_roots (w : World) : (buildS 220 #[(0, .int .u32 1116352408), (1, .int .u32 1899447441), (2, .int .u32 3049323471), (3, .int .u32 3921009573), (4, .int .u32 961987163), (5, .int .u32 1508970993), (6, .int .u32 2453635748), (7, .int .u32 2870763221), (8, .int .u32 3624381080), (9, .int .u32 310598401), (10, .int .u32 607225278), (11, .int .u32 1426881987), (12, .int .u32 1925078388), (13, .int .u32 2162078206), (14, .int .u32 2614888103), (15, .int .u32 3248222580), (16, .int .u32 3835390401), (17, .int .u32 4022224774), (18, .int .u32 264347078), (19, .int .u32 604807628), (20, .int .u32 770255983), (21, .int .u32 1249150122), (22, .int .u32 1555081692), (23, .int .u32 1996064986), (24, .int .u32 2554220882), (25, .int .u32 2821834349), (26, .int .u32 2952996808), (27, .int .u32 3210313671), (28, .int .u32 3336571891), (29, .int .u32 3584528711), (30, .int .u32 113926993), (31, .int .u32 338241895), (32, .int .u32 666307205), (33, .int .u32 773529912), (34, .int .u32 1294757372), (35, .int .u32 1396182291), (36, .int .u32 1695183700), (37, .int .u32 1986661051), (38, .int .u32 2177026350), (39, .int .u32 2456956037), (40, .int .u32 2730485921), (41, .int .u32 2820302411), (42, .int .u32 3259730800), (43, .int .u32 3345764771), (44, .int .u32 3516065817), (45, .int .u32 3600352804), (46, .int .u32 4094571909), (47, .int .u32 275423344), (48, .int .u32 430227734), (49, .int .u32 506948616), (50, .int .u32 659060556), (51, .int .u32 883997877), (52, .int .u32 958139571), (53, .int .u32 1322822218), (54, .int .u32 1537002063), (55, .int .u32 1747873779), (56, .int .u32 1955562222), (57, .int .u32 2024104815), (58, .int .u32 2227730452), (59, .int .u32 2361852424), (60, .int .u32 2428436474), (61, .int .u32 2756734187), (62, .int .u32 3204031479), (63, .int .u32 3329325298)]).run Try.prog w = .ok (.agg W64.roots.arr) w := by kernel_rfl
set_option maxRecDepth 100000 in
theorem roots_sha (w : World) : Calls Try.prog 171 #[] w fun e w' => e = .returned (.agg W64.roots.arr) ∧ Below w.heap.size w w' := by
  have hbase : Below w.heap.size w (w.alloc (.cells W64.roots.arr 220)) := (Below.refl _ _).alloc (Nat.le_refl _) _
  go_enter Try.func171, Try.ntmps171
  go_wp2
  exact bodyPost_ret (results_cell_row rfl _ _ w.heap.size 220 W64.roots.arr (0, 0) _ rfl (heap_alloc_new w _) Try.underlying220 rfl (by rw [size_W64]; rfl)) rfl ⟨rfl, hbase⟩
end Go.Proofs.Ytaopiefbejajkaa
