/- The model's operations on [8]uint32 and [16]uint32, at this program's numbers. -/
import Derived.Test.YtaopiefbejajkaaRefA
import Derived.Test.YtaopiefbejajkaaRefP
set_option linter.unusedSimpArgs false
set_option linter.unusedVariables false
namespace Go.Proofs.Ytaopiefbejajkaa
open Go.RowKit
/-- Eight words. -/
structure W8 where
  l : List Nat
  len : l.length = 8
def W8.arr (x : W8) : Array Value := (x.l.map w32).toArray
@[simp] theorem W8.size_arr (x : W8) : x.arr.size = 8 := by simp [W8.arr, x.len]
@[simp] theorem W8.length_arr (x : W8) : x.arr.toList.length = 8 := by simp [W8.arr, x.len]
def W8.zero : W8 := ⟨List.replicate 8 0, by simp⟩
def St.w8 (s : St) : W8 := ⟨s.l, rfl⟩
theorem one_W8 (x : W8) : ∀ v ∈ x.arr.toList, v.oneCell' = true := by
  intro v hv; simp [W8.arr] at hv; obtain ⟨b, _, rfl⟩ := hv; rfl
@[simp] theorem W8.ext_all (x : W8) : x.arr.extract 0 8 = x.arr := by rw [show 8 = x.arr.size by simp]; exact Array.extract_size
theorem zero_W8 : (Try.prog.info? 185).map (·.zero) = some (some (.agg W8.zero.arr)) := by kernel_rfl
theorem size_W8 : (Try.prog.info? 185).map (·.size) = some 8 := by kernel_rfl
@[go_sem ↓] theorem execOp_alloc_W8 (ρ : Operand → Value) (dst : Option Tmp) (ty : TypeId) (pos : String) (after : Array Edge) (guard : Option (Nat × Bool)) : execOp ρ { dst := dst, op := .alloc 185, type := ty, pos := pos, after := after, guard := guard } = (do pure (.value (← allocS 185))) := rfl
@[go_sem] theorem alloc_W8 (w : World) : (allocS 185).run Try.prog w = .ok (.pointer (some ⟨w.heap.size, 0, none⟩)) (w.alloc (.cells W8.zero.arr 185)) := run_alloc zero_W8 _ w
@[go_sem ↓] theorem execOp_load_W8 (x : Operand) (ρ : Operand → Value) (dst : Option Tmp) (ty : TypeId) (pos : String) (after : Array Edge) (guard : Option (Nat × Bool)) : execOp ρ { dst := dst, op := .load 185 x, type := ty, pos := pos, after := after, guard := guard } = (do pure (.value (← loadS 185 (ρ x)))) := rfl
@[go_sem] theorem loads_W8 (a : Addr) (w : World) (h : (row? w a 8).isSome = true) : (loadS 185 (.pointer (some a))).run Try.prog w = .ok (.agg ((row? w a 8).getD #[])) w := aggLoad_row Try.underlying185 rfl size_W8 a w h
@[go_sem ↓] theorem execOp_store_W8 (x v : Operand) (ρ : Operand → Value) (dst : Option Tmp) (ty : TypeId) (pos : String) (after : Array Edge) (guard : Option (Nat × Bool)) : execOp ρ { dst := dst, op := .store 185 x v, type := ty, pos := pos, after := after, guard := guard } = (do storeS 185 (ρ x) (ρ v); pure .skip) := rfl
@[go_sem] theorem stores_W8 (b off : Nat) (y : W8) (w : World) (h : (row? w ⟨b, off, none⟩ 8).isSome = true) (hf : rowFree w ⟨b, off, none⟩ 8) : (storeS 185 (.pointer (some ⟨b, off, none⟩)) (.agg y.arr)).run Try.prog w = .ok () (putRow w ⟨b, off, none⟩ y.arr) := aggStore_row size_W8 b off y.arr (by simp) (one_W8 y) w h hf
@[go_sem] theorem put_W8 (w : World) (m : Nat) (hm : m = w.heap.size) (x y : W8) (t : TypeId) (fr : Nat × Nat) : putRow (w.alloc (.cells x.arr t fr)) ⟨m, 0, none⟩ y.arr = w.alloc (.cells y.arr t fr) := putRow_alloc w m 0 hm _ t fr [] x.arr.toList [] _ _ (by simp) rfl (by simp) (by simp)
/-- Sixteen words, none of them set. -/
def W16z : Array Value := (List.replicate 16 (w32 0)).toArray
theorem zero_W16 : (Try.prog.info? 228).map (·.zero) = some (some (.agg W16z)) := by kernel_rfl
@[go_sem ↓] theorem execOp_alloc_W16 (ρ : Operand → Value) (dst : Option Tmp) (ty : TypeId) (pos : String) (after : Array Edge) (guard : Option (Nat × Bool)) : execOp ρ { dst := dst, op := .alloc 228, type := ty, pos := pos, after := after, guard := guard } = (do pure (.value (← allocS 228))) := rfl
@[go_sem] theorem alloc_W16 (w : World) : (allocS 228).run Try.prog w = .ok (.pointer (some ⟨w.heap.size, 0, none⟩)) (w.alloc (.cells W16z 228)) := run_alloc zero_W16 _ w
/-- Block b holds words. -/
def wordsAt (X : World) (b : Nat) (t : TypeId) (l : List Nat) : Prop := X.heap[b]? = some (.cells (l.map w32).toArray t (0, 0))
theorem wordsAt.get {X : World} {b : Nat} {t : TypeId} {l : List Nat} (h : wordsAt X b t l) {k : Nat} (hk : k < l.length) : X.cell? ⟨b, k, none⟩ = some (.int .u32 ((l.getD k 0 : Nat) : Int)) := by
  rw [(cells_known h).1]
  simp [hk, List.getD, w32]
theorem wordsAt.set {X : World} {b : Nat} {t : TypeId} {l : List Nat} (h : wordsAt X b t l) (k x : Nat) : wordsAt (X.setCell ⟨b, k, none⟩ (.int .u32 (x : Nat))) b t (l.set k x) := by
  unfold wordsAt
  rw [heap_set h]
  simp [List.map_set, w32]
theorem wordsAt.lt {X : World} {b : Nat} {t : TypeId} {l : List Nat} (h : wordsAt X b t l) : b < X.heap.size := (cells_known h).2.2
theorem wordsAt.upd {X Y : World} {b : Nat} {t : TypeId} {l : List Nat} {S : Nat → Prop} (h : wordsAt X b t l) (hu : Upd X Y S) (hb : ¬ S b) : wordsAt Y b t l := (hu.block b h.lt hb).trans h
theorem wordsAt.row {X : World} {b : Nat} {t : TypeId} {x : W8} (h : wordsAt X b t x.l) : row? X ⟨b, 0, none⟩ 8 = some x.arr := by
  have h1 : X.heap[b]? = some (.cells x.arr t (0, 0)) := h
  unfold row?
  simp only [h1]
  rw [if_pos (And.intro trivial (by simp))]
  simp
/-- The words of the round-going schedule ahead of step t. -/
def ringS (ws : List Nat) (t : Nat) : List Nat := (List.range 16).map fun j => if t ≤ j then 0 else wordS ws (j + 16 * ((t - 1 - j) / 16))
theorem ringS_length (ws : List Nat) (t : Nat) : (ringS ws t).length = 16 := by simp [ringS]
theorem ringS_get? (ws : List Nat) (t j : Nat) (h : j < 16) : (ringS ws t)[j]? = some (if t ≤ j then 0 else wordS ws (j + 16 * ((t - 1 - j) / 16))) := by
  simp only [ringS, List.getElem?_map, List.getElem?_range h, Option.map_some]
theorem ringS_get (ws : List Nat) (t j : Nat) (h : j < 16) : (ringS ws t).getD j 0 = if t ≤ j then 0 else wordS ws (j + 16 * ((t - 1 - j) / 16)) := by
  rw [List.getD, ringS_get? ws t j h, Option.getD_some]
theorem ringS_zero (ws : List Nat) : ringS ws 0 = List.replicate 16 0 := by
  apply List.ext_getElem?
  intro j
  by_cases hj : j < 16
  · rw [ringS_get? ws 0 j hj, List.getElem?_replicate, if_pos hj, if_pos (Nat.zero_le _)]
  · rw [List.getElem?_eq_none (by rw [ringS_length]; omega), List.getElem?_eq_none (by simp; omega)]
theorem ringS_next (ws : List Nat) (t : Nat) : ringS ws (t + 1) = (ringS ws t).set (t % 16) (wordS ws t) := by
  apply List.ext_getElem?
  intro j
  by_cases hj : j < 16
  · rw [ringS_get? _ _ j hj, List.getElem?_set, ringS_length, ringS_get? _ _ j hj]
    by_cases e : t % 16 = j
    · subst e
      rw [if_pos rfl, if_pos hj, if_neg (by omega)]
      congr 2
      omega
    · rw [if_neg e]
      congr 1
      by_cases h : t ≤ j
      · rw [if_pos h, if_pos (by omega)]
      · rw [if_neg h, if_neg (by omega)]
        congr 1
        omega
  · rw [List.getElem?_eq_none (by rw [ringS_length]; omega), List.getElem?_eq_none (by rw [List.length_set, ringS_length]; omega)]
/-- An elder word in the ring. -/
theorem ringS_old (ws : List Nat) (n t : Nat) (h1 : n < t) (h2 : t ≤ n + 16) : (ringS ws t).getD (n % 16) 0 = wordS ws n := by
  rw [ringS_get ws t _ (Nat.mod_lt _ (by decide)), if_neg (by omega)]
  congr 1
  omega
theorem wordsB_get (l : List UInt8) (t : Nat) (h : t < 16) : wordS (wordsB l) t = wordB l t 4 := by
  rw [wordS_low (wordsB_length l) t h, wordsB, List.getD, List.getElem?_map, List.getElem?_range h]
  rfl
theorem ringS_at (ws : List Nat) (t : Nat) (h : t < 16) : (ringS ws t).set t 0 = ringS ws t := by
  apply List.ext_getElem?
  intro j
  rw [List.getElem?_set, ringS_length]
  by_cases e : t = j
  · subst e
    rw [if_pos rfl, if_pos h, ringS_get? ws t t h, if_pos (Nat.le_refl _)]
  · rw [if_neg e]
theorem ringS_low (l : List UInt8) (t : Nat) (h : t < 16) : (ringS (wordsB l) t).set t (wordB l t 4) = ringS (wordsB l) (t + 1) := by
  rw [ringS_next, wordsB_get l t h, Nat.mod_eq_of_lt h]
/-- Eight words of which those above place i are moved up. -/
def shiftS (s : St) (i : Nat) : List Nat := (List.range 8).map fun j => if i < j then s.l.getD (j - 1) 0 else s.l.getD j 0
theorem shiftS_top (s : St) : shiftS s 7 = s.l := rfl
theorem shiftS_end (s : St) : shiftS s 0 = [s.a, s.a, s.b, s.c, s.d, s.e, s.f, s.g] := rfl
theorem shiftS_length (s : St) (i : Nat) : (shiftS s i).length = 8 := by simp [shiftS]
theorem shiftS_step (s : St) (i : Nat) (h : i < 7) : (shiftS s (i + 1)).set (i + 1) ((shiftS s (i + 1)).getD i 0) = shiftS s i := by
  match i, h with
  | 0, _ | 1, _ | 2, _ | 3, _ | 4, _ | 5, _ | 6, _ => rfl
theorem wraps_62 (n : Int) (h₀ : 0 ≤ n) (h₁ : n < 2 ^ 62) : IntKind.i64.wrap n = n := by rw [IntKind.wrap_i64]; omega
theorem and15 (n : Nat) (h : n < 4611686018427387904) : bits .and .i64 (n : Int) 15 = ((n % 16 : Nat) : Int) := by
  have h1 := (bits_nat .i64 62 (by decide) wraps_62 n 15 h (by decide)).1
  rw [← Nat.and_two_pow_sub_one_eq_mod n 4]
  exact h1
/-- Eight words stored over a block that holds one, at the operation. -/
theorem wpList_storeW8 {w : World} {ops : Array Oper} {rest : List Oper} {o : Oper} {a : Act} {Q : Exit → Act → World → Prop} (x v : Operand) (hop : o.op = Op.store 185 x v) (hg : o.guard = none)
    (b : Nat) (y z : W8) (hx : a.eval x = .pointer (some ⟨b, 0, none⟩)) (hv : a.eval v = .agg y.arr) (h : w.heap[b]? = some (.cells z.arr 185 (0, 0)))
    (hK : ∀ w', w'.heap[b]? = some (.cells y.arr 185 (0, 0)) → Upd w w' (fun k => k = b) → wpList Try.prog ops Q rest (a.put o.dst undef) w') : wpList Try.prog ops Q (o :: rest) a w := by
  refine wpList_plain hg fun K' hK' => ?_
  have hrow : row? w ⟨b, 0, none⟩ 8 = some z.arr := by
    unfold row?
    simp only [h]
    rw [if_pos (And.intro trivial (by simp))]
    congr 1
    rw [show 0 + 8 = z.arr.size by simp]
    exact Array.extract_size
  have hrun : (Instr.storeAt 185 (.pointer (some ⟨b, 0, none⟩)) (.agg y.arr)).run Try.prog w = .ok () (putRow w ⟨b, 0, none⟩ y.arr) := stores_W8 b 0 y w (by rw [hrow]; rfl) (fun j _ => (cells_known h).2.1 _)
  unfold Oper.wp
  obtain ⟨dst, op, ty, pos, after, guard⟩ := o
  simp only at hop
  subst hop
  rw [execOp_store_W8]
  unfold storeS
  rw [hx, hv]
  simp only [Sem.run_bind, hrun, Result.andThen_ok, Sem.run_pure]
  refine hK' _ _ (hK _ ?_ (setCells_upd b _ 0 w))
  have hh := heap_setCells y.arr.toList 0 w _ h
  have e := putRow_eq 0 [] z.arr.toList [] y.arr.toList rfl (by simp)
  simp only [List.nil_append, List.append_nil, Array.toArray_toList] at e
  rw [e] at hh
  exact hh
theorem mixH_setL (a b : St) (k : Nat) (hk : k < 8) : (mixH a b k).l.set k ((a.l.getD k 0 + b.l.getD k 0) % 4294967296) = (mixH a b (k + 1)).l := by
  match k, hk with
  | 0, _ | 1, _ | 2, _ | 3, _ | 4, _ | 5, _ | 6, _ | 7, _ => rfl
theorem St.l_length (s : St) : s.l.length = 8 := rfl
end Go.Proofs.Ytaopiefbejajkaa
