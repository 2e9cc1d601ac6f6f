/- Lists of structs that lie in memory, read through a slice. A slice of one struct, made. A struct stored over a variable that was just laid. Contracts of package tx: the place of an input that spends an outpoint. Contracts of package tx and amount: limits of numbers, scripts, witnesses, inputs; weights; sums. Contracts of package tx and amount, continued: sums; a transaction's weight, its inputs' places, whether it may be. -/
import Derived.Test.YtlkojkjeklblkaaGreatOps
import Derived.BigGuardPart
import Derived.BigQuiet
import Derived.Lib.QuietBelow
import Derived.Deep.QuietTactic
set_option linter.unusedSimpArgs false
set_option linter.unusedVariables false
namespace Go.Proofs.YtlkojkjeklblkaaGreat
open Go.RowKit
theorem bcell {W w1 : World} (hb : Below W.heap.size W w1) : (∀ b o, b < W.heap.size → w1.cell? ⟨b, o, none⟩ = W.cell? ⟨b, o, none⟩) ∧ (∀ b o, b < W.heap.size → w1.frozen? ⟨b, o, none⟩ = W.frozen? ⟨b, o, none⟩) ∧ (∀ b o n, b < W.heap.size → row? w1 ⟨b, o, none⟩ n = row? W ⟨b, o, none⟩ n) :=
  ⟨fun b o h => hb.cell (p := ⟨b, o, none⟩) h, fun b o h => hb.frozen (p := ⟨b, o, none⟩) h, fun b o n h => row?_below hb (a := ⟨b, o, none⟩) h n⟩
/-- The elements of l lie one behind the other from a on, sz cells each, in a block below B. -/
def rowsAt {α : Type} (w : World) (a : Option Addr) (sz : Nat) (enc : α → Array Value) (l : List α) (B : Nat) : Prop :=
  l ≠ [] → ∃ b off, a = some ⟨b, off, none⟩ ∧ b < B ∧ ∀ k (h : k < l.length), row? w ⟨b, off + k * sz, none⟩ sz = some (enc l[k])
theorem rowsAt.below {α : Type} {w w' : World} {a : Option Addr} {sz : Nat} {enc : α → Array Value} {l : List α} {B : Nat} (h : rowsAt w a sz enc l B) (hb : Below B w w') : rowsAt w' a sz enc l B := by
  intro hl
  obtain ⟨b, off, ha, hB, hr⟩ := h hl
  exact ⟨b, off, ha, hB, fun k hk => (row?_below hb (a := ⟨b, _, none⟩) hB sz).trans (hr k hk)⟩
theorem rowsAt.mono {α : Type} {w : World} {a : Option Addr} {sz : Nat} {enc : α → Array Value} {l : List α} {B B' : Nat} (h : rowsAt w a sz enc l B) (hb : B ≤ B') : rowsAt w a sz enc l B' := by
  intro hl
  obtain ⟨b, off, ha, hB, hr⟩ := h hl
  exact ⟨b, off, ha, Nat.lt_of_lt_of_le hB hb, hr⟩
theorem rowsAt.at {α : Type} {w : World} {a : Option Addr} {sz : Nat} {enc : α → Array Value} {l : List α} {B : Nat} (h : rowsAt w a sz enc l B) {k : Nat} (hk : k < l.length) :
    ∃ b off, a = some ⟨b, off, none⟩ ∧ b < B ∧ row? w ⟨b, off + k * sz, none⟩ sz = some (enc l[k]) := by
  obtain ⟨b, off, ha, hB, hr⟩ := h (by rintro rfl; simp at hk)
  exact ⟨b, off, ha, hB, hr k hk⟩
theorem rowsAt.take {α : Type} {w : World} {a : Option Addr} {sz : Nat} {enc : α → Array Value} {l : List α} {B : Nat} (h : rowsAt w a sz enc l B) (n : Nat) : rowsAt w a sz enc (l.take n) B := by
  intro hl
  obtain ⟨b, off, ha, hB, hr⟩ := h (by rintro rfl; simp at hl)
  exact ⟨b, off, ha, hB, fun k hk => by rw [hr k (by simp at hk; omega)]; simp⟩
/-- A slice's value that reads as l. -/
def isSl {α : Type} (w : World) (s : Sl) (sz : Nat) (enc : α → Array Value) (l : List α) (B : Nat) : Prop := s.n = l.length ∧ s.n ≤ s.c ∧ rowsAt w s.a sz enc l B
theorem isSl.below {α : Type} {w w' : World} {s : Sl} {sz : Nat} {enc : α → Array Value} {l : List α} {B : Nat} (h : isSl w s sz enc l B) (hb : Below B w w') : isSl w' s sz enc l B := ⟨h.1, h.2.1, h.2.2.below hb⟩
theorem isSl.mono {α : Type} {w : World} {s : Sl} {sz : Nat} {enc : α → Array Value} {l : List α} {B B' : Nat} (h : isSl w s sz enc l B) (hb : B ≤ B') : isSl w s sz enc l B' := ⟨h.1, h.2.1, h.2.2.mono hb⟩
/-- The place of the first element that meets p, or -1. -/
def firstAt {α : Type} (p : α → Bool) (l : List α) : Int := match l.findIdx? p with | some i => (i : Int) | none => -1
theorem firstAt_hit {α : Type} {p : α → Bool} {l : List α} {k : Nat} (hk : k < l.length) (hno : ∀ j (h : j < l.length), j < k → p l[j] = false) (hy : p l[k] = true) : firstAt p l = k := by
  have : l.findIdx? p = some k := by
    rw [List.findIdx?_eq_some_iff_getElem]
    exact ⟨hk, hy, fun j hj => by simpa using hno j (by omega) hj⟩
  simp [firstAt, this]
theorem firstAt_none {α : Type} {p : α → Bool} {l : List α} (hno : ∀ j (h : j < l.length), p l[j] = false) : firstAt p l = -1 := by
  have : l.findIdx? p = none := by
    rw [List.findIdx?_eq_none_iff]
    intro x hx
    obtain ⟨j, hj, rfl⟩ := List.mem_iff_getElem.1 hx
    exact hno j hj
  simp [firstAt, this]
/-! ### a goto forward: what stands behind the label is walked from the jump on -/
section
variable {P : Program} {Q : Exit → Act → World → Prop} {a : Act} {w : World}
theorem wp_scope_fwd {c rest : Code} (l : Nat) (hf : findLabel c l = some rest) (h : c.wp P (Exit.jump l (fun a w => rest.wp P (Exit.noGoto Q) a w) Q) a w) : (Code.scope c).wp P Q a w :=
  wp_scope_jumps l _ (fun _ _ => 0) hf h fun a w hJ => wp_mono hJ fun e a w he => by cases e <;> first | exact he | exact he.elim
theorem jump_ret (l : Nat) (J : Act → World → Prop) : Exit.jump l J Q .ret a w = Q .ret a w := rfl
theorem jump_normal (l : Nat) (J : Act → World → Prop) : Exit.jump l J Q .normal a w = Q .normal a w := rfl
end
/-! ### a region that draws its order, whose operations only read, and whose callees lay new blocks at most: walked once -/
section
variable {P : Program}
open Go.Sort
theorem wpQuiet_mono {ops : Array Oper} {C : World → Prop} {Q Q' : Act → Prop} (h : ∀ a, Q a → Q' a) : ∀ (l : List Oper) (a : Act), wpQuiet P ops C Q l a → wpQuiet P ops C Q' l a
  | [], a, hh => h a hh
  | o :: l, a, hh => by
    unfold wpQuiet at hh ⊢
    split
    · rename_i hw; simp only [hw, if_true] at hh; exact Oper.quiet_mono (fun a ha => wpQuiet_mono h l a ha) hh
    · rename_i hw; simp only [hw] at hh; exact wpQuiet_mono h l _ hh
theorem wp_region_below {id : Nat} {Q : Exit → Act → World → Prop} {a : Act} {w : World} {l : List Oper} (hm : P.follows .mixedOrders = true) (hB : Region.lexB .any l.toArray = true)
    (h : wpQuiet P l.toArray (fun w' => ∃ p : Regrown, w' = grow (redrawn w p.d) p.os) (fun a' => ∀ w', Below w.heap.size w w' → Q .normal a' w') l a) : (Code.region id l.toArray true).wp P Q a w :=
  wp_region_quiet_below hm hB (wpQuiet_mono (fun _ h w' ⟨p, hp⟩ => h w' (hp ▸ below_regrown w p.d p.os)) l a h)
@[go_sem] theorem cell_grow (w : World) (d : Nat) (os : Array Obj) (b o : Nat) (h : b < w.heap.size) : (grow (redrawn w d) os).cell? ⟨b, o, none⟩ = w.cell? ⟨b, o, none⟩ := (below_regrown w d os).cell (p := ⟨b, o, none⟩) h
@[go_sem] theorem row_grow (w : World) (d : Nat) (os : Array Obj) (b o n : Nat) (h : b < w.heap.size) : row? (grow (redrawn w d) os) ⟨b, o, none⟩ n = row? w ⟨b, o, none⟩ n := row?_below (below_regrown w d os) (a := ⟨b, o, none⟩) h n
theorem isSl.regrown {α : Type} {W : World} {s : Sl} {sz : Nat} {enc : α → Array Value} {l : List α} {B : Nat} (h : isSl W s sz enc l B) (hB : B ≤ W.heap.size) (d : Nat) (os : Array Obj) :
    isSl (grow (redrawn W d) os) s sz enc l (grow (redrawn W d) os).heap.size := (h.below ((below_regrown W d os).mono hB)).mono (Nat.le_trans hB (below_regrown W d os).size)
theorem size_grow (w : World) (d : Nat) (os : Array Obj) : w.heap.size ≤ (grow (redrawn w d) os).heap.size := (below_regrown w d os).size
end
theorem grown_of_below {w w' : World} (h : Below w.heap.size w w') : w.grownBy w' none := ⟨h.os, h.tape, h.output, h.size, fun k hk _ => h.block k hk⟩
theorem ownsRow_below {w w' : World} {base : Nat} {e : TypeId} {size : Nat} {v : Value} {n : Nat} {xs : List Value} (h : w.ownsRow base e size v n xs) (hb : Below w.heap.size w w') : w'.ownsRow base e size v n xs := by
  cases ho : v.ownBlock with
  | none => exact h.kept (grown_of_below hb) (.inl ho)
  | some k => exact h.kept (grown_of_below hb) (.inr (by rw [ho]; simp))
theorem ownsRow_slice {w : World} {base : Nat} {e : TypeId} {size : Nat} {v : Value} {n : Nat} {xs : List Value} (h : w.ownsRow base e size v n xs) :
    ∃ a c, v = .slice a n c ∧ n ≤ c ∧ (n ≠ 0 → ∃ g, a = some ⟨g, 0, none⟩ ∧ base ≤ g ∧ g < w.heap.size) := by
  rcases h.2 with ⟨rfl, rfl⟩ | ⟨g, cap, cur, rfl, hg, hh, hn, hm, hs, ht⟩
  · exact ⟨none, 0, rfl, by omega, fun h => by omega⟩
  · exact ⟨_, _, rfl, hn, fun _ => ⟨g, rfl, hg, (Array.getElem?_eq_some_iff.1 hh).1⟩⟩
theorem own_far {w W w' : World} {base : Nat} {e : TypeId} {size : Nat} {v : Value} {n : Nat} {xs : List Value} (h : w.ownsRow base e size v n xs) (hg : W.grownBy w' v.ownBlock) {b : Nat} (hb : b < base) (hbW : b < W.heap.size) (o : Nat) :
    w'.cell? ⟨b, o, none⟩ = W.cell? ⟨b, o, none⟩ :=
  World.cell?_of_block (hg.block b hbW (fun e => by have := (h.lt b e.symm).1; omega))
theorem ret_int {k : IntKind} {a b : Int} (h : a = b) : Ending.returned (.int k a) = .returned (.int k b) := by rw [h]
theorem ret_bool {a b : Bool} (h : a = b) : Ending.returned (.bool a) = .returned (.bool b) := by rw [h]
end Go.Proofs.YtlkojkjeklblkaaGreat
namespace Go.Proofs.YtlkojkjeklblkaaGreat
open Go.RowKit
theorem run_buildSlice_one {P : Program} {t e : TypeId} {n : Nat} {z : Array Value} (hu : P.underlying t = some (.slice e)) (hi : (P.info? e).map (·.size) = some n) (hz : (P.info? e).map (·.zero) = some (some (.agg z))) (hzs : z.size = n) (h0 : 0 < n) (hn : n ≤ 16777216)
    (c : Array Value) (hc : c.size = n) (w : World) : (Instr.buildSlice t 1 #[(0, .agg c)]).run P w = .ok (.slice (some ⟨w.heap.size, 0, none⟩) 1 1) (w.alloc (.cells c e)) := by
  have hs := sizeOf_run (P := P) (t := e) (n := n) hi
  have hzv := zeroValue_run (P := P) (t := e) hz
  obtain ⟨B, hB⟩ : ∃ B : List Value, ((Array.range (1 * n)).map fun x => z[x % z.size]!) = B.toArray ∧ B.length = n := ⟨((Array.range (1 * n)).map fun x => z[x % z.size]!).toList, Array.toArray_toList.symm, by simp⟩
  have hfill : Instr.fill (fun i => some (i * n, n)) B.toArray [(0, Value.agg c)] = some c := by
    unfold Instr.fill
    have hcc : (Value.agg c).cells = c := rfl
    simp only [hcc, Nat.zero_mul, Nat.zero_add]
    rw [if_neg (by simp [hc, hB.2])]
    have e1 := putRow_eq 0 [] B [] c.toList rfl (by simp [hc, hB.2])
    simp only [List.nil_append, List.append_nil, Nat.zero_add, Array.toArray_toList] at e1
    rw [← Array.foldl_toList, Array.toList_zipIdx]
    unfold Instr.fill
    exact congrArg some e1
  have hcells : (Value.agg z).cells = z := rfl
  have c1 : ¬ (1 * n > 2 ^ 24) := by omega
  have c2 : ¬ (1 * n = 0) := by omega
  unfold Instr.buildSlice
  simp only [Sem.run_bind, run_underlying hu, Result.andThen_ok, hs, c1, c2, if_false, Sem.run_pure, hzv, hcells, hB.1, hfill, newRow, run_newObj_alloc]
def bslS (t : TypeId) (n : Nat) (parts : Array (Nat × Value)) : Sem Value := Instr.buildSlice t n parts
@[go_sem ↓] theorem execOp_bsl_In (parts : Array (Nat × Operand)) (ρ : Operand → Value) (dst : Option Tmp) (ty : TypeId) (pos : String) (after : Array Edge) (guard : Option (Nat × Bool)) : execOp ρ { dst := dst, op := .buildSlice 69 1 parts, type := ty, pos := pos, after := after, guard := guard } = (do pure (.value (← bslS 69 1 (parts.map fun (i, x) => (i, ρ x))))) := rfl
@[go_sem] theorem bsl_In (x : In) (w : World) : (bslS 69 1 #[(0, .agg x.arr)]).run Tryz.prog w = .ok (.slice (some ⟨w.heap.size, 0, none⟩) 1 1) (w.alloc (.cells x.arr 68)) :=
  run_buildSlice_one Tryz.underlying69 size_In zero_In (by simp) (by decide) (by decide) x.arr (by simp) w
@[go_sem ↓] theorem execOp_bsl_Out (parts : Array (Nat × Operand)) (ρ : Operand → Value) (dst : Option Tmp) (ty : TypeId) (pos : String) (after : Array Edge) (guard : Option (Nat × Bool)) : execOp ρ { dst := dst, op := .buildSlice 70 1 parts, type := ty, pos := pos, after := after, guard := guard } = (do pure (.value (← bslS 70 1 (parts.map fun (i, x) => (i, ρ x))))) := rfl
@[go_sem] theorem bsl_Out (x : Out) (w : World) : (bslS 70 1 #[(0, .agg x.arr)]).run Tryz.prog w = .ok (.slice (some ⟨w.heap.size, 0, none⟩) 1 1) (w.alloc (.cells x.arr 196)) :=
  run_buildSlice_one Tryz.underlying70 size_Out zero_Out (by simp) (by decide) (by decide) x.arr (by simp) w
@[go_sem ↓] theorem execOp_bsl_TxV (parts : Array (Nat × Operand)) (ρ : Operand → Value) (dst : Option Tmp) (ty : TypeId) (pos : String) (after : Array Edge) (guard : Option (Nat × Bool)) : execOp ρ { dst := dst, op := .buildSlice 43 1 parts, type := ty, pos := pos, after := after, guard := guard } = (do pure (.value (← bslS 43 1 (parts.map fun (i, x) => (i, ρ x))))) := rfl
@[go_sem] theorem bsl_TxV (x : TxV) (w : World) : (bslS 43 1 #[(0, .agg x.arr)]).run Tryz.prog w = .ok (.slice (some ⟨w.heap.size, 0, none⟩) 1 1) (w.alloc (.cells x.arr 72)) :=
  run_buildSlice_one Tryz.underlying43 size_TxV zero_TxV (by simp) (by decide) (by decide) x.arr (by simp) w
@[go_sem ↓] theorem execOp_build_Hash (parts : Array (Nat × Operand)) (ρ : Operand → Value) (dst : Option Tmp) (ty : TypeId) (pos : String) (after : Array Edge) (guard : Option (Nat × Bool)) : execOp ρ { dst := dst, op := .build 38 parts, type := ty, pos := pos, after := after, guard := guard } = (do pure (.value (← buildS 38 (parts.map fun p => (p.1, ρ p.2))))) := rfl
@[go_sem] theorem build_Hash_nil (w : World) : (buildS 38 #[]).run Tryz.prog w = .ok (.agg Hash.zero.arr) w := by kernel_rfl
end Go.Proofs.YtlkojkjeklblkaaGreat
namespace Go.Proofs.YtlkojkjeklblkaaGreat
open Go.RowKit
theorem new_Hash_row (w : World) (x : Hash) (t : TypeId) (fr : Nat × Nat) : (row? (w.alloc (.cells x.arr t fr)) ⟨w.heap.size, 0, none⟩ 32).isSome = true := by simp [go_sem]
theorem new_Hash_free (w : World) (x : Hash) (t : TypeId) : rowFree (w.alloc (.cells x.arr t)) ⟨w.heap.size, 0, none⟩ 32 := rowFree_alloc _ _ _ _ _ _ rfl
@[go_sem] theorem stores_new_Hash (w : World) (x y : Hash) (t : TypeId) : (storeS 38 (.pointer (some ⟨w.heap.size, 0, none⟩)) (.agg y.arr)).run Tryz.prog (w.alloc (.cells x.arr t)) = .ok () (w.alloc (.cells y.arr t)) := by
  rw [stores_Hash _ _ _ _ (new_Hash_row _ _ _ _) (new_Hash_free _ _ _), put_Hash _ _ rfl]
@[go_sem] theorem stores_new_Hash_drew (w : World) (x y : Hash) (t : TypeId) : (storeS 38 (.pointer (some ⟨w.heap.size, 0, none⟩)) (.agg y.arr)).run Tryz.prog (w.alloc (.cells x.arr t)).drew = .ok () (w.alloc (.cells y.arr t)).drew := by
  have h1 : (row? (w.alloc (.cells x.arr t)).drew ⟨w.heap.size, 0, none⟩ 32).isSome = true := new_Hash_row w x t (0, 0)
  have h2 : rowFree (w.alloc (.cells x.arr t)).drew ⟨w.heap.size, 0, none⟩ 32 := new_Hash_free w x t
  rw [stores_Hash _ _ _ _ h1 h2, putRow_drew, put_Hash _ _ rfl]
theorem new_Outpoint_row (w : World) (x : Outpoint) (t : TypeId) (fr : Nat × Nat) : (row? (w.alloc (.cells x.arr t fr)) ⟨w.heap.size, 0, none⟩ 33).isSome = true := by simp [go_sem]
theorem new_Outpoint_free (w : World) (x : Outpoint) (t : TypeId) : rowFree (w.alloc (.cells x.arr t)) ⟨w.heap.size, 0, none⟩ 33 := rowFree_alloc _ _ _ _ _ _ rfl
@[go_sem] theorem stores_new_Outpoint (w : World) (x y : Outpoint) (t : TypeId) : (storeS 40 (.pointer (some ⟨w.heap.size, 0, none⟩)) (.agg y.arr)).run Tryz.prog (w.alloc (.cells x.arr t)) = .ok () (w.alloc (.cells y.arr t)) := by
  rw [stores_Outpoint _ _ _ _ (new_Outpoint_row _ _ _ _) (new_Outpoint_free _ _ _), put_Outpoint _ _ rfl]
@[go_sem] theorem stores_new_Outpoint_drew (w : World) (x y : Outpoint) (t : TypeId) : (storeS 40 (.pointer (some ⟨w.heap.size, 0, none⟩)) (.agg y.arr)).run Tryz.prog (w.alloc (.cells x.arr t)).drew = .ok () (w.alloc (.cells y.arr t)).drew := by
  have h1 : (row? (w.alloc (.cells x.arr t)).drew ⟨w.heap.size, 0, none⟩ 33).isSome = true := new_Outpoint_row w x t (0, 0)
  have h2 : rowFree (w.alloc (.cells x.arr t)).drew ⟨w.heap.size, 0, none⟩ 33 := new_Outpoint_free w x t
  rw [stores_Outpoint _ _ _ _ h1 h2, putRow_drew, put_Outpoint _ _ rfl]
theorem new_In_row (w : World) (x : In) (t : TypeId) (fr : Nat × Nat) : (row? (w.alloc (.cells x.arr t fr)) ⟨w.heap.size, 0, none⟩ 37).isSome = true := by simp [go_sem]
theorem new_In_free (w : World) (x : In) (t : TypeId) : rowFree (w.alloc (.cells x.arr t)) ⟨w.heap.size, 0, none⟩ 37 := rowFree_alloc _ _ _ _ _ _ rfl
@[go_sem] theorem stores_new_In (w : World) (x y : In) (t : TypeId) : (storeS 68 (.pointer (some ⟨w.heap.size, 0, none⟩)) (.agg y.arr)).run Tryz.prog (w.alloc (.cells x.arr t)) = .ok () (w.alloc (.cells y.arr t)) := by
  rw [stores_In _ _ _ _ (new_In_row _ _ _ _) (new_In_free _ _ _), put_In _ _ rfl]
@[go_sem] theorem stores_new_In_drew (w : World) (x y : In) (t : TypeId) : (storeS 68 (.pointer (some ⟨w.heap.size, 0, none⟩)) (.agg y.arr)).run Tryz.prog (w.alloc (.cells x.arr t)).drew = .ok () (w.alloc (.cells y.arr t)).drew := by
  have h1 : (row? (w.alloc (.cells x.arr t)).drew ⟨w.heap.size, 0, none⟩ 37).isSome = true := new_In_row w x t (0, 0)
  have h2 : rowFree (w.alloc (.cells x.arr t)).drew ⟨w.heap.size, 0, none⟩ 37 := new_In_free w x t
  rw [stores_In _ _ _ _ h1 h2, putRow_drew, put_In _ _ rfl]
theorem new_Out_row (w : World) (x : Out) (t : TypeId) (fr : Nat × Nat) : (row? (w.alloc (.cells x.arr t fr)) ⟨w.heap.size, 0, none⟩ 39).isSome = true := by simp [go_sem]
theorem new_Out_free (w : World) (x : Out) (t : TypeId) : rowFree (w.alloc (.cells x.arr t)) ⟨w.heap.size, 0, none⟩ 39 := rowFree_alloc _ _ _ _ _ _ rfl
@[go_sem] theorem stores_new_Out (w : World) (x y : Out) (t : TypeId) : (storeS 196 (.pointer (some ⟨w.heap.size, 0, none⟩)) (.agg y.arr)).run Tryz.prog (w.alloc (.cells x.arr t)) = .ok () (w.alloc (.cells y.arr t)) := by
  rw [stores_Out _ _ _ _ (new_Out_row _ _ _ _) (new_Out_free _ _ _), put_Out _ _ rfl]
@[go_sem] theorem stores_new_Out_drew (w : World) (x y : Out) (t : TypeId) : (storeS 196 (.pointer (some ⟨w.heap.size, 0, none⟩)) (.agg y.arr)).run Tryz.prog (w.alloc (.cells x.arr t)).drew = .ok () (w.alloc (.cells y.arr t)).drew := by
  have h1 : (row? (w.alloc (.cells x.arr t)).drew ⟨w.heap.size, 0, none⟩ 39).isSome = true := new_Out_row w x t (0, 0)
  have h2 : rowFree (w.alloc (.cells x.arr t)).drew ⟨w.heap.size, 0, none⟩ 39 := new_Out_free w x t
  rw [stores_Out _ _ _ _ h1 h2, putRow_drew, put_Out _ _ rfl]
theorem new_TxV_row (w : World) (x : TxV) (t : TypeId) (fr : Nat × Nat) : (row? (w.alloc (.cells x.arr t fr)) ⟨w.heap.size, 0, none⟩ 3).isSome = true := by simp [go_sem]
theorem new_TxV_free (w : World) (x : TxV) (t : TypeId) : rowFree (w.alloc (.cells x.arr t)) ⟨w.heap.size, 0, none⟩ 3 := rowFree_alloc _ _ _ _ _ _ rfl
@[go_sem] theorem stores_new_TxV (w : World) (x y : TxV) (t : TypeId) : (storeS 72 (.pointer (some ⟨w.heap.size, 0, none⟩)) (.agg y.arr)).run Tryz.prog (w.alloc (.cells x.arr t)) = .ok () (w.alloc (.cells y.arr t)) := by
  rw [stores_TxV _ _ _ _ (new_TxV_row _ _ _ _) (new_TxV_free _ _ _), put_TxV _ _ rfl]
@[go_sem] theorem stores_new_TxV_drew (w : World) (x y : TxV) (t : TypeId) : (storeS 72 (.pointer (some ⟨w.heap.size, 0, none⟩)) (.agg y.arr)).run Tryz.prog (w.alloc (.cells x.arr t)).drew = .ok () (w.alloc (.cells y.arr t)).drew := by
  have h1 : (row? (w.alloc (.cells x.arr t)).drew ⟨w.heap.size, 0, none⟩ 3).isSome = true := new_TxV_row w x t (0, 0)
  have h2 : rowFree (w.alloc (.cells x.arr t)).drew ⟨w.heap.size, 0, none⟩ 3 := new_TxV_free w x t
  rw [stores_TxV _ _ _ _ h1 h2, putRow_drew, put_TxV _ _ rfl]
theorem new_EntryV_row (w : World) (x : EntryV) (t : TypeId) (fr : Nat × Nat) : (row? (w.alloc (.cells x.arr t fr)) ⟨w.heap.size, 0, none⟩ 4).isSome = true := by simp [go_sem]
theorem new_EntryV_free (w : World) (x : EntryV) (t : TypeId) : rowFree (w.alloc (.cells x.arr t)) ⟨w.heap.size, 0, none⟩ 4 := rowFree_alloc _ _ _ _ _ _ rfl
@[go_sem] theorem stores_new_EntryV (w : World) (x y : EntryV) (t : TypeId) : (storeS 188 (.pointer (some ⟨w.heap.size, 0, none⟩)) (.agg y.arr)).run Tryz.prog (w.alloc (.cells x.arr t)) = .ok () (w.alloc (.cells y.arr t)) := by
  rw [stores_EntryV _ _ _ _ (new_EntryV_row _ _ _ _) (new_EntryV_free _ _ _), put_EntryV _ _ rfl]
@[go_sem] theorem stores_new_EntryV_drew (w : World) (x y : EntryV) (t : TypeId) : (storeS 188 (.pointer (some ⟨w.heap.size, 0, none⟩)) (.agg y.arr)).run Tryz.prog (w.alloc (.cells x.arr t)).drew = .ok () (w.alloc (.cells y.arr t)).drew := by
  have h1 : (row? (w.alloc (.cells x.arr t)).drew ⟨w.heap.size, 0, none⟩ 4).isSome = true := new_EntryV_row w x t (0, 0)
  have h2 : rowFree (w.alloc (.cells x.arr t)).drew ⟨w.heap.size, 0, none⟩ 4 := new_EntryV_free w x t
  rw [stores_EntryV _ _ _ _ h1 h2, putRow_drew, put_EntryV _ _ rfl]
end Go.Proofs.YtlkojkjeklblkaaGreat
namespace Go.Proofs.YtlkojkjeklblkaaGreat
open Go.RowKit
set_option maxHeartbeats 400000 in
theorem spends1 (x : In) (p : Outpoint) (b : Nat) (w : World) (h : row? w ⟨b, 0, none⟩ 33 = some p.arr) (hb : b < w.heap.size) :
    Calls Tryz.prog 217 #[.agg x.arr, .pointer (some ⟨b, 0, none⟩)] w fun e w' => e = .returned (.bool (decide (x.prev = p))) ∧ Below w.heap.size w w' := by
  go_enter Tryz.func217, Tryz.ntmps217
  go_wp2
  go_ret
  exact ⟨rfl, (Below.refl _ _).alloc (Nat.le_refl _) _⟩
set_option maxHeartbeats 400000 in
theorem index_ins (a : Option Addr) (c : Nat) (l : List In) (p : Outpoint) (b : Nat) (w : World) (hl : l.length ≤ 9223372036854775806) (hs : rowsAt w a 37 In.arr l w.heap.size) (h : row? w ⟨b, 0, none⟩ 33 = some p.arr) (hb : b < w.heap.size) :
    Calls Tryz.prog 216 #[.slice a l.length c, .func (.func 217) #[] #[.pointer (some ⟨b, 0, none⟩)]] w
      fun e w' => e = .returned (.int .i64 (firstAt (fun x => decide (x.prev = p)) l)) ∧ Below w.heap.size w w' := by
  go_enter Tryz.func216, Tryz.ntmps216
  go_wp2
  go_loopw [8] (fun i wr => ∃ k : Nat, k ≤ l.length ∧ i = .int .i64 k ∧ Below w.heap.size w wr ∧ Hid (∀ j (h : j < l.length), j < k → decide (l[j].prev = p) = false)) (fun i _ => l.length - (intOf i).toNat)
  case atStart => exact ⟨0, Nat.zero_le _, rfl, Below.refl _ _, fun j _ h => by omega⟩
  case round =>
    obtain ⟨k, hk, rfl, hbw, hno⟩ := hrel
    by_cases hlt : k < l.length
    · obtain ⟨b0, off, rfl, hb0, hr⟩ := (hs.below hbw).at hlt
      have hz := hbw.size
      have hp : row? wr ⟨b, 0, none⟩ 33 = some p.arr := (row?_below hbw (a := ⟨b, 0, none⟩) hb 33).trans h
      by_cases hd : l[k].prev = p
      · go_wp2_with (go_at_call 217; refine (spends1 _ p _ _ hp (by omega)).mono ?_; rintro e w' ⟨rfl, hb'⟩)
        go_ret
        exact ⟨ret_int (firstAt_hit hlt hno.out (by simpa using hd)).symm, hbw.trans (hb'.mono hz)⟩
      · go_wp2_with (go_at_call 217; refine (spends1 _ p _ _ hp (by omega)).mono ?_; rintro e w' ⟨rfl, hb'⟩)
        go_roundw
        case rel => exact ⟨k + 1, by omega, by go_num, hbw.trans (hb'.mono hz), fun j h hj => by
          by_cases e : j = k
          · subst e; simpa using hd
          · exact hno.out j h (by omega)⟩
        case measure => simp [intOf]; omega
    · go_wp2
      go_ret
      exact ⟨ret_int (firstAt_none (fun j h => hno.out j h (by omega))).symm, hbw⟩
end Go.Proofs.YtlkojkjeklblkaaGreat
namespace Go.Proofs.YtlkojkjeklblkaaGreat
open Go.RowKit
/-- Is a number within limits? -/
def wth (n a b : Int) : Bool := decide (a ≤ n) && decide (n ≤ b)
theorem wth_iff {n a b : Int} : wth n a b = true ↔ a ≤ n ∧ n ≤ b := by simp [wth]
set_option maxHeartbeats 400000 in
theorem within_tx (n a b : Int) (w : World) : Calls Tryz.prog 188 #[.int .i64 n, .int .i64 a, .int .i64 b] w fun e w' => e = .returned (.bool (wth n a b)) ∧ w = w' := by
  by_cases h1 : a ≤ n
  · go_enter Tryz.func188, Tryz.ntmps188
    go_wp2
    go_ret
    exact ⟨ret_bool (by simp [wth, h1]), rfl⟩
  · go_enter Tryz.func188, Tryz.ntmps188
    go_wp2
    go_ret
    exact ⟨ret_bool (by unfold wth; rw [decide_eq_false (by omega)]; rfl), rfl⟩
def scriptOk (s : Script) : Bool := wth s.key 0 1073741824 && wth s.other 0 1073741824 && wth s.rev 0 1073741824 && wth s.kind 1 6 && wth s.delay 0 65535 && wth s.expiry 0 1000000
set_option maxHeartbeats 1000000 in
theorem script_tx (s : Script) (w : World) : Calls Tryz.prog 187 #[.agg s.arr] w fun e w' => e = .returned (.bool (scriptOk s)) ∧ Below w.heap.size w w' := by
  go_enter Tryz.func187, Tryz.ntmps187
  go_wp2_with (go_at_call 188; refine (within_tx _ _ _ _).mono ?_; rintro e w' ⟨rfl, rfl⟩)
  all_goals
    go_ret
    exact ⟨ret_bool (by simp_all [scriptOk]), (Below.refl _ _).alloc (Nat.le_refl _) _⟩
def witOk (x : Witness) : Bool := wth x.kind 1 4 && wth x.key 0 1073741824 && decide ((x.pre.size : Int) ≤ 64) && ((x.kind == 2) == !x.pre.toList.isEmpty)
set_option maxHeartbeats 1000000 in
theorem witness_tx (x : Witness) (w : World) : Calls Tryz.prog 215 #[.agg x.arr] w fun e w' => e = .returned (.bool (witOk x)) ∧ Below w.heap.size w w' := by
  go_enter Tryz.func215, Tryz.ntmps215
  go_wp2_with (go_at_call 188; refine (within_tx _ _ _ _).mono ?_; rintro e w' ⟨rfl, rfl⟩)
  all_goals
    go_ret
    refine ⟨ret_bool ?_, (Below.refl _ _).alloc (Nat.le_refl _) _⟩
    first | (simp_all [witOk]; done) | (unfold witOk; rw [decide_eq_false (by omega : ¬ ((x.pre.size : Int) ≤ 64))]; simp)
def inOk (x : In) : Bool := wth x.prev.n 0 99 && wth x.seq 0 65535 && witOk x.wit
set_option maxHeartbeats 1000000 in
theorem in_tx (x : In) (w : World) : Calls Tryz.prog 185 #[.agg x.arr] w fun e w' => e = .returned (.bool (inOk x)) ∧ Below w.heap.size w w' := by
  go_enter Tryz.func185, Tryz.ntmps185
  go_wp2_with (first | (go_at_call 188; refine (within_tx _ _ _ _).mono ?_; rintro e w' ⟨rfl, rfl⟩) | (go_at_call 215; refine (witness_tx _ _).mono ?_; rintro e w' ⟨rfl, hb⟩))
  all_goals
    go_ret
    refine ⟨ret_bool (by simp_all [inOk]), ?_⟩
    first | exact (Below.refl _ _).alloc (Nat.le_refl _) _ | exact ((Below.refl _ _).alloc (Nat.le_refl _) _).trans (hb.mono (by simp))
/-- The weight of a witness. -/
def witW (k : Int) : Int := if k = 1 then 74 else if k = 2 then 107 else if k = 3 then 76 else if k = 4 then 1 else 0
def money (a : Int) : Bool := decide (0 ≤ a) && decide (a ≤ 2100000000000000)
set_option maxHeartbeats 1000000 in
theorem valid_am (a : Int) (w : World) : Calls Tryz.prog 229 #[.int .i64 a] w fun e w' => e = .returned (.bool (money a)) ∧ w = w' := by
  go_enter Tryz.func229, Tryz.ntmps229
  go_wp2
  all_goals
    go_ret
    refine ⟨ret_bool ?_, rfl⟩
    unfold money
    first | (rw [decide_eq_true (p := 0 ≤ a) (by assumption)]; simp) | (rw [decide_eq_false (p := 0 ≤ a) (by omega)]; rfl)
def heldS (a : Int) (ok : Bool) : Int × Int := if ok && money a then (a, 0) else (0, 11)
set_option maxHeartbeats 1000000 in
theorem held_am (a : Int) (ok : Bool) (w : World) : Calls Tryz.prog 228 #[.int .i64 a, .bool ok] w fun e w' => e = .returned (.tuple #[.int .i64 (heldS a ok).1, .int .i64 (heldS a ok).2]) ∧ w = w' := by
  go_enter Tryz.func228, Tryz.ntmps228
  go_wp2_with (go_at_call 229; refine (valid_am _ _).mono ?_; rintro e w' ⟨rfl, rfl⟩)
  all_goals
    go_ret2
    refine ⟨?_, rfl⟩
    simp_all [heldS]
def addS (a b : Int) : Int × Int := if money a && money b && money (a + b) then (a + b, 0) else (0, 11)
theorem money_iff {a : Int} : money a = true ↔ 0 ≤ a ∧ a ≤ 2100000000000000 := by simp [money]
set_option maxHeartbeats 1000000 in
theorem add_am (a b : Int) (w : World) : Calls Tryz.prog 218 #[.int .i64 a, .int .i64 b] w fun e w' => e = .returned (.tuple #[.int .i64 (addS a b).1, .int .i64 (addS a b).2]) ∧ w = w' := by
  by_cases h : money a = true ∧ money b = true
  · obtain ⟨h1, h2⟩ := h
    have e1 := money_iff.1 h1
    have e2 := money_iff.1 h2
    have e3 : wrap64 (a + b) = a + b := by unfold wrap64; omega
    go_enter Tryz.func218, Tryz.ntmps218
    go_wp2_with (first | (go_at_call 229; refine (valid_am _ _).mono ?_; rintro e w' ⟨rfl, rfl⟩) | (go_at_call 228; refine (held_am _ _ _).mono ?_; rintro e w' ⟨rfl, rfl⟩))
    go_ret2
    refine ⟨?_, rfl⟩
    simp_all [addS, heldS]
  · have hs : ∀ x, heldS x false = (0, 11) := fun x => by simp [heldS]
    go_enter Tryz.func218, Tryz.ntmps218
    go_wp2_with (first | (go_at_call 229; refine (valid_am _ _).mono ?_; rintro e w' ⟨rfl, rfl⟩) | (go_at_call 228; refine (held_am _ _ _).mono ?_; rintro e w' ⟨rfl, rfl⟩))
    all_goals
      go_ret2
      refine ⟨?_, rfl⟩
      simp_all [addS, heldS]
end Go.Proofs.YtlkojkjeklblkaaGreat
namespace Go.Proofs.YtlkojkjeklblkaaGreat
open Go.RowKit
/-- The numbers of l lie one behind the other from a on, in a block below B. -/
def intsAt (w : World) (a : Option Addr) (l : List Int) (B : Nat) : Prop :=
  l ≠ [] → ∃ b off, a = some ⟨b, off, none⟩ ∧ b < B ∧ ∀ k (h : k < l.length), w.cell? ⟨b, off + k, none⟩ = some (.int .i64 l[k])
theorem intsAt.below {w w' : World} {a : Option Addr} {l : List Int} {B : Nat} (h : intsAt w a l B) (hb : Below B w w') : intsAt w' a l B := by
  intro hl
  obtain ⟨b, off, ha, hB, hr⟩ := h hl
  exact ⟨b, off, ha, hB, fun k hk => (hb.cell (p := ⟨b, _, none⟩) hB).trans (hr k hk)⟩
theorem intsAt.at {w : World} {a : Option Addr} {l : List Int} {B : Nat} (h : intsAt w a l B) {k : Nat} (hk : k < l.length) :
    ∃ b off, a = some ⟨b, off, none⟩ ∧ b < B ∧ w.cell? ⟨b, off + k, none⟩ = some (.int .i64 l[k]) := by
  obtain ⟨b, off, ha, hB, hr⟩ := h (by rintro rfl; simp at hk)
  exact ⟨b, off, ha, hB, hr k hk⟩
/-- Numbers as cells. -/
def intVs (l : List Int) : List Value := l.map (Value.int .i64)
theorem intVs_length (l : List Int) : (intVs l).length = l.length := by simp [intVs]
theorem intVs_snoc (l : List Int) (x : Int) : intVs (l ++ [x]) = intVs l ++ [.int .i64 x] := by simp [intVs]
theorem intsAt_own {w : World} {base : Nat} {e : TypeId} {a : Option Addr} {n c : Nat} {l : List Int} (h : w.ownsRow base e 1 (.slice a n c) n (intVs l)) : n = l.length ∧ intsAt w a l w.heap.size := by
  have hn : n = l.length := by have := h.1; rw [intVs_length] at this; omega
  refine ⟨hn, fun hl => ?_⟩
  rcases h.2 with ⟨hv, h0⟩ | ⟨g, cap, cur, hv, hg, hh, hn', hm, hs, ht⟩
  · exact absurd (by omega : l.length = 0) (by simpa using hl)
  · injection hv with ha _ hcc
    subst ha hcc
    refine ⟨g, 0, rfl, (Array.getElem?_eq_some_iff.1 hh).1, fun k hk => ?_⟩
    rw [Nat.zero_add, h.cellAt k (by omega)]
    simp [intVs, hk]
def totalS : Int → List Int → Int × Int
  | s, [] => (s, 0)
  | s, a :: l => if (addS s a).2 = 0 then totalS (addS s a).1 l else addS s a
theorem totalS_step {l : List Int} {k : Nat} {s : Int} (hk : k < l.length) (h : totalS 0 l = totalS s (l.drop k)) :
    totalS 0 l = if (addS s l[k]).2 = 0 then totalS (addS s l[k]).1 (l.drop (k + 1)) else addS s l[k] := by
  rw [h, List.drop_eq_getElem_cons hk, totalS]
set_option maxHeartbeats 1000000 in
theorem total_am (a : Option Addr) (c : Nat) (l : List Int) (w : World) (hl : l.length ≤ 9223372036854775806) (hs : intsAt w a l w.heap.size) :
    Calls Tryz.prog 189 #[.slice a l.length c] w fun e w' => e = .returned (.tuple #[.int .i64 (totalS 0 l).1, .int .i64 (totalS 0 l).2]) ∧ w = w' := by
  go_enter Tryz.func189, Tryz.ntmps189
  go_wp2
  refine wp_scope_fwd 0 (by rfl) ?_
  go_wp2
  go_loop [2, 3, 8] (fun s e i => ∃ (k : Nat) (x : Int), k ≤ l.length ∧ i = .int .i64 k ∧ s = .int .i64 x ∧ e = .int .i64 0 ∧ Hid (totalS 0 l = totalS x (l.drop k))) (fun _ _ i => l.length - (intOf i).toNat)
  case atStart => exact ⟨0, 0, Nat.zero_le _, rfl, rfl, rfl, rfl⟩
  case round =>
    obtain ⟨k, x, hk, rfl, rfl, rfl, ht⟩ := hrel
    by_cases hlt : k < l.length
    · obtain ⟨b, off, rfl, hb, hc⟩ := hs.at hlt
      have hst := totalS_step hlt ht.out
      have Hst := Lib.hid hst
      clear hst
      by_cases he : (addS x l[k]).2 = 0
      · have he' : ((addS x l[k]).2 != 0) = false := by simpa using he
        have Hhe := Lib.hid he
        clear he
        go_wp2_with (go_at_call 218; refine (add_am _ _ _).mono ?_; rintro e w' ⟨rfl, rfl⟩)
        go_round
        case rel => exact ⟨k + 1, _, by omega, by go_num, rfl, by rw [Hhe.out], by rw [Hst.out, if_pos Hhe.out]; rfl⟩
        case measure => simp [intOf]; omega
      · have he' : ((addS x l[k]).2 != 0) = true := by simpa using he
        go_wp2_with (go_at_call 218; refine (add_am _ _ _).mono ?_; rintro e w' ⟨rfl, rfl⟩)
        go_step3
        refine ⟨rfl, ?_⟩
        show Code.wp _ _ _ _ _
        go_wp2
        rw [Exit.noGoto_ret]
        go_ret2
        exact ⟨by rw [Hst.out, if_neg he]; rfl, rfl⟩
    · go_wp2
      go_step3
      go_wp2
      rw [jump_ret]
      go_ret2
      have : k = l.length := by omega
      subst this
      exact ⟨by rw [ht.out]; simp [totalS], rfl⟩
/-- A transaction. -/
structure Tx where
  ins : List In
  outs : List Out
  lock : Int
/-- A value that reads as a transaction, its lists below block B. -/
def isTx (w : World) (v : TxV) (t : Tx) (B : Nat) : Prop := isSl w v.ins 37 In.arr t.ins B ∧ isSl w v.outs 39 Out.arr t.outs B ∧ v.lock = t.lock
theorem isTx.below {w w' : World} {v : TxV} {t : Tx} {B : Nat} (h : isTx w v t B) (hb : Below B w w') : isTx w' v t B := ⟨h.1.below hb, h.2.1.below hb, h.2.2⟩
theorem isTx.mono {w : World} {v : TxV} {t : Tx} {B B' : Nat} (h : isTx w v t B) (hb : B ≤ B') : isTx w v t B' := ⟨h.1.mono hb, h.2.1.mono hb, h.2.2⟩
def sumW (l : List In) : Int := (l.map fun x => witW x.wit.kind).sum
def weightS (t : Tx) : Int := 4 * (10 + 41 * t.ins.length + 34 * t.outs.length) + sumW t.ins
theorem witW_bd (k : Int) : 0 ≤ witW k ∧ witW k ≤ 107 := by unfold witW; split; omega; split; omega; split; omega; split <;> omega
theorem sumW_bd (l : List In) : 0 ≤ sumW l ∧ sumW l ≤ 107 * l.length := by
  unfold sumW
  induction l with
  | nil => simp
  | cons x l ih => have := witW_bd x.wit.kind; simp only [List.map_cons, List.sum_cons, List.length_cons]; omega
theorem sumW_take {l : List In} {k : Nat} (hk : k < l.length) : sumW (l.take (k + 1)) = sumW (l.take k) + witW l[k].wit.kind := by
  unfold sumW
  rw [List.take_succ_eq_append_getElem hk, List.map_append, List.sum_append]
  simp
end Go.Proofs.YtlkojkjeklblkaaGreat
