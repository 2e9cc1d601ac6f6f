/- Rows of cells in memory, read and written whole: the words and laws that the walks over structs use. No program in sight. -/
import Derived.WalkKit
import Derived.WalkSpells
import Derived.WalkLawsBesides
import Derived.Lib.Hide
import Derived.Deep.Draws
set_option linter.unusedSimpArgs false
set_option linter.unusedVariables false
namespace Go.Proofs.YtlkojkjeklblkaaGreat
open Go.RowKit

/-- The n cells from a on, if they are there. -/
def row? (w : World) (a : Addr) (n : Nat) : Option (Array Value) :=
  match w.heap[a.block]? with
  | some (.cells c _ _) => if a.spot = none ∧ a.off + n ≤ c.size then some (c.extract a.off (a.off + n)) else none
  | _ => none

theorem row?_cell {w : World} {a : Addr} {n : Nat} {cs : Array Value} (h : row? w a n = some cs) : cs.size = n ∧ ∀ j, j < n → w.cell? (a.add j) = cs[j]? := by
  unfold row? at h
  split at h
  · rename_i c t fr hb
    split at h
    · rename_i hc
      obtain ⟨hs, hl⟩ := hc
      simp only [Option.some.injEq] at h
      subst h
      refine ⟨by simp; omega, fun j hj => ?_⟩
      have e : (a.add j).block = a.block ∧ (a.add j).off = a.off + j ∧ (a.add j).spot = none := by
        unfold Addr.add; split <;> simp_all
      simp only [World.cell?, e.1, hb, e.2.2, e.2.1, Option.isSome_none, Bool.false_eq_true, if_false]
      rw [Array.getElem?_extract]
      rw [if_pos (by omega)]
    · simp at h
  · simp at h

theorem row?_of_block {w w' : World} {a : Addr} (h : w'.heap[a.block]? = w.heap[a.block]?) (n : Nat) : row? w' a n = row? w a n := by
  unfold row?; rw [h]

theorem row?_alloc_at (w : World) (c : Array Value) (t : TypeId) (fr : Nat × Nat) (m off n : Nat) (hm : m = w.heap.size) :
    row? (w.alloc (.cells c t fr)) ⟨m, off, none⟩ n = if off + n ≤ c.size then some (c.extract off (off + n)) else none := by
  subst hm
  simp [row?, World.alloc, -World.alloc_eq]

theorem row?_alloc_past (w : World) (o : Obj) (a : Addr) (n : Nat) (hm : a.block < w.heap.size) : row? (w.alloc o) a n = row? w a n := by
  apply row?_of_block
  show (w.heap.push o)[a.block]? = _
  rw [Array.getElem?_push, if_neg (by omega)]

theorem row?_drew (w : World) (a : Addr) (n : Nat) : row? w.drew a n = row? w a n := rfl
theorem row?_drewN (w : World) (k : Nat) (a : Addr) (n : Nat) : row? (w.drewN k) a n = row? w a n := rfl

theorem row?_setCell_other (w : World) (p a : Addr) (v : Value) (n : Nat) (h : a.block ≠ p.block) : row? (w.setCell p v) a n = row? w a n := by
  apply row?_of_block
  simp only [World.setCell, Array.getElem?_modify]
  rw [if_neg (fun e => h e.symm)]

theorem row?_below {B : Nat} {w w' : World} (h : Below B w w') {a : Addr} (ha : a.block < B) (n : Nat) : row? w' a n = row? w a n := row?_of_block (h.block _ ha) n

theorem row?_lt {w : World} {a : Addr} {n : Nat} {cs : Array Value} (h : row? w a n = some cs) : a.block < w.heap.size := by
  unfold row? at h
  split at h
  · rename_i c t fr hb
    exact (Array.getElem?_eq_some_iff.1 hb).1
  · simp at h

/-- A part of a row is a row. -/
theorem row?_part {w : World} {b off n : Nat} {cs : Array Value} (h : row? w ⟨b, off, none⟩ n = some cs) (o m : Nat) (hm : o + m ≤ n) :
    row? w ⟨b, off + o, none⟩ m = some (cs.extract o (o + m)) := by
  unfold row? at h ⊢
  split at h
  · rename_i c t fr hb
    simp only at hb
    simp only [hb]
    split at h
    · rename_i hc
      simp only [Option.some.injEq] at h
      subst h
      simp only [true_and] at hc ⊢
      rw [if_pos (by omega)]
      simp only [Option.some.injEq]
      rw [Array.extract_extract]
      congr 1 <;> omega
    · simp at h
  · simp at h

theorem row?_cellAt {w : World} {b off n : Nat} {cs : Array Value} (h : row? w ⟨b, off, none⟩ n = some cs) (o : Nat) (hm : o < n) :
    w.cell? ⟨b, off + o, none⟩ = cs[o]? := by
  have := (row?_cell h).2 o hm
  have e : (⟨b, off, none⟩ : Addr).add o = ⟨b, off + o, none⟩ := by unfold Addr.add; split <;> simp_all
  rwa [e] at this

/-- Is a type's value made of several cells? -/
def aggD : TypeDesc → Bool
  | .struct _ => true
  | .array _ _ => true
  | _ => false
section
variable {P : Program}
theorem isAgg_true {t : TypeId} {d : TypeDesc} (hu : P.underlying t = some d) (hd : aggD d = true) (w : World) :
    (isAgg t).run P w = .ok true w := by
  unfold isAgg
  rw [Sem.run_bind, run_underlying hu w]
  cases d <;> simp_all [aggD]

theorem sizeOf_run {t : TypeId} {n : Nat} (hi : (P.info? t).map (·.size) = some n) (w : World) : (sizeOf t).run P w = .ok n w := by
  cases hq : P.info? t with
  | none => simp [hq] at hi
  | some i =>
    have : i.size = n := by simpa [hq] using hi
    simp [sizeOf, typeInfo, hq, this]

theorem run_loadAt_row {t : TypeId} {d : TypeDesc} {n : Nat} (hu : P.underlying t = some d) (hd : aggD d = true)
    (hi : (P.info? t).map (·.size) = some n) (w : World) (a : Addr) (cs : Array Value) (h : row? w a n = some cs) :
    (Instr.loadAt t (.pointer (some a))).run P w = .ok (.agg cs) w := by
  obtain ⟨hs, hc⟩ := row?_cell h
  have hl : (loadCells a cs.toList.length).run P w = .ok cs.toList.toArray w :=
    run_loadCells_list (P := P) w a cs.toList (fun j v hv => by
      have hj : j < n := by
        rcases Nat.lt_or_ge j cs.toList.length with h' | h'
        · simpa [hs] using h'
        · simp [List.getElem?_eq_none h'] at hv
      rw [hc j hj]; simpa using hv)
  simp only [Array.length_toList, Array.toArray_toList, hs] at hl
  simp only [Instr.loadAt, Instr.sureAddr, loadVar, Sem.run_bind, Sem.run_pure, Result.andThen_ok, isAgg_true hu hd, if_true, sizeOf_run hi, hl]

end
#print axioms run_loadAt_row
end Go.Proofs.YtlkojkjeklblkaaGreat
