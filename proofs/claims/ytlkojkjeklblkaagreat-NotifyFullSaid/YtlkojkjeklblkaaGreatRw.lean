/- Lists of structs that lie in memory, read through a slice. -/
import Derived.Test.YtlkojkjeklblkaaGreatOps
import Derived.BigGuardPart
import Derived.BigQuiet
import Derived.Lib.QuietBelow
set_option linter.unusedSimpArgs false
set_option linter.unusedVariables false
namespace Go.Proofs.YtlkojkjeklblkaaGreat
open Go.RowKit
theorem bcell {W w1 : World} (hb : Below W.heap.size W w1) : (∀ b o, b < W.heap.size → w1.cell? ⟨b, o, none⟩ = W.cell? ⟨b, o, none⟩) ∧ (∀ b o, b < W.heap.size → w1.frozen? ⟨b, o, none⟩ = W.frozen? ⟨b, o, none⟩) ∧ (∀ b o n, b < W.heap.size → row? w1 ⟨b, o, none⟩ n = row? W ⟨b, o, none⟩ n) :=
  ⟨fun b o h => hb.cell (p := ⟨b, o, none⟩) h, fun b o h => hb.frozen (p := ⟨b, o, none⟩) h, fun b o n h => row?_below hb (a := ⟨b, o, none⟩) h n⟩
/-- The elements of l lie one behind the other from a on, sz cells each, in a block below B. -/
def rowsAt {α : Type} (w : World) (a : Option Addr) (sz : Nat) (enc : α → Array Value) (l : List α) (B : Nat) : Prop :=
  l ≠ [] → ∃ b off, a = some ⟨b, off, none⟩ ∧ b < B ∧ ∀ k (h : k < l.length), row? w ⟨b, off + k * sz, none⟩ sz = some (enc l[k])
theorem rowsAt.below {α : Type} {w w' : World} {a : Option Addr} {sz : Nat} {enc : α → Array Value} {l : List α} {B : Nat} (h : rowsAt w a sz enc l B) (hb : Below B w w') : rowsAt w' a sz enc l B := by
  intro hl
  obtain ⟨b, off, ha, hB, hr⟩ := h hl
  exact ⟨b, off, ha, hB, fun k hk => (row?_below hb (a := ⟨b, _, none⟩) hB sz).trans (hr k hk)⟩
theorem rowsAt.mono {α : Type} {w : World} {a : Option Addr} {sz : Nat} {enc : α → Array Value} {l : List α} {B B' : Nat} (h : rowsAt w a sz enc l B) (hb : B ≤ B') : rowsAt w a sz enc l B' := by
  intro hl
  obtain ⟨b, off, ha, hB, hr⟩ := h hl
  exact ⟨b, off, ha, Nat.lt_of_lt_of_le hB hb, hr⟩
theorem rowsAt.at {α : Type} {w : World} {a : Option Addr} {sz : Nat} {enc : α → Array Value} {l : List α} {B : Nat} (h : rowsAt w a sz enc l B) {k : Nat} (hk : k < l.length) :
    ∃ b off, a = some ⟨b, off, none⟩ ∧ b < B ∧ row? w ⟨b, off + k * sz, none⟩ sz = some (enc l[k]) := by
  obtain ⟨b, off, ha, hB, hr⟩ := h (by rintro rfl; simp at hk)
  exact ⟨b, off, ha, hB, hr k hk⟩
theorem rowsAt.take {α : Type} {w : World} {a : Option Addr} {sz : Nat} {enc : α → Array Value} {l : List α} {B : Nat} (h : rowsAt w a sz enc l B) (n : Nat) : rowsAt w a sz enc (l.take n) B := by
  intro hl
  obtain ⟨b, off, ha, hB, hr⟩ := h (by rintro rfl; simp at hl)
  exact ⟨b, off, ha, hB, fun k hk => by rw [hr k (by simp at hk; omega)]; simp⟩
/-- A slice's value that reads as l. -/
def isSl {α : Type} (w : World) (s : Sl) (sz : Nat) (enc : α → Array Value) (l : List α) (B : Nat) : Prop := s.n = l.length ∧ s.n ≤ s.c ∧ rowsAt w s.a sz enc l B
theorem isSl.below {α : Type} {w w' : World} {s : Sl} {sz : Nat} {enc : α → Array Value} {l : List α} {B : Nat} (h : isSl w s sz enc l B) (hb : Below B w w') : isSl w' s sz enc l B := ⟨h.1, h.2.1, h.2.2.below hb⟩
theorem isSl.mono {α : Type} {w : World} {s : Sl} {sz : Nat} {enc : α → Array Value} {l : List α} {B B' : Nat} (h : isSl w s sz enc l B) (hb : B ≤ B') : isSl w s sz enc l B' := ⟨h.1, h.2.1, h.2.2.mono hb⟩
/-- The place of the first element that meets p, or -1. -/
def firstAt {α : Type} (p : α → Bool) (l : List α) : Int := match l.findIdx? p with | some i => (i : Int) | none => -1
theorem firstAt_hit {α : Type} {p : α → Bool} {l : List α} {k : Nat} (hk : k < l.length) (hno : ∀ j (h : j < l.length), j < k → p l[j] = false) (hy : p l[k] = true) : firstAt p l = k := by
  have : l.findIdx? p = some k := by
    rw [List.findIdx?_eq_some_iff_getElem]
    exact ⟨hk, hy, fun j hj => by simpa using hno j (by omega) hj⟩
  simp [firstAt, this]
theorem firstAt_none {α : Type} {p : α → Bool} {l : List α} (hno : ∀ j (h : j < l.length), p l[j] = false) : firstAt p l = -1 := by
  have : l.findIdx? p = none := by
    rw [List.findIdx?_eq_none_iff]
    intro x hx
    obtain ⟨j, hj, rfl⟩ := List.mem_iff_getElem.1 hx
    exact hno j hj
  simp [firstAt, this]
/-! ### a goto forward: what stands behind the label is walked from the jump on -/
section
variable {P : Program} {Q : Exit → Act → World → Prop} {a : Act} {w : World}
theorem wp_scope_fwd {c rest : Code} (l : Nat) (hf : findLabel c l = some rest) (h : c.wp P (Exit.jump l (fun a w => rest.wp P (Exit.noGoto Q) a w) Q) a w) : (Code.scope c).wp P Q a w :=
  wp_scope_jumps l _ (fun _ _ => 0) hf h fun a w hJ => wp_mono hJ fun e a w he => by cases e <;> first | exact he | exact he.elim
theorem jump_ret (l : Nat) (J : Act → World → Prop) : Exit.jump l J Q .ret a w = Q .ret a w := rfl
theorem jump_normal (l : Nat) (J : Act → World → Prop) : Exit.jump l J Q .normal a w = Q .normal a w := rfl
end
/-! ### a region that draws its order, whose operations only read, and whose callees lay new blocks at most: walked once -/
section
variable {P : Program}
open Go.Sort
theorem wpQuiet_mono {ops : Array Oper} {C : World → Prop} {Q Q' : Act → Prop} (h : ∀ a, Q a → Q' a) : ∀ (l : List Oper) (a : Act), wpQuiet P ops C Q l a → wpQuiet P ops C Q' l a
  | [], a, hh => h a hh
  | o :: l, a, hh => by
    unfold wpQuiet at hh ⊢
    split
    · rename_i hw; simp only [hw, if_true] at hh; exact Oper.quiet_mono (fun a ha => wpQuiet_mono h l a ha) hh
    · rename_i hw; simp only [hw] at hh; exact wpQuiet_mono h l _ hh
theorem wp_region_below {id : Nat} {Q : Exit → Act → World → Prop} {a : Act} {w : World} {l : List Oper} (hm : P.follows .mixedOrders = true) (hB : Region.lexB .any l.toArray = true)
    (h : wpQuiet P l.toArray (fun w' => ∃ p : Regrown, w' = grow (redrawn w p.d) p.os) (fun a' => ∀ w', Below w.heap.size w w' → Q .normal a' w') l a) : (Code.region id l.toArray true).wp P Q a w :=
  wp_region_quiet_below hm hB (wpQuiet_mono (fun _ h w' ⟨p, hp⟩ => h w' (hp ▸ below_regrown w p.d p.os)) l a h)
@[go_sem] theorem cell_grow (w : World) (d : Nat) (os : Array Obj) (b o : Nat) (h : b < w.heap.size) : (grow (redrawn w d) os).cell? ⟨b, o, none⟩ = w.cell? ⟨b, o, none⟩ := (below_regrown w d os).cell (p := ⟨b, o, none⟩) h
@[go_sem] theorem row_grow (w : World) (d : Nat) (os : Array Obj) (b o n : Nat) (h : b < w.heap.size) : row? (grow (redrawn w d) os) ⟨b, o, none⟩ n = row? w ⟨b, o, none⟩ n := row?_below (below_regrown w d os) (a := ⟨b, o, none⟩) h n
theorem isSl.regrown {α : Type} {W : World} {s : Sl} {sz : Nat} {enc : α → Array Value} {l : List α} {B : Nat} (h : isSl W s sz enc l B) (hB : B ≤ W.heap.size) (d : Nat) (os : Array Obj) :
    isSl (grow (redrawn W d) os) s sz enc l (grow (redrawn W d) os).heap.size := (h.below ((below_regrown W d os).mono hB)).mono (Nat.le_trans hB (below_regrown W d os).size)
theorem size_grow (w : World) (d : Nat) (os : Array Obj) : w.heap.size ≤ (grow (redrawn w d) os).heap.size := (below_regrown w d os).size
end
theorem grown_of_below {w w' : World} (h : Below w.heap.size w w') : w.grownBy w' none := ⟨h.os, h.tape, h.output, h.size, fun k hk _ => h.block k hk⟩
theorem ownsRow_below {w w' : World} {base : Nat} {e : TypeId} {size : Nat} {v : Value} {n : Nat} {xs : List Value} (h : w.ownsRow base e size v n xs) (hb : Below w.heap.size w w') : w'.ownsRow base e size v n xs := by
  cases ho : v.ownBlock with
  | none => exact h.kept (grown_of_below hb) (.inl ho)
  | some k => exact h.kept (grown_of_below hb) (.inr (by rw [ho]; simp))
theorem ownsRow_slice {w : World} {base : Nat} {e : TypeId} {size : Nat} {v : Value} {n : Nat} {xs : List Value} (h : w.ownsRow base e size v n xs) :
    ∃ a c, v = .slice a n c ∧ n ≤ c ∧ (n ≠ 0 → ∃ g, a = some ⟨g, 0, none⟩ ∧ base ≤ g ∧ g < w.heap.size) := by
  rcases h.2 with ⟨rfl, rfl⟩ | ⟨g, cap, cur, rfl, hg, hh, hn, hm, hs, ht⟩
  · exact ⟨none, 0, rfl, by omega, fun h => by omega⟩
  · exact ⟨_, _, rfl, hn, fun _ => ⟨g, rfl, hg, (Array.getElem?_eq_some_iff.1 hh).1⟩⟩
theorem own_far {w W w' : World} {base : Nat} {e : TypeId} {size : Nat} {v : Value} {n : Nat} {xs : List Value} (h : w.ownsRow base e size v n xs) (hg : W.grownBy w' v.ownBlock) {b : Nat} (hb : b < base) (hbW : b < W.heap.size) (o : Nat) :
    w'.cell? ⟨b, o, none⟩ = W.cell? ⟨b, o, none⟩ :=
  World.cell?_of_block (hg.block b hbW (fun e => by have := (h.lt b e.symm).1; omega))
theorem ret_int {k : IntKind} {a b : Int} (h : a = b) : Ending.returned (.int k a) = .returned (.int k b) := by rw [h]
theorem ret_bool {a b : Bool} (h : a = b) : Ending.returned (.bool a) = .returned (.bool b) := by rw [h]
end Go.Proofs.YtlkojkjeklblkaaGreat
