/- Ghost owners: which thing each block belongs to; what is nobody's stays. -/
import Derived.Test.YtlkojkjeklblkaaGreatNumB
set_option linter.unusedSimpArgs false
set_option linter.unusedVariables false
namespace Go.Proofs.YtlkojkjeklblkaaGreat
open Go.RowKit
/-- The blocks of a thing, by their owner. -/
def zn (own : Nat → Nat) (i : Nat) (k : Nat) : Prop := own k = i
/-- From a block on the owner is another one. -/
def setO (own : Nat → Nat) (n i : Nat) (k : Nat) : Nat := if k < n then own k else i
theorem setO_old {own : Nat → Nat} {n i k : Nat} (h : k < n) : setO own n i k = own k := if_pos h
theorem setO_new {own : Nat → Nat} {n i k : Nat} (h : n ≤ k) : setO own n i k = i := if_neg (by omega)
def SameO (own own' : Nat → Nat) (n : Nat) : Prop := ∀ k, k < n → own' k = own k
theorem SameO.trans {a b c : Nat → Nat} {n m : Nat} (h : SameO a b n) (g : SameO b c m) (hm : n ≤ m) : SameO a c n := fun k hk => (g k (by omega)).trans (h k hk)
/-- What was there at the beginning has no owner. -/
def Fresh (own : Nat → Nat) (n : Nat) : Prop := ∀ k, k < n → own k = 0
section
variable {own own' : Nat → Nat} {n m i j : Nat} {w w' : World}
theorem Fresh.same (h : Fresh own n) (s : SameO own own' m) (hm : n ≤ m) : Fresh own' n := fun k hk => (s k (by omega)).trans (h k hk)
theorem Fresh.setO (h : Fresh own n) (hm : n ≤ m) (i : Nat) : Fresh (setO own m i) n := fun k hk => (setO_old (by omega)).trans (h k hk)
theorem Fresh.below (h : Fresh own n) (hu : Upd w w' (fun k => own k = i)) (hi : i ≠ 0) (hn : n ≤ w.heap.size) : Below n w w' :=
  hu.below hn (fun k hk => by
    rcases Nat.lt_or_ge k n with g | g
    · exact absurd ((h k g).symm.trans hk) (fun e => hi e.symm)
    · exact g)
theorem Fresh.below2 (h : Fresh own n) (hu : Upd w w' (fun k => own k = i ∨ own k = j)) (hi : i ≠ 0) (hj : j ≠ 0) (hn : n ≤ w.heap.size) : Below n w w' :=
  hu.below hn (fun k hk => by
    rcases Nat.lt_or_ge k n with g | g
    · have h0 := h k g
      rcases hk with e | e
      · exact absurd (h0.symm.trans e) (fun e => hi e.symm)
      · exact absurd (h0.symm.trans e) (fun e => hj e.symm)
    · exact g)
end
theorem setO_zero {own : Nat → Nat} {n g : Nat} (h : own g = 0 ∨ n ≤ g) : setO own n 0 g = 0 := by
  by_cases hg : g < n
  · rw [setO_old hg]; exact h.resolve_right (by omega)
  · exact setO_new (by omega)
theorem setO_more {own : Nat → Nat} {n i g : Nat} (h : own g = i ∨ n ≤ g) : setO own n i g = i := by
  by_cases hg : g < n
  · rw [setO_old hg]; exact h.resolve_right (by omega)
  · exact setO_new (by omega)
/-- What is nobody's stays. -/
structure Keep0 (own own' : Nat → Nat) (w w' : World) : Prop where
  same : SameO own own' w.heap.size
  upd : Upd w w' (fun k => own k ≠ 0)
theorem Keep0.trans {o1 o2 o3 : Nat → Nat} {w1 w2 w3 : World} (h : Keep0 o1 o2 w1 w2) (k : Keep0 o2 o3 w2 w3) : Keep0 o1 o3 w1 w3 :=
  ⟨fun g hg => (k.same g (Nat.lt_of_lt_of_le hg h.upd.size)).trans (h.same g hg), h.upd.trans k.upd (fun g hg hn => by rw [h.same g hg] at hn; exact hn)⟩
theorem Keep0.below {own : Nat → Nat} {w w' : World} (h : Below w.heap.size w w') : Keep0 own (setO own w.heap.size 0) w w' := ⟨fun g hg => setO_old hg, Upd.of_below h _⟩
theorem Keep0.on {own : Nat → Nat} {w w' : World} (h : Below w.heap.size w w') : Keep0 own own w w' := ⟨fun g hg => rfl, Upd.of_below h _⟩
end Go.Proofs.YtlkojkjeklblkaaGreat
