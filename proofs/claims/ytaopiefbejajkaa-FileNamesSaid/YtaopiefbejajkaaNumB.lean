/- Contracts of package num, continued: what is written with numbers, hashes, outpoints, scripts. -/
import Derived.Test.YtaopiefbejajkaaNumA
import Derived.Test.YtaopiefbejajkaaTxC
set_option linter.unusedSimpArgs false
set_option linter.unusedVariables false
namespace Go.Proofs.Ytaopiefbejajkaa
open Go.RowKit
/-- Of the old blocks only those that meet S may have turned. -/
structure Upd (w w' : World) (S : Nat → Prop) : Prop where
  os : w'.os = w.os
  tape : w'.tape = w.tape
  output : w'.output = w.output
  size : w.heap.size ≤ w'.heap.size
  block : ∀ k, k < w.heap.size → ¬ S k → w'.heap[k]? = w.heap[k]?
theorem Upd.refl (w : World) (S : Nat → Prop) : Upd w w S := ⟨rfl, rfl, rfl, Nat.le_refl _, fun _ _ _ => rfl⟩
theorem Upd.trans {a b c : World} {S T : Nat → Prop} (h : Upd a b S) (k : Upd b c T) (hT : ∀ i, i < a.heap.size → T i → S i) : Upd a c S :=
  ⟨k.os.trans h.os, k.tape.trans h.tape, k.output.trans h.output, Nat.le_trans h.size k.size, fun i hi hs => (k.block i (Nat.lt_of_lt_of_le hi h.size) (fun ht => hs (hT i hi ht))).trans (h.block i hi hs)⟩
theorem Upd.of_below {w w' : World} (h : Below w.heap.size w w') (S : Nat → Prop) : Upd w w' S := ⟨h.os, h.tape, h.output, h.size, fun k hk _ => h.block k hk⟩
theorem Upd.below {w w' : World} {S : Nat → Prop} {B : Nat} (h : Upd w w' S) (hB : B ≤ w.heap.size) (hS : ∀ k, S k → B ≤ k) : Below B w w' :=
  ⟨h.os, h.tape, h.output, h.size, fun k hk => h.block k (by omega) (fun hs => by have := hS k hs; omega)⟩
theorem Upd.mono {w w' : World} {S T : Nat → Prop} (h : Upd w w' S) (hT : ∀ k, k < w.heap.size → S k → T k) : Upd w w' T := ⟨h.os, h.tape, h.output, h.size, fun k hk hs => h.block k hk (fun x => hs (hT k hk x))⟩
theorem Upd.setCell (w : World) (a : Addr) (u : Value) : Upd w (w.setCell a u) (fun k => k = a.block) :=
  ⟨rfl, rfl, rfl, by simp, fun k _ hs => Below.heap_setCell _ _ _ _ hs⟩
theorem Upd.grown {w w' : World} {row : Option Nat} (h : w.grownBy w' row) : Upd w w' (fun k => row = some k) := ⟨h.os, h.tape, h.output, h.size, fun k hk hs => h.block k hk (fun e => hs e.symm)⟩
theorem Upd.cell {w w' : World} {S : Nat → Prop} (h : Upd w w' S) {b : Nat} (hb : b < w.heap.size) (hs : ¬ S b) (o : Nat) : w'.cell? ⟨b, o, none⟩ = w.cell? ⟨b, o, none⟩ := World.cell?_of_block (h.block b hb hs)
theorem Upd.frozen {w w' : World} {S : Nat → Prop} (h : Upd w w' S) {b : Nat} (hb : b < w.heap.size) (hs : ¬ S b) (o : Nat) : w'.frozen? ⟨b, o, none⟩ = w.frozen? ⟨b, o, none⟩ := World.frozen?_of_block (h.block b hb hs)
theorem Upd.row {w w' : World} {S : Nat → Prop} (h : Upd w w' S) {b : Nat} (hb : b < w.heap.size) (hs : ¬ S b) (o n : Nat) : row? w' ⟨b, o, none⟩ n = row? w ⟨b, o, none⟩ n := row?_of_block (h.block b hb hs) n
theorem ownsRow_upd {w w' : World} {S : Nat → Prop} {base : Nat} {e : TypeId} {size : Nat} {v : Value} {n : Nat} {xs : List Value} (h : w.ownsRow base e size v n xs) (hu : Upd w w' S) (hs : ∀ k, v.ownBlock = some k → ¬ S k) : w'.ownsRow base e size v n xs := by
  refine ⟨h.1, ?_⟩
  rcases h.2 with h2 | ⟨g, cap, cur, hv, hg, hh, r⟩
  · exact .inl h2
  · exact .inr ⟨g, cap, cur, hv, hg, by rw [hu.block g (Array.getElem?_eq_some_iff.1 hh).1 (hs g (by rw [hv]; rfl))]; exact hh, r⟩
/-- A block that holds known cells. -/
theorem cells_known {w : World} {b : Nat} {c : Array Value} {t : TypeId} (h : w.heap[b]? = some (.cells c t (0, 0))) : (∀ o, w.cell? ⟨b, o, none⟩ = c[o]?) ∧ (∀ o, w.frozen? ⟨b, o, none⟩ = false) ∧ b < w.heap.size :=
  ⟨fun o => by simp [World.cell?, h], fun o => by simp [World.frozen?, h], (Array.getElem?_eq_some_iff.1 h).1⟩
theorem heap_set {w : World} {b : Nat} {c : Array Value} {t : TypeId} (h : w.heap[b]? = some (.cells c t (0, 0))) (i : Nat) (v : Value) : (w.setCell ⟨b, i, none⟩ v).heap[b]? = some (.cells (c.setIfInBounds i v) t (0, 0)) := by
  simp only [World.setCell, Array.getElem?_modify, if_true, h, Option.map_some]; simp
def Sl.v (s : Sl) : Value := .slice s.a s.n s.c
/-- The blocks that an Ink at p has. -/
def inkFoot (p : Nat) (s : Sl) (k : Nat) : Prop := k = p ∨ s.v.ownBlock = some k
/-- An Ink at p that holds l. -/
def inkAt (w : World) (p : Nat) (s : Sl) (l : List UInt8) (B : Nat) : Prop :=
  B ≤ p ∧ w.heap[p]? = some (.cells (InkV.mk s false).arr 193 (0, 0)) ∧ w.ownsRow B 5 1 s.v l.length (byteVs l) ∧ s.v.ownBlock ≠ some p
theorem inkAt.upd {w w' : World} {p : Nat} {s : Sl} {l : List UInt8} {B : Nat} (h : inkAt w p s l B) {S : Nat → Prop} (hu : Upd w w' S) (hs : ∀ k, inkFoot p s k → ¬ S k) : inkAt w' p s l B := by
  obtain ⟨h1, h2, h3, h4⟩ := h
  exact ⟨h1, by rw [hu.block p (cells_known h2).2.2 (hs p (.inl rfl))]; exact h2, ownsRow_upd h3 hu (fun k hk => hs k (.inr hk)), h4⟩
/-- What a call that writes with an Ink comes to. -/
def RetInk (w : World) (p : Nat) (s : Sl) (l : List UInt8) (B : Nat) (e : Ending) (w' : World) : Prop :=
  ∃ s', e = .returned (.pointer (some ⟨p, 0, none⟩)) ∧ inkAt w' p s' l B ∧ Upd w w' (inkFoot p s) ∧ ∀ k, inkFoot p s' k → inkFoot p s k ∨ w.heap.size ≤ k
/-- An Ink's bytes lengthened by others: what is behind the store. -/
theorem ink_step {w w2 w3 : World} {p : Nat} {s : Sl} {l m : List UInt8} {B : Nat} (h : inkAt w p s l B) (hB : B ≤ w.heap.size) {v' : Value} {n : Nat} (hn : n = (l ++ m).length)
    (h2 : w2.heap[p]? = some (.cells (InkV.mk s false).arr 193 (0, 0))) (hu : Upd w w2 (fun k => k = p)) (hg : w2.grownBy w3 s.v.ownBlock) (hown : w3.ownsRow B 5 1 v' n (byteVs (l ++ m)))
    (hnew : ∀ k, v'.ownBlock = some k → s.v.ownBlock = some k ∨ w2.heap.size ≤ k) :
    ∃ s' : Sl, v' = s'.v ∧ inkAt (w3.setCell ⟨p, 0, none⟩ v') p s' (l ++ m) B ∧ Upd w (w3.setCell ⟨p, 0, none⟩ v') (inkFoot p s) ∧ ∀ k, inkFoot p s' k → inkFoot p s k ∨ w.heap.size ≤ k := by
  obtain ⟨a, c, rfl, -, -⟩ := ownsRow_slice hown
  have hp2 := (cells_known h2).2.2
  have h3 : w3.heap[p]? = some (.cells (InkV.mk s false).arr 193 (0, 0)) := by rw [hg.block p hp2 (Ne.symm h.2.2.2)]; exact h2
  have hnp : ∀ k, (Value.slice a n c).ownBlock = some k → k ≠ p := fun k hk e => by
    subst e
    rcases hnew k hk with h' | h'
    · exact h.2.2.2 h'
    · omega
  refine ⟨⟨a, n, c⟩, rfl, ⟨h.1, ?_, ?_, fun e => hnp p e rfl⟩, ?_, ?_⟩
  · rw [heap_set h3, InkV.set_0]
  · subst hn
    exact ownsRow_upd hown (Upd.setCell w3 ⟨p, 0, none⟩ _) (fun k hk => hnp k hk)
  · refine ((hu.mono (T := inkFoot p s) (fun k _ hk => .inl hk)).trans (Upd.grown hg) (fun i _ hi => .inr hi)).trans (Upd.setCell _ _ _) (fun i _ hi => .inl hi)
  · intro k hk
    rcases hk with rfl | hk
    · exact .inl (.inl rfl)
    · rcases hnew k hk with h' | h'
      · exact .inl (.inr h')
      · exact .inr (Nat.le_trans hu.size h')
end Go.Proofs.Ytaopiefbejajkaa
