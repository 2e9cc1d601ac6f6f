/- Contracts of package num, continued: an Ink writes scripts. -/
import Derived.Test.YtaopiefbejajkaaNumD
set_option linter.unusedSimpArgs false
set_option linter.unusedVariables false
namespace Go.Proofs.Ytaopiefbejajkaa
open Go.RowKit
def Script.ints (o : Script) : List Int := [o.kind, o.key, o.other, o.rev, o.delay, o.expiry]
/-- The cells of a script that lies in block b. -/
abbrev HeldS (o : Script) (b : Nat) (X : World) : Prop :=
  X.cell? ⟨b, 0, none⟩ = some (.int .i64 o.kind) ∧ X.cell? ⟨b, 1, none⟩ = some (.int .i64 o.key) ∧ X.cell? ⟨b, 2, none⟩ = some (.int .i64 o.other) ∧ X.cell? ⟨b, 3, none⟩ = some (.int .i64 o.rev) ∧ X.cell? ⟨b, 4, none⟩ = some (.int .i64 o.delay) ∧ X.cell? ⟨b, 5, none⟩ = some (.int .i64 o.expiry) ∧ X.rangeAt b 6 o.hash.arr.toList
theorem HeldS.upd {o : Script} {b : Nat} {w w' : World} {S : Nat → Prop} (h : Upd w w' S) (hr : HeldS o b w) (hb : b < w.heap.size) (hs : ¬ S b) : HeldS o b w' :=
  ⟨(h.cell hb hs _).trans hr.1, (h.cell hb hs _).trans hr.2.1, (h.cell hb hs _).trans hr.2.2.1, (h.cell hb hs _).trans hr.2.2.2.1, (h.cell hb hs _).trans hr.2.2.2.2.1, (h.cell hb hs _).trans hr.2.2.2.2.2.1, rangeAt_upd h hr.2.2.2.2.2.2 hb hs⟩
set_option maxRecDepth 100000 in
set_option maxHeartbeats 1000000 in
theorem inkS (p : Nat) (s : Sl) (l : List UInt8) (o : Script) (w : World) (B : Nat) (hB : B ≤ w.heap.size) (hk : inkAt w p s l B) (hn : ∀ x ∈ o.ints, OkNum x) (hlen : l.length + 86 ≤ 140737488355328) :
    Calls Try.prog 149 #[.pointer (some ⟨p, 0, none⟩), .agg o.arr] w (RetInk w p s (l ++ encN o.ints ++ o.hash.l) B) := by
  go_enter Try.func149, Try.ntmps149
  go_wp2_with fail
  obtain ⟨W, hW⟩ : ∃ W, W = w.alloc (.cells o.arr 34) := ⟨_, rfl⟩
  rw [← hW]
  have hbW : Below w.heap.size w W := hW ▸ (Below.refl w.heap.size w).alloc (Nat.le_refl _) _
  have hi1 : inkAt W p s l B := hW ▸ hk.alloc _
  have hr0 : row? W ⟨w.heap.size, 0, none⟩ 38 = some o.arr := by rw [hW, row?_alloc_at _ _ _ _ _ _ _ rfl]; simp
  have hr6 : W.rangeAt w.heap.size 6 o.hash.arr.toList := rangeAt_row ((row?_part hr0 6 32 (by omega)).trans (by rw [Script.ext_6]))
  have hc0 : W.cell? ⟨w.heap.size, 0, none⟩ = some (.int .i64 o.kind) := by have := row?_cellAt hr0 0 (by omega); simpa using this
  have hc1 : W.cell? ⟨w.heap.size, 1, none⟩ = some (.int .i64 o.key) := by have := row?_cellAt hr0 1 (by omega); simpa using this
  have hc2 : W.cell? ⟨w.heap.size, 2, none⟩ = some (.int .i64 o.other) := by have := row?_cellAt hr0 2 (by omega); simpa using this
  have hc3 : W.cell? ⟨w.heap.size, 3, none⟩ = some (.int .i64 o.rev) := by have := row?_cellAt hr0 3 (by omega); simpa using this
  have hc4 : W.cell? ⟨w.heap.size, 4, none⟩ = some (.int .i64 o.delay) := by have := row?_cellAt hr0 4 (by omega); simpa using this
  have hc5 : W.cell? ⟨w.heap.size, 5, none⟩ = some (.int .i64 o.expiry) := by have := row?_cellAt hr0 5 (by omega); simpa using this
  have hH : w.heap.size < W.heap.size := by rw [hW]; simp
  have hHs : ¬ inkFoot p s w.heap.size := fun h => Nat.lt_irrefl _ (ink_lt hk h)
  have hU : Try.prog.underlying 30 = some (.array 32 5) := Try.underlying30
  have hI : (Try.prog.info? 30).map (·.size) = some o.hash.arr.toList.length := by simp [size_Hash]
  have hBW : B ≤ W.heap.size := by have := hbW.size; omega
  have hel : (encN o.ints).length ≤ 54 := encN_le o.ints
  have hl1 : l.length + 9 * o.ints.length ≤ 140737488355328 := by simp [Script.ints]; omega
  have hl2 : (l ++ encN o.ints).length + 32 ≤ 140737488355328 := by simp; omega
  clear hr0 hW
  have hS0 : HeldS o w.heap.size W.drew := ⟨hc0, hc1, hc2, hc3, hc4, hc5, hr6⟩
  have hS2 : HeldS o w.heap.size (W.drew.alloc (.cells (o.ints.map (Value.int .i64)).toArray 3 (0, 0))) := HeldS.upd (S := fun _ => False) (Upd.of_below ((Below.refl W.heap.size W.drew).alloc (Nat.le_refl _) _) _) hS0 hH (fun h => h)
  go_region_held3 (HeldS o w.heap.size) (first | exact hS0 | exact hS1 | exact hS2)
    (first | (go_at_call 147; refine (inkN_new p s l 6 o.ints 3 W.drew B hBW hi1.drew hn hl1).mono ?_; rintro e w1 ⟨s1, rfl, hk1, hu1, hf1⟩; have hS1 : HeldS o w.heap.size w1 := HeldS.upd hu1 hS0 hH hHs; have hBw1 : B ≤ w1.heap.size := Nat.le_trans hBW hu1.size) | (go_at_call 159; refine (inkH p s1 (l ++ encN o.ints) o.hash w1 B hBw1 hk1 hl2).mono ?_; rintro e w2 hret; obtain ⟨s2, rfl, hk3, hu3, hf3⟩ := RetInk.trans hu1 hf1 hret; have hS1 : HeldS o w.heap.size w2 := HeldS.upd hu3 hS0 hH hHs))
  all_goals go_wp2_with fail
  all_goals go_ret
  all_goals exact RetInk.below (w1 := W.drew) (hbW.drew) ⟨s2, rfl, hk3, hu3, hf3⟩
end Go.Proofs.Ytaopiefbejajkaa
