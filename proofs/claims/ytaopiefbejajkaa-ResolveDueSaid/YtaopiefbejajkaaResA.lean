/- Contracts of package resolve: how an item may be spent; an item as what may be spent. -/
import Derived.Test.YtaopiefbejajkaaMine
set_option linter.unusedSimpArgs false
set_option linter.unusedVariables false
namespace Go.Proofs.Ytaopiefbejajkaa
open Go.RowKit
/-- The blocks that a call of claim lays first. -/
structure ClaimB (w X : World) (i : Item) (k : Keys) : Prop where
  below : Below w.heap.size w X
  size : w.heap.size + 1 + 1 < X.heap.size
  hs : X.heap[w.heap.size]? = some (.cells i.arr 36 (0, 0))
  hk : X.heap[w.heap.size + 1]? = some (.cells k.arr 24 (0, 0))
  hc : X.heap[w.heap.size + 1 + 1]? = some (.cells Claim.zero.arr 42 (0, 0))
theorem ClaimB.start (w : World) (i : Item) (k : Keys) : ClaimB w (((w.alloc (.cells i.arr 36)).alloc (.cells k.arr 24)).alloc (.cells Claim.zero.arr 42)) i k := by
  refine ⟨(((Below.refl _ _).alloc (Nat.le_refl _) _).alloc (by simp) _).alloc (by simp; omega) _, by simp, ?_, ?_, ?_⟩
  · show (((w.heap.push _).push _).push _)[w.heap.size]? = _
    rw [Array.getElem?_push, if_neg (by simp; omega), Array.getElem?_push, if_neg (by simp), Array.getElem?_push_size]
  · show (((w.heap.push _).push _).push _)[w.heap.size + 1]? = _
    rw [Array.getElem?_push, if_neg (by simp), Array.getElem?_push, if_pos (by simp)]
  · show (((w.heap.push _).push _).push _)[w.heap.size + 1 + 1]? = _
    rw [Array.getElem?_push, if_pos (by simp)]
theorem ClaimB.next {w X Y : World} {i : Item} {k : Keys} (h : ClaimB w X i k) (hb : Below X.heap.size X Y) : ClaimB w Y i k :=
  ⟨h.below.trans (hb.mono h.below.size), Nat.lt_of_lt_of_le h.size hb.size, (hb.block _ (by have := h.size; omega)).trans h.hs, (hb.block _ (by have := h.size; omega)).trans h.hk, (hb.block _ h.size).trans h.hc⟩
theorem ClaimB.facts {w X : World} {i : Item} {k : Keys} (h : ClaimB w X i k) : (∀ o, X.cell? ⟨w.heap.size, o, none⟩ = i.arr[o]?) ∧ (∀ o, X.cell? ⟨w.heap.size + 1, o, none⟩ = k.arr[o]?) ∧ row? X ⟨w.heap.size, 0, none⟩ 109 = some i.arr ∧ row? X ⟨w.heap.size + 1, 0, none⟩ 3 = some k.arr ∧ row? X ⟨w.heap.size, 35, none⟩ 38 = some i.script.arr ∧ row? X ⟨w.heap.size, 41, none⟩ 32 = some i.script.hash.arr ∧ w.heap.size < X.heap.size ∧ w.heap.size + 1 < X.heap.size ∧ w.heap.size + 1 + 1 < X.heap.size := by
  have h1 := row_of_block (n := 109) h.hs (by simp)
  have hsz := h.size
  have h2 : row? X ⟨w.heap.size, 35, none⟩ 38 = some i.script.arr := by
    have := row?_part h1 35 38 (by decide)
    simpa using this
  refine ⟨(cells_known h.hs).1, (cells_known h.hk).1, h1, row_of_block h.hk (by simp), h2, ?_, by omega, by omega, hsz⟩
  have := row?_part h2 6 32 (by decide)
  simpa using this
@[simp] theorem Item.script_hash (i : Item) : i.arr.extract 41 73 = i.script.hash.arr := by
  have h1 : i.arr.extract 35 73 = i.script.arr := by simp
  have h2 : i.script.arr.extract 6 38 = i.script.hash.arr := by simp
  rw [← h2, ← h1, Array.extract_extract]
  rfl
theorem claim_end {w X Y : World} {i : Item} {k : Keys} (h : ClaimB w X i k) (hu : Upd X Y (fun i => i = w.heap.size + 1 + 1)) : Below w.heap.size w Y :=
  h.below.trans (hu.below h.below.size (fun i e => by omega))
set_option maxRecDepth 100000 in
set_option maxHeartbeats 2000000 in
theorem claim_just (i : Item) (k : Keys) (b : Option Addr) (hr : i.role = 2) (hj : justiceS i.script k = true) (w : World) :
    Calls Try.prog 62 #[.agg i.arr, .pointer b, .agg k.arr] w fun e w' => e = .returned (.tuple #[.agg (revC k.rev).arr, .int .i64 0]) ∧ Below w.heap.size w w' := by
  have HB0 := Lib.hid (ClaimB.start w i k)
  have hr2 : (i.role == 2) = true := by simp [hr]
  clear hr
  go_enter Try.func62, Try.ntmps62
  go_wp2_with fail
  refine (justice_wit i.script k hj _).mono ?_
  rintro e Y ⟨rfl, hbY⟩
  have hBY := HB0.out.next hbY
  have hC0 := hBY.hc
  have HBY := Lib.hid hBY
  clear hBY hbY HB0
  go_wp2_with (refine wpList_storeRow size_Claim _ _ rfl rfl _ (revC k.rev).arr _ rfl rfl (by simp) (one_Claim _) (by simp) hC0 ?_; intro w3 hr3 hu3)
  refine bodyPost_ret (results_cell_tmp rfl _ _ (w.heap.size + 1 + 1) 42 _ (0, 0) _ _ rfl rfl hr3 Try.underlying42 rfl (by rw [size_Claim]; simp)) rfl ⟨rfl, ?_⟩
  exact claim_end HBY.out hu3
set_option maxRecDepth 100000 in
set_option maxHeartbeats 2000000 in
theorem claim_mine (i : Item) (k : Keys) (p mb n : Nat) (f : Hash → Option ByteArray) (c : Claim) (er : Int) (hr : i.role ≠ 2)
    (hm : ∀ W, Calls Try.prog 109 #[.agg i.script.arr, .agg k.arr, .string ((f i.script.hash).getD ByteArray.empty), .bool (f i.script.hash).isSome] W fun e w' => e = .returned (.tuple #[.agg c.arr, .int .i64 er]) ∧ Below W.heap.size W w')
    (w : World) (hbk : bookAt w p mb n f) :
    Calls Try.prog 62 #[.agg i.arr, .pointer (some ⟨p, 0, none⟩), .agg k.arr] w fun e w' => e = .returned (.tuple #[.agg c.arr, .int .i64 er]) ∧ Below w.heap.size w w' := by
  have HB0 := Lib.hid (ClaimB.start w i k)
  have hb0 := hbk.below HB0.out.below hbk.lt.1 hbk.lt.2
  have hr2 : (i.role == 2) = false := by simp [hr]
  clear hr hbk
  go_enter Try.func62, Try.ntmps62
  go_wp2_with fail
  refine (find_book p mb n f i.script.hash _ hb0).mono ?_
  rintro e Y ⟨rfl, hbY⟩
  have hBY := HB0.out.next hbY
  obtain ⟨cS, cK, rI, rK, rS, rH, z0, z1, z2⟩ := hBY.facts
  have HBY := Lib.hid hBY
  clear hBY hbY HB0 hb0
  go_wp2_with fail
  refine (hm _).mono ?_
  rintro e Z ⟨rfl, hbZ⟩
  have hBZ := HBY.out.next hbZ
  have hC0 := hBZ.hc
  have HBZ := Lib.hid hBZ
  clear hBZ hbZ HBY cS cK rI rK rS rH z0 z1 z2
  go_wp2_with (refine wpList_storeRow size_Claim _ _ rfl rfl _ c.arr _ rfl rfl (by simp) (one_Claim _) (by simp) hC0 ?_; intro w3 hr3 hu3)
  refine bodyPost_ret (results_cell_tmp rfl _ _ (w.heap.size + 1 + 1) 42 _ (0, 0) _ _ rfl rfl hr3 Try.underlying42 rfl (by rw [size_Claim]; simp)) rfl ⟨rfl, ?_⟩
  exact claim_end HBZ.out hu3
end Go.Proofs.Ytaopiefbejajkaa
