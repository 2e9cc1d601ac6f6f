/- Contracts of package resolve: an item as what may be spent. -/
import Derived.Test.YtaopiefbejajkaaResA
import Derived.Test.YtaopiefbejajkaaTxC
set_option linter.unusedSimpArgs false
set_option linter.unusedVariables false
namespace Go.Proofs.Ytaopiefbejajkaa
open Go.RowKit
/-- The blocks that a call of Input lays first. -/
structure InputB (w X : World) (i : Item) (k : Keys) : Prop where
  below : Below w.heap.size w X
  size : w.heap.size + 1 + 1 < X.heap.size
  hs : X.heap[w.heap.size]? = some (.cells i.arr 36 (0, 0))
  hk : X.heap[w.heap.size + 1]? = some (.cells k.arr 24 (0, 0))
  hc : X.heap[w.heap.size + 1 + 1]? = some (.cells Input.zero.arr 44 (0, 0))
theorem InputB.start (w : World) (i : Item) (k : Keys) : InputB w (((w.alloc (.cells i.arr 36)).alloc (.cells k.arr 24)).alloc (.cells Input.zero.arr 44)) i k := by
  refine ⟨(((Below.refl _ _).alloc (Nat.le_refl _) _).alloc (by simp) _).alloc (by simp; omega) _, by simp, ?_, ?_, ?_⟩
  · show (((w.heap.push _).push _).push _)[w.heap.size]? = _
    rw [Array.getElem?_push, if_neg (by simp; omega), Array.getElem?_push, if_neg (by simp), Array.getElem?_push_size]
  · show (((w.heap.push _).push _).push _)[w.heap.size + 1]? = _
    rw [Array.getElem?_push, if_neg (by simp), Array.getElem?_push, if_pos (by simp)]
  · show (((w.heap.push _).push _).push _)[w.heap.size + 1 + 1]? = _
    rw [Array.getElem?_push, if_pos (by simp)]
theorem InputB.next {w X Y : World} {i : Item} {k : Keys} (h : InputB w X i k) (hb : Below X.heap.size X Y) : InputB w Y i k :=
  ⟨h.below.trans (hb.mono h.below.size), Nat.lt_of_lt_of_le h.size hb.size, (hb.block _ (by have := h.size; omega)).trans h.hs, (hb.block _ (by have := h.size; omega)).trans h.hk, (hb.block _ h.size).trans h.hc⟩
theorem InputB.facts {w X : World} {i : Item} {k : Keys} (h : InputB w X i k) : (∀ o, X.cell? ⟨w.heap.size, o, none⟩ = i.arr[o]?) ∧ row? X ⟨w.heap.size, 0, none⟩ 109 = some i.arr ∧ row? X ⟨w.heap.size + 1, 0, none⟩ 3 = some k.arr ∧ row? X ⟨w.heap.size, 1, none⟩ 33 = some i.point.arr ∧ w.heap.size < X.heap.size ∧ w.heap.size + 1 < X.heap.size ∧ w.heap.size + 1 + 1 < X.heap.size := by
  have h1 := row_of_block (n := 109) h.hs (by simp)
  have hsz := h.size
  refine ⟨(cells_known h.hs).1, h1, row_of_block h.hk (by simp), ?_, by omega, by omega, hsz⟩
  have := row?_part h1 1 33 (by decide)
  simpa using this
theorem input_end {w X Y : World} {i : Item} {k : Keys} (h : InputB w X i k) (hu : Upd X Y (fun i => i = w.heap.size + 1 + 1)) : Below w.heap.size w Y :=
  h.below.trans (hu.below h.below.size (fun i e => by omega))
/-- By when. -/
def dueS (i : Item) (c : Claim) (since delta : Int) : Int :=
  min (max (if i.role == 2 && i.script.kind == 2 then min (since + delta) (max (min i.conf 1000000) 0 + i.script.delay) else if i.role == 2 || c.wit.kind == 2 then min (since + delta) i.script.expiry else since + delta) since) 1000000
def inputS (i : Item) (c : Claim) (since delta share : Int) : Input := { point := i.point, value := i.value, claim := c, conf := i.conf, since := since, deadline := dueS i c since delta, budget := i.value * share / 100 }
set_option maxRecDepth 100000 in
set_option maxHeartbeats 2000000 in
theorem input_ok (i : Item) (k : Keys) (p mb n : Nat) (f : Hash → Option ByteArray) (c : Claim) (since delta share : Int) (hst : i.state = 2)
    (h1 : 0 ≤ since ∧ since ≤ 1000000) (h2 : 0 ≤ delta ∧ delta ≤ 1000000) (h3 : 1 ≤ share ∧ share ≤ 100) (h4 : 0 ≤ i.value ∧ i.value ≤ 2100000000000000) (h5 : 0 ≤ i.script.delay ∧ i.script.delay ≤ 65535)
    (hm : ∀ W, bookAt W p mb n f → Calls Try.prog 62 #[.agg i.arr, .pointer (some ⟨p, 0, none⟩), .agg k.arr] W fun e w' => e = .returned (.tuple #[.agg c.arr, .int .i64 0]) ∧ Below W.heap.size W w')
    (w : World) (hbk : bookAt w p mb n f) :
    Calls Try.prog 18 #[.agg i.arr, .pointer (some ⟨p, 0, none⟩), .agg k.arr, .int .i64 since, .int .i64 delta, .int .i64 share] w fun e w' => e = .returned (.tuple #[.agg (inputS i c since delta share).arr, .bool true]) ∧ Below w.heap.size w w' := by
  have HB0 := Lib.hid (InputB.start w i k)
  have hb0 := hbk.below HB0.out.below hbk.lt.1 hbk.lt.2
  have hs2 : (i.state == 2) = true := by simp [hst]
  have l1 : liesB since 0 1000000 = true := liesB_true h1.1 h1.2
  have l2 : liesB delta 0 1000000 = true := liesB_true h2.1 h2.2
  have l3 : liesB share 1 100 = true := liesB_true h3.1 h3.2
  clear hst hbk
  obtain ⟨h11, h12⟩ := h1
  obtain ⟨h21, h22⟩ := h2
  obtain ⟨h31, h32⟩ := h3
  obtain ⟨h41, h42⟩ := h4
  obtain ⟨h51, h52⟩ := h5
  go_enter Try.func18, Try.ntmps18
  go_wp2_with fail
  refine (hm _ hb0).mono ?_
  rintro e Y ⟨rfl, hbY⟩
  have hBY := HB0.out.next hbY
  obtain ⟨cS, rI, rK, rP, z0, z1, z2⟩ := hBY.facts
  have HBY := Lib.hid hBY
  clear hBY hbY HB0 hb0 hm
  go_wp2_with (first | (go_at_call 63; refine (within_resolve _ _ _ _).mono ?_; rintro e w' ⟨rfl, rfl⟩))
  have hmv : money i.value = true := by simp [money, h41, h42]
  refine (valid_am _ _).mono ?_
  rintro e w' ⟨rfl, rfl⟩
  rw [hmv]
  have hv0 : 0 ≤ i.value * share := Int.mul_nonneg h41 (by omega)
  have hv1 : i.value * share ≤ 2100000000000000 * 100 := Int.mul_le_mul h42 h32 (by omega) (by decide)
  have w1 : wrap64 (i.value * share) = i.value * share := by unfold wrap64; omega
  clear hs2 l1 l2 l3 hmv
  have hC0 := (HBY.out.next ((Below.refl Y.heap.size Y).alloc (Nat.le_refl _) (.cells c.arr 42))).hc
  by_cases hr : i.role = 2
  · have hr2 : (i.role == 2) = true := by simp [hr]
    clear hr
    by_cases hk : i.script.kind = 2
    · have hk2 : (i.script.kind == 2) = true := by simp [hk]
      clear hk
      go_wp2_with (refine wpList_storeRow size_Input _ _ rfl rfl _ (Input.arr _) _ rfl rfl (by simp) (one_Input _) (by simp) hC0 ?_; intro w5 hr5 hu5)
      all_goals
        refine bodyPost_ret (results_cell_tmp rfl _ _ (w.heap.size + 1 + 1) 44 _ (0, 0) _ _ rfl rfl hr5 Try.underlying44 rfl (by rw [size_Input]; simp)) rfl ⟨?_, input_end (HBY.out.next ((Below.refl Y.heap.size Y).alloc (Nat.le_refl _) (.cells c.arr 42))) hu5⟩
        refine congrArg (fun d => Ending.returned (.tuple #[.agg (Input.mk i.point i.value c i.conf since d (i.value * share / 100)).arr, .bool true])) ?_
        unfold dueS
        rw [hr2, hk2]
        simp only [Bool.false_and, Bool.and_self, Bool.or_self, Bool.true_and, Bool.true_or, Bool.or_true, Bool.false_or, Bool.false_eq_true, if_false, if_true]
        omega
    · have hk2 : (i.script.kind == 2) = false := by simp [hk]
      clear hk
      go_wp2_with (refine wpList_storeRow size_Input _ _ rfl rfl _ (Input.arr _) _ rfl rfl (by simp) (one_Input _) (by simp) hC0 ?_; intro w5 hr5 hu5)
      all_goals
        refine bodyPost_ret (results_cell_tmp rfl _ _ (w.heap.size + 1 + 1) 44 _ (0, 0) _ _ rfl rfl hr5 Try.underlying44 rfl (by rw [size_Input]; simp)) rfl ⟨?_, input_end (HBY.out.next ((Below.refl Y.heap.size Y).alloc (Nat.le_refl _) (.cells c.arr 42))) hu5⟩
        refine congrArg (fun d => Ending.returned (.tuple #[.agg (Input.mk i.point i.value c i.conf since d (i.value * share / 100)).arr, .bool true])) ?_
        unfold dueS
        rw [hr2, hk2]
        simp only [Bool.false_and, Bool.and_self, Bool.or_self, Bool.true_and, Bool.true_or, Bool.or_true, Bool.false_or, Bool.false_eq_true, if_false, if_true]
        omega
  · have hr2 : (i.role == 2) = false := by simp [hr]
    clear hr
    by_cases hw : c.wit.kind = 2
    · have hw2 : (c.wit.kind == 2) = true := by simp [hw]
      clear hw
      go_wp2_with (refine wpList_storeRow size_Input _ _ rfl rfl _ (Input.arr _) _ rfl rfl (by simp) (one_Input _) (by simp) hC0 ?_; intro w5 hr5 hu5)
      all_goals
        refine bodyPost_ret (results_cell_tmp rfl _ _ (w.heap.size + 1 + 1) 44 _ (0, 0) _ _ rfl rfl hr5 Try.underlying44 rfl (by rw [size_Input]; simp)) rfl ⟨?_, input_end (HBY.out.next ((Below.refl Y.heap.size Y).alloc (Nat.le_refl _) (.cells c.arr 42))) hu5⟩
        refine congrArg (fun d => Ending.returned (.tuple #[.agg (Input.mk i.point i.value c i.conf since d (i.value * share / 100)).arr, .bool true])) ?_
        unfold dueS
        rw [hr2, hw2]
        simp only [Bool.false_and, Bool.and_self, Bool.or_self, Bool.true_and, Bool.true_or, Bool.or_true, Bool.false_or, Bool.false_eq_true, if_false, if_true]
        omega
    · have hw2 : (c.wit.kind == 2) = false := by simp [hw]
      clear hw
      go_wp2_with (refine wpList_storeRow size_Input _ _ rfl rfl _ (Input.arr _) _ rfl rfl (by simp) (one_Input _) (by simp) hC0 ?_; intro w5 hr5 hu5)
      all_goals
        refine bodyPost_ret (results_cell_tmp rfl _ _ (w.heap.size + 1 + 1) 44 _ (0, 0) _ _ rfl rfl hr5 Try.underlying44 rfl (by rw [size_Input]; simp)) rfl ⟨?_, input_end (HBY.out.next ((Below.refl Y.heap.size Y).alloc (Nat.le_refl _) (.cells c.arr 42))) hu5⟩
        refine congrArg (fun d => Ending.returned (.tuple #[.agg (Input.mk i.point i.value c i.conf since d (i.value * share / 100)).arr, .bool true])) ?_
        unfold dueS
        rw [hr2, hw2]
        simp only [Bool.false_and, Bool.and_self, Bool.or_self, Bool.true_and, Bool.true_or, Bool.or_true, Bool.false_or, Bool.false_eq_true, if_false, if_true]
        omega
end Go.Proofs.Ytaopiefbejajkaa
