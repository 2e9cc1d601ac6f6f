/- Contracts of package coraclealike, continued: has a transaction few parts, and short preimages? -/
import Derived.Test.YtlkojkjeklblkaaGreatTxJ
set_option linter.unusedSimpArgs false
set_option linter.unusedVariables false
namespace Go.Proofs.YtlkojkjeklblkaaGreat
open Go.RowKit
def lightS (t : Tx) (most : Int) : Bool := decide ((t.ins.length : Int) ≤ most) && decide ((t.outs.length : Int) ≤ most) && t.ins.all (fun i => decide (i.wit.pre.size ≤ 200))
set_option maxRecDepth 100000 in
set_option maxHeartbeats 1000000 in
theorem light_al (v : TxV) (t : Tx) (most : Int) (w : World) (ht : isTx w v t w.heap.size) (hm : most ≤ 1000000) :
    Calls Tryz.prog 85 #[.agg v.arr, .int .i64 most] w fun e w' => e = .returned (.bool (lightS t most)) ∧ Below w.heap.size w w' := by
  obtain ⟨⟨hm1, hcc1, hr1⟩, ⟨hm2, hcc2, hr2⟩, hlk⟩ := ht
  obtain ⟨⟨ia, il, ic⟩, ⟨oa, ol, oc⟩, lk⟩ := v
  simp only at hm1 hcc1 hr1 hm2 hcc2 hr2 hlk
  subst hm1 hm2 hlk
  have hbase : Below w.heap.size w (w.alloc (.cells (TxV.mk ⟨ia, t.ins.length, ic⟩ ⟨oa, t.outs.length, oc⟩ t.lock).arr 72)) := (Below.refl _ _).alloc (Nat.le_refl _) _
  by_cases h1 : most < (t.ins.length : Int)
  · go_enter Tryz.func85, Tryz.ntmps85
    go_wp2_with fail
    go_ret
    exact ⟨ret_bool (by unfold lightS; rw [decide_eq_false (by omega)]; rfl), hbase⟩
  by_cases h2 : most < (t.outs.length : Int)
  · go_enter Tryz.func85, Tryz.ntmps85
    go_wp2_with fail
    go_ret
    exact ⟨ret_bool (by unfold lightS; rw [decide_eq_false (p := (t.outs.length : Int) ≤ most) (by omega), Bool.and_false]; rfl), hbase⟩
  have hsz := hbase.size
  go_enter Tryz.func85, Tryz.ntmps85
  go_wp2_with fail
  obtain ⟨W, hW⟩ : ∃ W, W = w.alloc (.cells (TxV.mk ⟨ia, t.ins.length, ic⟩ ⟨oa, t.outs.length, oc⟩ t.lock).arr 72) := ⟨_, rfl⟩
  rw [← hW] at hbase hsz ⊢
  have hb0 : W.heap[w.heap.size]? = some (.cells (TxV.mk ⟨ia, t.ins.length, ic⟩ ⟨oa, t.outs.length, oc⟩ t.lock).arr 72 (0, 0)) := by rw [hW]; show (w.heap.push _)[w.heap.size]? = _; rw [Array.getElem?_push_size]
  have c0 : W.cell? ⟨w.heap.size, 0, none⟩ = some (.slice ia t.ins.length ic) := by rw [(cells_known hb0).1]; exact TxV.arr_0 _
  have hrW := hr1.below hbase
  clear hW hb0
  go_loop [5] (fun i => ∃ k : Nat, k ≤ t.ins.length ∧ i = .int .i64 k ∧ Hid (∀ j (h : j < t.ins.length), j < k → t.ins[j].wit.pre.size ≤ 200)) (fun i => t.ins.length - (intOf i).toNat)
  case atStart => exact ⟨0, Nat.zero_le _, rfl, fun j _ h => by omega⟩
  case round =>
    obtain ⟨k, hk, rfl, hall⟩ := hrel
    by_cases hlt : k < t.ins.length
    · obtain ⟨b, off, hia, hbb, hrr⟩ := hrW.at hlt
      have cp := row?_cellAt hrr 36 (by decide)
      rw [In.arr_36] at cp
      obtain ⟨pr, hpr⟩ : ∃ pr, pr = t.ins[k].wit.pre := ⟨_, rfl⟩
      rw [← hpr] at cp
      subst hia
      have HPR := Lib.hid hpr
      clear hpr hrr
      by_cases hs : pr.size ≤ 200
      · have ts : decide ((200 : Int) < (pr.size : Int)) = false := decide_eq_false (by omega)
        go_wp2_with fail
        go_round
        case rel => exact ⟨k + 1, by omega, by go_num, fun j h hj => by
          by_cases e : j = k
          · subst e; rw [← HPR.out]; exact hs
          · exact hall.out j h (by omega)⟩
        case measure => simp [intOf]; omega
      · have ts : decide ((200 : Int) < (pr.size : Int)) = true := decide_eq_true (by omega)
        go_wp2_with fail
        go_ret
        refine ⟨ret_bool ?_, hbase⟩
        rw [eq_comm]
        unfold lightS
        rw [Bool.and_eq_false_iff]
        right
        rw [List.all_eq_false]
        exact ⟨t.ins[k], List.getElem_mem hlt, by rw [← HPR.out]; simpa using hs⟩
    · go_wp2_with fail
      go_ret
      refine ⟨ret_bool ?_, hbase⟩
      rw [eq_comm]
      unfold lightS
      rw [decide_eq_true (by omega), decide_eq_true (by omega), Bool.true_and, Bool.true_and, List.all_eq_true]
      intro x hx
      obtain ⟨j, hj, rfl⟩ := List.mem_iff_getElem.1 hx
      simpa using hall.out j hj (by omega)
end Go.Proofs.YtlkojkjeklblkaaGreat
