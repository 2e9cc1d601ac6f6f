/- Contracts of package coraclealike: numbers brought round, hashes of numbers, letters. -/
import Derived.Test.YtkiindgcbpkddaaShaF
set_option linter.unusedSimpArgs false
set_option linter.unusedVariables false
namespace Go.Proofs.Ytkiindgcbpkddaa
open Go.RowKit
/-- A number from 0 to ahead of n. -/
def roundS (k n : Int) : Int := k % n
set_option maxRecDepth 100000 in
set_option maxHeartbeats 1000000 in
theorem round_al (k n : Int) (hk : -9223372036854775808 ≤ k ∧ k ≤ 9223372036854775807) (h0 : 0 < n) (h1 : n ≤ 1000000000000) (w : World) :
    Calls Try.prog 29 #[.int .i64 k, .int .i64 n] w fun e w' => e = .returned (.int .i64 (roundS k n)) ∧ w = w' := by
  have hn : (n == 0) = false := by rw [beq_eq_false_iff_ne]; omega
  obtain ⟨r, hr⟩ : ∃ r, r = Int.tmod k n := ⟨_, rfl⟩
  have hb : -n < r ∧ r < n := by
    rw [hr]
    have h2 := Int.tmod_lt_of_pos k h0
    have h3 := Int.lt_tmod_of_pos k h0
    omega
  have hrk : Hid (r % n = k % n) := by unfold Hid; rw [hr, Int.tmod_def, Int.sub_eq_add_neg, ← Int.mul_neg, Int.add_mul_emod_self_left]
  go_enter Try.func29, Try.ntmps29
  go_wp2_with fail
  go_ret
  refine ⟨ret_int ?_, rfl⟩
  rw [Int.add_emod_right, ← hr, hrk.out]
  rfl
/-- A hash of a number. -/
def name8 (n : Nat) : List UInt8 := (List.range 8).map (fun i => UInt8.ofNat (n / 2 ^ (8 * i))) ++ List.replicate 24 0
theorem name8_length (n : Nat) : (name8 n).length = 32 := by simp [name8]
def nameS (n : Nat) : Hash := ⟨(name8 n).take 31 ++ [1], by simp [name8_length]⟩
theorem name8_get (n k : Nat) (hk : k < 8) : (name8 n)[k]'(by rw [name8_length]; omega) = UInt8.ofNat (n / 2 ^ (8 * k)) := by
  simp only [name8, List.getElem_append, List.length_map, List.length_range, hk, dif_pos, List.getElem_map, List.getElem_range]
theorem name8_all (n : Nat) : partH (name8 n) (name8_length n) 8 = ⟨name8 n, name8_length n⟩ := by
  apply Hash.ext'
  simp [partH, name8]
theorem nameS_set (n : Nat) : (Hash.mk (name8 n) (name8_length n)).arr.setIfInBounds 31 (.int .u8 1) = (nameS n).arr := by
  apply Array.ext'
  simp [Hash.arr, nameS, name8, List.take_append, List.set_append, byteV]
  rfl
set_option maxRecDepth 100000 in
set_option maxHeartbeats 1000000 in
theorem name_al (n : Nat) (hn : n < 1000000000000) (w : World) :
    Calls Try.prog 33 #[.int .i64 n] w fun e w' => e = .returned (.agg (nameS n).arr) ∧ Below w.heap.size w w' := by
  go_enter Try.func33, Try.ntmps33
  go_wp2_with fail
  obtain ⟨W, hW⟩ : ∃ W, W = (w.alloc (.cells Hash.zero.arr 27)).alloc (.cells Hash.zero.arr 27) := ⟨_, rfl⟩
  obtain ⟨ha, hha⟩ : ∃ ha, ha = w.heap.size := ⟨_, rfl⟩
  obtain ⟨hb, hhb⟩ : ∃ hb, hb = w.heap.size + 1 := ⟨_, rfl⟩
  rw [← hW, ← hhb, ← hha]
  have hbW : Below w.heap.size w W := hW ▸ ((Below.refl w.heap.size w).alloc (Nat.le_refl _) _).alloc (by simp) _
  have hAW : W.heap[ha]? = some (.cells Hash.zero.arr 27 (0, 0)) := by rw [hW, hha]; show ((w.heap.push _).push _)[w.heap.size]? = _; rw [Array.getElem?_push, if_neg (by simp), Array.getElem?_push_size]
  have hBW : W.heap[hb]? = some (.cells (partH (name8 n) (name8_length n) 0).arr 27 (0, 0)) := by rw [partH_zero, hW, hhb]; show ((w.heap.push _).push _)[w.heap.size + 1]? = _; rw [show w.heap.size + 1 = (w.heap.push (.cells Hash.zero.arr 27)).size by simp, Array.getElem?_push_size]
  have hne : ha ≠ hb := by omega
  have hge : w.heap.size ≤ ha ∧ w.heap.size ≤ hb := by omega
  clear hW hha hhb
  go_loopw [4] (fun v wr => ∃ k : Nat, k ≤ 8 ∧ v = .int .i64 k ∧ Upd W wr (fun i => i = hb) ∧ wr.heap[hb]? = some (.cells (partH (name8 n) (name8_length n) k).arr 27 (0, 0))) (fun v _ => 8 - (intOf v).toNat)
  case atStart => exact ⟨0, by omega, rfl, Upd.refl _ _, hBW⟩
  case round =>
    obtain ⟨k, hk, rfl, hur, hhr⟩ := hrel
    clear hBW
    by_cases hlt : k < 8
    · have e5 : wrap64 (8 * (k : Int)) = 8 * (k : Int) := by unfold wrap64; omega
      obtain ⟨sh, hsh⟩ : ∃ sh, sh = 8 * k := ⟨_, rfl⟩
      have e6 : 8 * (k : Int) = (sh : Int) := by omega
      have ch := (cells_known hhr).1
      have fh := (cells_known hhr).2.1
      have hset := partH_set (name8 n) (name8_length n) k (by omega) (byteV (UInt8.ofNat (n / 2 ^ sh))) (by rw [name8_get _ _ hlt, hsh])
      have HSET := Lib.hid hset
      have hk32 : k < 32 := by omega
      clear hset hsh e5
      go_wp2_with fail
      go_roundw
      case rel =>
        have hset2 : wr.setCell ⟨hb, k, none⟩ (.int .u8 ((n : Int) / 2 ^ sh % 256)) = wr.setCell ⟨hb, k, none⟩ (byteV (UInt8.ofNat (n / 2 ^ sh))) := by
          rw [byteV_ofNat, Int.natCast_emod, Int.natCast_ediv, Int.natCast_pow]; rfl
        rw [hset2]
        refine ⟨k + 1, by omega, by go_num, hur.trans (Upd.setCell wr ⟨hb, k, none⟩ (byteV (UInt8.ofNat (n / 2 ^ sh)))) (fun _ _ h => h), ?_⟩
        rw [heap_set hhr, HSET.out]
      case measure => simp [intOf]; omega
    · have hk8 : k = 8 := by omega
      subst hk8
      rw [name8_all] at hhr
      have ch := (cells_known hhr).1
      have fh := (cells_known hhr).2.1
      have h31 := heap_set hhr 31 (.int .u8 1)
      rw [nameS_set] at h31
      have hr31 : row? (wr.setCell ⟨hb, 31, none⟩ (.int .u8 1)) ⟨hb, 0, none⟩ 32 = some (nameS n).arr := row_hash h31
      have hu31 := hur.trans (Upd.setCell wr ⟨hb, 31, none⟩ (.int .u8 1)) (fun _ _ h => h)
      have hA31 : (wr.setCell ⟨hb, 31, none⟩ (.int .u8 1)).heap[ha]? = some (.cells Hash.zero.arr 27 (0, 0)) := by
        rw [hu31.block ha (Array.getElem?_eq_some_iff.1 hAW).1 hne]; exact hAW
      have HA := Lib.hid hA31
      have HU := Lib.hid hu31
      have h8 : (31 : Nat) < 32 := by decide
      clear hA31 hu31 h31 hhr hur hAW
      go_wp2_with (refine wpList_storeHash (.tmp 2) (.tmp 17) rfl rfl ha (nameS n) Hash.zero rfl (by first | rfl | simp [Act.eval, Act.put, hr31]) HA.out ?_; intro wz hhz huz)
      refine bodyPost_ret (results_cell_row rfl _ _ ha 27 (nameS n).arr (0, 0) _ rfl hhz Try.underlying27 rfl (by rw [size_Hash]; simp)) rfl ⟨rfl, ?_⟩
      have hb1 := HU.out.below hbW.size (fun i e => by have e2 : i = hb := e; omega)
      exact hbW.trans (hb1.trans (huz.below (Nat.le_trans hbW.size HU.out.size) (fun i e => by have e2 : i = ha := e; omega)))
end Go.Proofs.Ytkiindgcbpkddaa
