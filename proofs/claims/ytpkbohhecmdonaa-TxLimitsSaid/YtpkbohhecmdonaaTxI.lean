/- What the document fixes of chapter 5. -/
import Derived.Test.YtpkbohhecmdonaaTxH
import Derived.Test.YtpkbohhecmdonaaSlc
set_option linter.unusedSimpArgs false
set_option linter.unusedVariables false
namespace Go.Proofs.Ytpkbohhecmdonaa
open Go.RowKit
open Go.Sort
theorem isTx.regrown {W : World} {v : TxV} {t : Tx} (h : isTx W v t W.heap.size) (d : Nat) (os : Array Obj) : isTx (grow (redrawn W d) os) v t (grow (redrawn W d) os).heap.size :=
  ⟨h.1.regrown (Nat.le_refl _) d os, h.2.1.regrown (Nat.le_refl _) d os, h.2.2⟩
theorem isSl_one {α : Type} {w : World} {b sz c : Nat} {enc : α → Array Value} {x : α} {t : TypeId} (h : w.heap[b]? = some (.cells (enc x) t (0, 0))) (hs : (enc x).size = sz) (hc : 1 ≤ c) : isSl w ⟨some ⟨b, 0, none⟩, 1, c⟩ sz enc [x] w.heap.size := by
  refine ⟨rfl, hc, fun _ => ⟨b, 0, rfl, (cells_known h).2.2, fun k hk => ?_⟩⟩
  have : k = 0 := by simpa using hk
  subst this
  unfold row?
  simp only [h]
  rw [if_pos (And.intro trivial (by simp [hs]))]
  congr 1
  rw [show 0 + 0 * sz + sz = (enc x).size by omega, show 0 + 0 * sz = 0 by omega]
  exact Array.extract_size
theorem isSl_nil {α : Type} (w : World) (sz : Nat) (enc : α → Array Value) (B : Nat) : isSl w ⟨none, 0, 0⟩ sz enc [] B := ⟨rfl, Nat.le_refl _, fun h => absurd rfl h⟩
theorem isTx_zero (w : World) (B : Nat) : isTx w TxV.zero tz B := ⟨isSl_nil _ _ _ _, isSl_nil _ _ _ _, rfl⟩
theorem check5 {v : TxV} {w : World} (h : isTx w v t5 w.heap.size) : Calls Try.prog 31 #[.agg v.arr] w fun e w' => e = .returned (.int .i64 0) ∧ Below w.heap.size w w' := by
  have := check_tx v t5 w h; rwa [c_t5] at this
theorem checkz (w : World) : Calls Try.prog 31 #[.agg TxV.zero.arr] w fun e w' => e = .returned (.int .i64 1) ∧ Below w.heap.size w w' := by
  have := check_tx TxV.zero tz w (isTx_zero _ _); rwa [c_tz] at this
theorem weight5 {v : TxV} {w : World} (h : isTx w v t5 w.heap.size) : Calls Try.prog 34 #[.agg v.arr] w fun e w' => e = .returned (.int .i64 414) ∧ Below w.heap.size w w' := by
  have := weight_tx v t5 w h (by decide) (by decide); rwa [w_t5] at this
theorem idu5 {v : TxV} {w : World} (h : isTx w v u5 w.heap.size) : Calls Try.prog 33 #[.agg v.arr] w fun e w' => e = .returned (.agg (idS t5).arr) ∧ Below w.heap.size w w' := by
  rw [id_t5u5]; exact id_tx v u5 w h
theorem same55 {v u : TxV} {w : World} (h : isTx w v t5 w.heap.size) (k : isTx w u u5 w.heap.size) : Calls Try.prog 99 #[.agg v.arr, .agg u.arr] w fun e w' => e = .returned (.bool false) ∧ Below w.heap.size w w' := by
  have := same_tx v u t5 u5 w h k (by decide) (by decide) (by decide) (by decide); rwa [same5] at this
theorem wit9 (w : World) : Calls Try.prog 35 #[.int .i64 9] w fun e w' => e = .returned (.int .i64 0) ∧ Below w.heap.size w w' :=
  (wit_tx 9 w).mono fun _ _ h => ⟨h.1, h.2 ▸ Below.refl _ _⟩
set_option maxRecDepth 100000 in
set_option maxHeartbeats 1000000 in
theorem awake5 (w : World) : Calls Try.prog 32 #[] w fun e w' => e = .returned (.bool true) ∧ Below w.heap.size w w' := by
  go_enter Try.func32, Try.ntmps32
  go_wp2_with fail
  obtain ⟨v1, hv1⟩ : ∃ v1 : TxV, v1 = ⟨⟨some ⟨w.heap.size, 0, none⟩, 1, 1⟩, ⟨some ⟨w.heap.size + 1, 0, none⟩, 1, 1⟩, 0⟩ := ⟨_, rfl⟩
  obtain ⟨v2, hv2⟩ : ∃ v2 : TxV, v2 = ⟨⟨some ⟨w.heap.size + 1 + 1 + 1 + 1, 0, none⟩, 1, 1⟩, ⟨some ⟨w.heap.size + 1, 0, none⟩, 1, 1⟩, 0⟩ := ⟨_, rfl⟩
  obtain ⟨W, hW⟩ : ∃ W, W = ((((w.alloc (.cells (In.mk In.zero.prev In.zero.seq ⟨1, 1, Witness.zero.pre⟩).arr 55)).alloc (.cells (Out.mk 5 ⟨1, 1, Script.zero.other, Script.zero.rev, Script.zero.delay, Script.zero.expiry, Script.zero.hash⟩).arr 58)).alloc (.cells (TxV.mk ⟨some ⟨w.heap.size, 0, none⟩, 1, 1⟩ ⟨some ⟨w.heap.size + 1, 0, none⟩, 1, 1⟩ TxV.zero.lock).arr 51)).alloc (.cells (TxV.mk ⟨some ⟨w.heap.size + 1 + 1 + 1 + 1, 0, none⟩, 1, 1⟩ ⟨some ⟨w.heap.size + 1, 0, none⟩, 1, 1⟩ TxV.zero.lock).arr 51)).alloc (.cells (In.mk In.zero.prev In.zero.seq ⟨3, 9, Witness.zero.pre⟩).arr 55) := ⟨_, rfl⟩
  rw [← hW]
  have hbW : Below w.heap.size w W := hW ▸ ((((((Below.refl w.heap.size w).alloc (Nat.le_refl _) _).alloc (by simp) _).alloc (by simp; omega) _).alloc (by simp; omega) _).alloc (by simp; omega) _)
  have hz : W.heap.size = w.heap.size + 5 := by rw [hW]; simp
  have hh : ∀ i (o : Obj), #[Obj.cells (In.mk In.zero.prev In.zero.seq ⟨1, 1, Witness.zero.pre⟩).arr 55 (0, 0), .cells (Out.mk 5 ⟨1, 1, Script.zero.other, Script.zero.rev, Script.zero.delay, Script.zero.expiry, Script.zero.hash⟩).arr 58 (0, 0), .cells v1.arr 51 (0, 0), .cells v2.arr 51 (0, 0), .cells (In.mk In.zero.prev In.zero.seq ⟨3, 9, Witness.zero.pre⟩).arr 55 (0, 0)][i]? = some o → W.heap[w.heap.size + i]? = some o := by
    intro i o ho
    have e : W.heap = w.heap ++ #[Obj.cells (In.mk In.zero.prev In.zero.seq ⟨1, 1, Witness.zero.pre⟩).arr 55 (0, 0), .cells (Out.mk 5 ⟨1, 1, Script.zero.other, Script.zero.rev, Script.zero.delay, Script.zero.expiry, Script.zero.hash⟩).arr 58 (0, 0), .cells v1.arr 51 (0, 0), .cells v2.arr 51 (0, 0), .cells (In.mk In.zero.prev In.zero.seq ⟨3, 9, Witness.zero.pre⟩).arr 55 (0, 0)] := by
      rw [hW, hv1, hv2]; apply Array.ext'; simp [World.alloc, -World.alloc_eq]; exact ⟨rfl, rfl⟩
    rw [e, Array.getElem?_append_right (by omega), Nat.add_sub_cancel_left]
    exact ho
  have k0 := hh 0 _ rfl
  have k1 := hh 1 _ rfl
  have k2 := hh 2 _ rfl
  have k3 := hh 3 _ rfl
  have k4 := hh 4 _ rfl
  have i1 : isTx W v1 t5 W.heap.size := by rw [hv1]; exact ⟨isSl_one k0 (by simp) (Nat.le_refl _), isSl_one k1 (by simp) (Nat.le_refl _), rfl⟩
  have i2 : isTx W v2 u5 W.heap.size := by rw [hv2]; exact ⟨isSl_one k4 (by simp) (Nat.le_refl _), isSl_one k1 (by simp) (Nat.le_refl _), rfl⟩
  have r1 : row? W ⟨w.heap.size + 1 + 1, 0, none⟩ 3 = some v1.arr := by unfold row?; simp only [k2]; simp
  have r2 : row? W ⟨w.heap.size + 1 + 1 + 1, 0, none⟩ 3 = some v2.arr := by unfold row?; simp only [k3]; simp
  obtain ⟨H, hH⟩ : ∃ H, H = idS t5 := ⟨_, rfl⟩
  have hne : decide (H = Hash.zero) = false := by rw [hH]; simpa using id_t5
  have id1 := fun (d : Nat) (os : Array Obj) => id_tx v1 t5 _ (i1.regrown d os)
  have id2 := fun (d : Nat) (os : Array Obj) => idu5 (i2.regrown d os)
  rw [← hH] at id1 id2
  have ID1 := Lib.hid id1
  have ID2 := Lib.hid id2
  have hz1 : w.heap.size + 1 + 1 < W.heap.size := by omega
  have hz2 : w.heap.size + 1 + 1 + 1 < W.heap.size := by omega
  clear hW hv1 hv2 k0 k1 k2 k3 k4 hh hz hH id1 id2
  refine wp_region_below (by kernel_rfl) (by kernel_rfl) ?_
  repeat (go_big_quiet_step ((first | (go_at_call 31; first | (with_reducible exact Calls.regrown_of (check5 (i1.regrown _ _))) | (with_reducible exact Calls.regrown_of (checkz _))) | (go_at_call 34; exact Calls.regrown_of (weight5 (i1.regrown _ _))) | (go_at_call 33; first | (with_reducible exact Calls.regrown_of (ID1.out _ _)) | (with_reducible exact Calls.regrown_of (ID2.out _ _))) | (go_at_call 99; exact Calls.regrown_of (same55 (i1.regrown _ _) (i2.regrown _ _))) | (go_at_call 35; exact Calls.regrown_of (wit9 _)))))
  refine wpQuiet_nil ?_
  intro w2 hb_w2
  obtain ⟨hc_w2, hf_w2, hr_w2⟩ := bcell hb_w2
  go_wp2_with fail
  go_ret
  exact ⟨rfl, hbW.trans (hb_w2.mono hbW.size)⟩
end Go.Proofs.Ytpkbohhecmdonaa
