/- Contracts of package witness: how the node may spend without revoking. -/
import Derived.Test.YtaopiefbejajkaaWits
set_option linter.unusedSimpArgs false
set_option linter.unusedVariables false
namespace Go.Proofs.Ytaopiefbejajkaa
open Go.RowKit
/-- The three blocks that a call of Mine lays first. -/
structure MineB (w X : World) (s : Script) (k : Keys) : Prop where
  below : Below w.heap.size w X
  size : w.heap.size + 1 + 1 < X.heap.size
  hs : X.heap[w.heap.size]? = some (.cells s.arr 34 (0, 0))
  hk : X.heap[w.heap.size + 1]? = some (.cells k.arr 24 (0, 0))
  hc : X.heap[w.heap.size + 1 + 1]? = some (.cells Claim.zero.arr 42 (0, 0))
theorem MineB.start (w : World) (s : Script) (k : Keys) : MineB w (((w.alloc (.cells s.arr 34)).alloc (.cells k.arr 24)).alloc (.cells Claim.zero.arr 42)) s k := by
  refine ⟨(((Below.refl _ _).alloc (Nat.le_refl _) _).alloc (by simp) _).alloc (by simp; omega) _, by simp, ?_, ?_, ?_⟩
  · show (((w.heap.push _).push _).push _)[w.heap.size]? = _
    rw [Array.getElem?_push, if_neg (by simp; omega), Array.getElem?_push, if_neg (by simp), Array.getElem?_push_size]
  · show (((w.heap.push _).push _).push _)[w.heap.size + 1]? = _
    rw [Array.getElem?_push, if_neg (by simp), Array.getElem?_push, if_pos (by simp)]
  · show (((w.heap.push _).push _).push _)[w.heap.size + 1 + 1]? = _
    rw [Array.getElem?_push, if_pos (by simp)]
theorem MineB.next {w X Y : World} {s : Script} {k : Keys} (h : MineB w X s k) (hb : Below X.heap.size X Y) : MineB w Y s k :=
  ⟨h.below.trans (hb.mono h.below.size), Nat.lt_of_lt_of_le h.size hb.size, (hb.block _ (by have := h.size; omega)).trans h.hs, (hb.block _ (by have := h.size; omega)).trans h.hk, (hb.block _ h.size).trans h.hc⟩
theorem MineB.facts {w X : World} {s : Script} {k : Keys} (h : MineB w X s k) : (∀ o, X.cell? ⟨w.heap.size, o, none⟩ = s.arr[o]?) ∧ (∀ o, X.cell? ⟨w.heap.size + 1, o, none⟩ = k.arr[o]?) ∧ row? X ⟨w.heap.size, 0, none⟩ 38 = some s.arr ∧ w.heap.size < X.heap.size ∧ w.heap.size + 1 < X.heap.size ∧ w.heap.size + 1 + 1 < X.heap.size :=
  ⟨(cells_known h.hs).1, (cells_known h.hk).1, row_of_block h.hs (by simp), by have := h.size; omega, by have := h.size; omega, h.size⟩
theorem mine_end {w X Y : World} {s : Script} {k : Keys} (h : MineB w X s k) (hu : Upd X Y (fun i => i = w.heap.size + 1 + 1)) : Below w.heap.size w Y :=
  h.below.trans (hu.below h.below.size (fun i e => by omega))
set_option maxRecDepth 100000 in
set_option maxHeartbeats 2000000 in
theorem mine_remote (s : Script) (k : Keys) (pre : ByteArray) (hv : validS s = true) (hk : s.kind = 3) (ho : s.key = k.own) (w : World) :
    Calls Try.prog 109 #[.agg s.arr, .agg k.arr, .string pre, .bool false] w fun e w' => e = .returned (.tuple #[.agg ({ sigC k.own with seq := 1, wait := 1 } : Claim).arr, .int .i64 0]) ∧ Below w.heap.size w w' := by
  obtain ⟨sk, s1, s2, s3, s4, s5, s6⟩ := s
  simp only at hk ho
  subst hk ho
  have HB0 := Lib.hid (MineB.start w (Script.mk 3 k.own s2 s3 s4 s5 s6) k)
  go_enter Try.func109, Try.ntmps109
  go_wp2_with fail
  refine wp_scope_fwd 0 (by rfl) ?_
  go_wp2_with fail
  go_quiet (fail)
  obtain ⟨X, hX⟩ : ∃ X, X = ((((w.alloc (.cells (Script.mk 3 k.own s2 s3 s4 s5 s6).arr 34)).alloc (.cells k.arr 24)).alloc (.cells Claim.zero.arr 42))).drewN nq := ⟨_, rfl⟩
  rw [← hX]
  have hB : MineB w X (Script.mk 3 k.own s2 s3 s4 s5 s6) k := hX ▸ HB0.out.next (below_drewN (Below.refl _ _) _)
  clear hX HB0
  obtain ⟨cS, cK, rS, z0, z1, z2⟩ := hB.facts
  have HB1 := Lib.hid hB
  clear hB
  go_wp2_with fail
  refine (valid_script _ _).mono ?_
  rintro e Y ⟨rfl, hbY⟩
  have hBY := (HB1.out.next ((Below.refl X.heap.size X).alloc (Nat.le_refl _) _)).next hbY
  clear cS cK rS z0 z1 z2 HB1 hbY
  obtain ⟨cS, cK, rS, z0, z1, z2⟩ := hBY.facts
  have HBY := Lib.hid hBY
  clear hBY
  rw [hv]
  go_wp2_with fail
  refine (sig_wit _ _).mono ?_
  rintro e Z ⟨rfl, hbZ⟩
  have hBZ := HBY.out.next hbZ
  clear cS cK rS z0 z1 z2 HBY hbZ
  obtain ⟨cS, cK, rS, z0, z1, z2⟩ := hBZ.facts
  have hC0 := hBZ.hc
  have HBZ := Lib.hid hBZ
  clear hBZ
  go_wp2_with (first
    | (refine wpList_storeRow size_Claim _ _ rfl rfl _ (sigC k.own).arr _ rfl rfl (by simp) (one_Claim _) (by simp) hC0 ?_; intro w3 hr3 hu3; clear hC0; have hc3 := (cells_known hr3).1; have hf3 := (cells_known hr3).2.1; have hz3 := (cells_known hr3).2.2; have hh4 := heap_set (heap_set hr3 3 (.int .i64 1)) 5 (.int .i64 1); have hr4 := row_of_block (n := 6) hh4 (by simp); have H4 := Lib.hid hh4; clear hh4)
    | (refine wpList_storeRow size_Claim _ _ rfl rfl _ ({ sigC k.own with seq := 1, wait := 1 } : Claim).arr _ rfl rfl (by simp) (one_Claim _) (by simp) H4.out ?_; intro w5 hr5 hu5))
  rw [jump_ret]
  refine bodyPost_ret (results_cell_tmp rfl _ _ (w.heap.size + 1 + 1) 42 _ (0, 0) _ _ rfl rfl hr5 Try.underlying42 rfl (by rw [size_Claim]; simp)) rfl ⟨rfl, ?_⟩
  have hu4 := (Upd.setCell w3 ⟨w.heap.size + 1 + 1, 3, none⟩ (.int .i64 1)).trans (Upd.setCell _ ⟨w.heap.size + 1 + 1, 5, none⟩ (.int .i64 1)) (fun _ _ h => h)
  exact mine_end HBZ.out ((hu3.trans hu4 (fun _ _ h => h)).trans hu5 (fun _ _ h => h))
set_option maxRecDepth 100000 in
set_option maxHeartbeats 2000000 in
theorem mine_time (s : Script) (k : Keys) (pre : ByteArray) (hv : validS s = true) (hk : s.kind = 5) (ho : s.key = k.own) (hne : s.other ≠ k.own) (w : World) :
    Calls Try.prog 109 #[.agg s.arr, .agg k.arr, .string pre, .bool false] w fun e w' => e = .returned (.tuple #[.agg ({ sigC k.own with lock := s.expiry } : Claim).arr, .int .i64 0]) ∧ Below w.heap.size w w' := by
  obtain ⟨sk, s1, s2, s3, s4, s5, s6⟩ := s
  simp only at hk ho hne
  subst hk ho
  have hno : (s2 == k.own) = false := by simpa using hne
  clear hne
  have HB0 := Lib.hid (MineB.start w (Script.mk 5 k.own s2 s3 s4 s5 s6) k)
  go_enter Try.func109, Try.ntmps109
  go_wp2_with fail
  refine wp_scope_fwd 0 (by rfl) ?_
  go_wp2_with fail
  go_quiet (fail)
  obtain ⟨X, hX⟩ : ∃ X, X = ((((w.alloc (.cells (Script.mk 5 k.own s2 s3 s4 s5 s6).arr 34)).alloc (.cells k.arr 24)).alloc (.cells Claim.zero.arr 42))).drewN nq := ⟨_, rfl⟩
  rw [← hX]
  have hB : MineB w X (Script.mk 5 k.own s2 s3 s4 s5 s6) k := hX ▸ HB0.out.next (below_drewN (Below.refl _ _) _)
  clear hX HB0
  obtain ⟨cS, cK, rS, z0, z1, z2⟩ := hB.facts
  have HB1 := Lib.hid hB
  clear hB
  go_wp2_with fail
  refine (valid_script _ _).mono ?_
  rintro e Y ⟨rfl, hbY⟩
  have hBY := (HB1.out.next ((Below.refl X.heap.size X).alloc (Nat.le_refl _) _)).next hbY
  clear cS cK rS z0 z1 z2 HB1 hbY
  obtain ⟨cS, cK, rS, z0, z1, z2⟩ := hBY.facts
  have HBY := Lib.hid hBY
  clear hBY
  rw [hv]
  go_wp2_with fail
  refine (sig_wit _ _).mono ?_
  rintro e Z ⟨rfl, hbZ⟩
  have hBZ := HBY.out.next hbZ
  clear cS cK rS z0 z1 z2 HBY hbZ
  obtain ⟨cS, cK, rS, z0, z1, z2⟩ := hBZ.facts
  have hC0 := hBZ.hc
  have HBZ := Lib.hid hBZ
  clear hBZ
  go_wp2_with (first
    | (refine wpList_storeRow size_Claim _ _ rfl rfl _ (sigC k.own).arr _ rfl rfl (by simp) (one_Claim _) (by simp) hC0 ?_; intro w3 hr3 hu3; clear hC0; have cS3 : ∀ o, w3.cell? ⟨w.heap.size, o, none⟩ = _ := fun o => (hu3.cell z0 (by intro e; have e2 : w.heap.size = w.heap.size + 1 + 1 := e; omega) o).trans (cS o); have hc3 := (cells_known hr3).1; have hf3 := (cells_known hr3).2.1; have hz3 := (cells_known hr3).2.2; have hh4 := heap_set hr3 4 (.int .i64 s5); have hr4 := row_of_block (n := 6) hh4 (by simp); have H4 := Lib.hid hh4; clear hh4)
    | (refine wpList_storeRow size_Claim _ _ rfl rfl _ ({ sigC k.own with lock := s5 } : Claim).arr _ rfl rfl (by simp) (one_Claim _) (by simp) H4.out ?_; intro w5 hr5 hu5))
  rw [jump_ret]
  refine bodyPost_ret (results_cell_tmp rfl _ _ (w.heap.size + 1 + 1) 42 _ (0, 0) _ _ rfl rfl hr5 Try.underlying42 rfl (by rw [size_Claim]; simp)) rfl ⟨rfl, ?_⟩
  have hu4 := Upd.setCell w3 ⟨w.heap.size + 1 + 1, 4, none⟩ (.int .i64 s5)
  exact mine_end HBZ.out ((hu3.trans hu4 (fun _ _ h => h)).trans hu5 (fun _ _ h => h))
set_option maxRecDepth 100000 in
set_option maxHeartbeats 2000000 in
theorem mine_told (s : Script) (k : Keys) (pre : ByteArray) (hp : pre.size < 1000000000000000) (hv : validS s = true) (hk : s.kind = 5) (ho : s.other = k.own) (hh : shaS pre.data.toList = s.hash) (w : World) :
    Calls Try.prog 109 #[.agg s.arr, .agg k.arr, .string pre, .bool true] w fun e w' => e = .returned (.tuple #[.agg ({ Claim.zero with wit := { kind := 2, key := k.own, pre := pre } } : Claim).arr, .int .i64 0]) ∧ Below w.heap.size w w' := by
  obtain ⟨sk, s1, s2, s3, s4, s5, s6⟩ := s
  simp only at hk ho hh
  subst hk ho hh
  have HB0 := Lib.hid (MineB.start w (Script.mk 5 s1 k.own s3 s4 s5 (shaS pre.data.toList)) k)
  obtain ⟨z, hz⟩ : ∃ z, z = shaS pre.data.toList := ⟨_, rfl⟩
  rw [← hz] at hv HB0 ⊢
  have himg := image_script pre hp
  rw [← hz] at himg
  clear hz
  go_enter Try.func109, Try.ntmps109
  go_wp2_with fail
  refine wp_scope_fwd 0 (by rfl) ?_
  go_wp2_with fail
  obtain ⟨X0, hX0⟩ : ∃ X, X = (((w.alloc (.cells (Script.mk 5 s1 k.own s3 s4 s5 z).arr 34)).alloc (.cells k.arr 24)).alloc (.cells Claim.zero.arr 42)) := ⟨_, rfl⟩
  rw [← hX0]
  have hB0 : MineB w X0 (Script.mk 5 s1 k.own s3 s4 s5 z) k := hX0 ▸ HB0.out
  clear hX0 HB0
  have hrz : row? X0 ⟨w.heap.size, 6, none⟩ 32 = some z.arr := by
    have := row?_part (row_of_block hB0.hs (n := 38) (by simp)) 6 32 (by decide)
    simpa using this
  have hz0 : w.heap.size < X0.heap.size := by have := hB0.size; omega
  have HB0 := Lib.hid hB0
  clear hB0
  refine wp_region_below (by kernel_rfl) (by kernel_rfl) ?_
  repeat (go_big_quiet_step (((go_at_call 59; exact Calls.regrown_of (himg _)))))
  refine wpQuiet_nil ?_
  intro w2 hb_w2
  obtain ⟨hc_w2, hf_w2, hr_w2⟩ := bcell hb_w2
  have hB2 := HB0.out.next hb_w2
  clear hc_w2 hf_w2 hr_w2 hrz hz0 HB0 hb_w2
  obtain ⟨cS, cK, rS, z0, z1, z2⟩ := hB2.facts
  have HB1 := Lib.hid hB2
  clear hB2
  go_wp2_with fail
  refine (valid_script _ _).mono ?_
  rintro e Y ⟨rfl, hbY⟩
  have htold : (w2.alloc (.cells (Claim.mk (Witness.mk 2 k.own pre) Claim.zero.seq Claim.zero.lock Claim.zero.wait).arr 42)).heap[w2.heap.size]? = _ := heap_alloc_new w2 _
  have hY11 : row? Y ⟨w2.heap.size, 0, none⟩ 6 = some (Claim.mk (Witness.mk 2 k.own pre) Claim.zero.seq Claim.zero.lock Claim.zero.wait).arr := row_of_block ((hbY.block _ (by simp)).trans htold) (by simp)
  have hBY := (HB1.out.next ((Below.refl w2.heap.size w2).alloc (Nat.le_refl _) _)).next hbY
  have z11 : w2.heap.size < Y.heap.size := Nat.lt_of_lt_of_le (by simp) hbY.size
  clear cS cK rS z0 z1 z2 HB1 hbY htold
  obtain ⟨cS, cK, rS, z0, z1, z2⟩ := hBY.facts
  have hC0 := hBY.hc
  have HBY := Lib.hid hBY
  clear hBY
  rw [hv]
  go_wp2_with (first
    | (refine wpList_storeRow size_Claim _ _ rfl rfl _ (Claim.mk (Witness.mk 2 k.own pre) Claim.zero.seq Claim.zero.lock Claim.zero.wait).arr _ rfl rfl (by simp) (one_Claim _) (by simp) hC0 ?_; intro w3 hr3 hu3; clear hC0; have hr4 := row_of_block (n := 6) hr3 (by simp); have H4 := Lib.hid hr3; clear hr3)
    | (refine wpList_storeRow size_Claim _ _ rfl rfl _ (Claim.mk (Witness.mk 2 k.own pre) Claim.zero.seq Claim.zero.lock Claim.zero.wait).arr _ rfl rfl (by simp) (one_Claim _) (by simp) H4.out ?_; intro w5 hr5 hu5))
  rw [jump_ret]
  refine bodyPost_ret (results_cell_tmp rfl _ _ (w.heap.size + 1 + 1) 42 _ (0, 0) _ _ rfl rfl hr5 Try.underlying42 rfl (by rw [size_Claim]; simp)) rfl ⟨rfl, ?_⟩
  exact mine_end HBY.out (hu3.trans hu5 (fun _ _ h => h))
end Go.Proofs.Ytaopiefbejajkaa
