/- Contracts of package tx, continued: are two transactions alike? Contracts of package tx, continued: are two transactions alike? What the document fixes of chapter 5. What the document fixes of chapter 5. -/
import Derived.Test.YtaopiefbejajkaaTxF
import Derived.Test.YtaopiefbejajkaaSlc
set_option linter.unusedSimpArgs false
set_option linter.unusedVariables false
namespace Go.Proofs.Ytaopiefbejajkaa
open Go.RowKit
attribute [local go_sem] row?_drewN
theorem Below.drewN_ {B : Nat} {w w' : World} (h : Below B w w') (n : Nat) : Below B w (w'.drewN n) := ⟨h.os, h.tape, h.output, h.size, h.block⟩
set_option maxRecDepth 100000 in
set_option maxHeartbeats 1000000 in
theorem equal_ins (a1 a2 : Option Addr) (c1 c2 : Nat) (l1 l2 : List In) (w : World) (h1 : l1.length ≤ 1000000000) (h2 : l2.length ≤ 1000000000) (hr1 : rowsAt w a1 37 In.arr l1 w.heap.size) (hr2 : rowsAt w a2 37 In.arr l2 w.heap.size) :
    Calls Try.prog 116 #[.slice a1 l1.length c1, .slice a2 l2.length c2] w fun e w' => e = .returned (.bool (decide (l1 = l2))) ∧ Below w.heap.size w w' := by
  by_cases hl : l1.length = l2.length
  · have t1 : ((l1.length : Int) != (l2.length : Int)) = false := by simp [hl]
    have HL := Lib.hid hl
    clear hl
    go_enter Try.func116, Try.ntmps116
    go_wp2_with fail
    clear t1
    go_loopw [5, 13] (fun _ v wr => ∃ k : Nat, k ≤ l1.length ∧ v = .int .i64 k ∧ Below w.heap.size w wr ∧ Hid (l1.take k = l2.take k)) (fun _ v _ => l1.length - (intOf v).toNat)
    case atStart => exact ⟨0, Nat.zero_le _, rfl, Below.refl _ _, rfl⟩
    case round =>
      obtain ⟨k, hk, rfl, hbw, heq⟩ := hrel
      by_cases hlt : k < l1.length
      · have hlt2 : k < l2.length := by have := HL.out; omega
        obtain ⟨b1, o1, rfl, hb1, hc1⟩ := (hr1.below hbw).at hlt
        obtain ⟨b2, o2, rfl, hb2, hc2⟩ := (hr2.below hbw).at hlt2
        obtain ⟨x, hx⟩ : ∃ x, x = l1[k] := ⟨_, rfl⟩
        obtain ⟨y, hy⟩ : ∃ y, y = l2[k] := ⟨_, rfl⟩
        rw [← hx] at hc1
        rw [← hy] at hc2
        have hkk2 : (k : Int) < (l2.length : Int) := by omega
        have HX := Lib.hid hx
        have HY := Lib.hid hy
        clear hx hy
        by_cases hxy : x = y
        · have td : decide (x = y) = true := by simp [hxy]
          have HXY := Lib.hid hxy
          clear hxy
          go_wp2_with fail
          go_quiet (fail)
          go_wp2_with fail
          go_roundw
          case rel =>
            refine ⟨k + 1, by omega, by go_num, Below.drewN_ hbw _, ?_⟩
            unfold Hid
            rw [List.take_succ_eq_append_getElem hlt, List.take_succ_eq_append_getElem hlt2, heq.out, ← HX.out, ← HY.out, HXY.out]
          case measure => simp [intOf]; omega
        · have td : decide (x = y) = false := by simp [hxy]
          have HXY := Lib.hid hxy
          clear hxy
          go_wp2_with fail
          go_quiet (fail)
          go_wp2_with fail
          go_ret
          refine ⟨ret_bool ?_, Below.drewN_ hbw _⟩
          rw [eq_comm, decide_eq_false_iff_not]
          intro e
          subst e
          exact HXY.out (HX.out.trans HY.out.symm)
      · go_wp2_with fail
        go_ret
        refine ⟨ret_bool ?_, hbw⟩
        have hke : k = l1.length := by omega
        have he := heq.out
        rw [hke, List.take_length, HL.out, List.take_length] at he
        simp [he]
  · have t1 : ((l1.length : Int) != (l2.length : Int)) = true := by simp; omega
    have HL := Lib.hid hl
    clear hl
    go_enter Try.func116, Try.ntmps116
    go_wp2_with fail
    go_ret
    refine ⟨ret_bool ?_, Below.refl _ _⟩
    rw [eq_comm, decide_eq_false_iff_not]
    intro e
    exact HL.out (by rw [e])
set_option maxRecDepth 100000 in
set_option maxHeartbeats 1000000 in
theorem equal_outs (a1 a2 : Option Addr) (c1 c2 : Nat) (l1 l2 : List Out) (w : World) (h1 : l1.length ≤ 1000000000) (h2 : l2.length ≤ 1000000000) (hr1 : rowsAt w a1 39 Out.arr l1 w.heap.size) (hr2 : rowsAt w a2 39 Out.arr l2 w.heap.size) :
    Calls Try.prog 117 #[.slice a1 l1.length c1, .slice a2 l2.length c2] w fun e w' => e = .returned (.bool (decide (l1 = l2))) ∧ Below w.heap.size w w' := by
  by_cases hl : l1.length = l2.length
  · have t1 : ((l1.length : Int) != (l2.length : Int)) = false := by simp [hl]
    have HL := Lib.hid hl
    clear hl
    go_enter Try.func117, Try.ntmps117
    go_wp2_with fail
    clear t1
    go_loopw [5, 13] (fun _ v wr => ∃ k : Nat, k ≤ l1.length ∧ v = .int .i64 k ∧ Below w.heap.size w wr ∧ Hid (l1.take k = l2.take k)) (fun _ v _ => l1.length - (intOf v).toNat)
    case atStart => exact ⟨0, Nat.zero_le _, rfl, Below.refl _ _, rfl⟩
    case round =>
      obtain ⟨k, hk, rfl, hbw, heq⟩ := hrel
      by_cases hlt : k < l1.length
      · have hlt2 : k < l2.length := by have := HL.out; omega
        obtain ⟨b1, o1, rfl, hb1, hc1⟩ := (hr1.below hbw).at hlt
        obtain ⟨b2, o2, rfl, hb2, hc2⟩ := (hr2.below hbw).at hlt2
        obtain ⟨x, hx⟩ : ∃ x, x = l1[k] := ⟨_, rfl⟩
        obtain ⟨y, hy⟩ : ∃ y, y = l2[k] := ⟨_, rfl⟩
        rw [← hx] at hc1
        rw [← hy] at hc2
        have hkk2 : (k : Int) < (l2.length : Int) := by omega
        have HX := Lib.hid hx
        have HY := Lib.hid hy
        clear hx hy
        by_cases hxy : x = y
        · have td : decide (x = y) = true := by simp [hxy]
          have HXY := Lib.hid hxy
          clear hxy
          go_wp2_with fail
          go_quiet (fail)
          go_wp2_with fail
          go_roundw
          case rel =>
            refine ⟨k + 1, by omega, by go_num, Below.drewN_ hbw _, ?_⟩
            unfold Hid
            rw [List.take_succ_eq_append_getElem hlt, List.take_succ_eq_append_getElem hlt2, heq.out, ← HX.out, ← HY.out, HXY.out]
          case measure => simp [intOf]; omega
        · have td : decide (x = y) = false := by simp [hxy]
          have HXY := Lib.hid hxy
          clear hxy
          go_wp2_with fail
          go_quiet (fail)
          go_wp2_with fail
          go_ret
          refine ⟨ret_bool ?_, Below.drewN_ hbw _⟩
          rw [eq_comm, decide_eq_false_iff_not]
          intro e
          subst e
          exact HXY.out (HX.out.trans HY.out.symm)
      · go_wp2_with fail
        go_ret
        refine ⟨ret_bool ?_, hbw⟩
        have hke : k = l1.length := by omega
        have he := heq.out
        rw [hke, List.take_length, HL.out, List.take_length] at he
        simp [he]
  · have t1 : ((l1.length : Int) != (l2.length : Int)) = true := by simp; omega
    have HL := Lib.hid hl
    clear hl
    go_enter Try.func117, Try.ntmps117
    go_wp2_with fail
    go_ret
    refine ⟨ret_bool ?_, Below.refl _ _⟩
    rw [eq_comm, decide_eq_false_iff_not]
    intro e
    exact HL.out (by rw [e])
end Go.Proofs.Ytaopiefbejajkaa
namespace Go.Proofs.Ytaopiefbejajkaa
open Go.RowKit
def sameS (a b : Tx) : Bool := decide (a.lock = b.lock) && decide (a.ins = b.ins) && decide (a.outs = b.outs)
set_option maxRecDepth 100000 in
set_option maxHeartbeats 1000000 in
theorem same_tx (v u : TxV) (a b : Tx) (w : World) (ha : isTx w v a w.heap.size) (hb : isTx w u b w.heap.size) (l1 : a.ins.length ≤ 1000000000) (l2 : a.outs.length ≤ 1000000000) (l3 : b.ins.length ≤ 1000000000) (l4 : b.outs.length ≤ 1000000000) :
    Calls Try.prog 67 #[.agg v.arr, .agg u.arr] w fun e w' => e = .returned (.bool (sameS a b)) ∧ Below w.heap.size w w' := by
  obtain ⟨⟨hm1, hcc1, hr1⟩, ⟨hm2, hcc2, hr2⟩, hlk⟩ := ha
  obtain ⟨⟨ia, il, ic⟩, ⟨oa, ol, oc⟩, lk⟩ := v
  obtain ⟨⟨km1, kcc1, kr1⟩, ⟨km2, kcc2, kr2⟩, klk⟩ := hb
  obtain ⟨⟨ja, jl, jc⟩, ⟨pa, pl, pc⟩, mk⟩ := u
  simp only at hm1 hcc1 hr1 hm2 hcc2 hr2 hlk km1 kcc1 kr1 km2 kcc2 kr2 klk
  subst hm1 hm2 hlk km1 km2 klk
  have hbase : Below w.heap.size w ((w.alloc (.cells (TxV.mk ⟨ia, a.ins.length, ic⟩ ⟨oa, a.outs.length, oc⟩ a.lock).arr 51)).alloc (.cells (TxV.mk ⟨ja, b.ins.length, jc⟩ ⟨pa, b.outs.length, pc⟩ b.lock).arr 51)) := ((Below.refl _ _).alloc (Nat.le_refl _) _).alloc (by simp) _
  have hsz := hbase.size
  by_cases h1 : a.lock = b.lock
  · have t1 : (a.lock == b.lock) = true := by simp [h1]
    have H1 := Lib.hid h1
    clear h1
    by_cases h2 : a.ins = b.ins
    · have t2 : decide (a.ins = b.ins) = true := by simp [h2]
      have H2 := Lib.hid h2
      clear h2
      go_enter Try.func67, Try.ntmps67
      go_wp2_with fail
      refine (equal_ins ia ja ic jc a.ins b.ins _ l1 l3 ((hr1.below hbase).mono hsz) ((kr1.below hbase).mono hsz)).mono ?_
      rintro e w1 ⟨rfl, hb1⟩
      have hb01 := hbase.trans (hb1.mono hsz)
      obtain ⟨bc1, bf1, br1⟩ := bcell hb1
      go_wp2_with fail
      refine (equal_outs oa pa oc pc a.outs b.outs _ l2 l4 ((hr2.below hb01).mono hb01.size) ((kr2.below hb01).mono hb01.size)).mono ?_
      rintro e w2 ⟨rfl, hb2⟩
      go_wp2_with fail
      go_ret
      exact ⟨ret_bool (by simp [sameS, H1.out, H2.out]), hb01.trans (hb2.mono hb01.size)⟩
    · have t2 : decide (a.ins = b.ins) = false := by simp [h2]
      have H2 := Lib.hid h2
      clear h2
      go_enter Try.func67, Try.ntmps67
      go_wp2_with fail
      refine (equal_ins ia ja ic jc a.ins b.ins _ l1 l3 ((hr1.below hbase).mono hsz) ((kr1.below hbase).mono hsz)).mono ?_
      rintro e w1 ⟨rfl, hb1⟩
      have hb01 := hbase.trans (hb1.mono hsz)
      go_wp2_with fail
      go_ret
      exact ⟨ret_bool (by simp [sameS, H2.out]), hb01⟩
  · have t1 : (a.lock == b.lock) = false := by simp [h1]
    have H1 := Lib.hid h1
    clear h1
    go_enter Try.func67, Try.ntmps67
    go_wp2_with fail
    go_ret
    exact ⟨ret_bool (by simp [sameS, H1.out]), hbase⟩
/-! ### what the document fixes -/
def t5 : Tx := { ins := [{ In.zero with wit := { kind := 1, key := 1, pre := ByteArray.empty } }], outs := [{ value := 5, script := { Script.zero with kind := 1, key := 1 } }], lock := 0 }
def u5 : Tx := { t5 with ins := [{ In.zero with wit := { kind := 3, key := 9, pre := ByteArray.empty } }] }
def tz : Tx := { ins := [], outs := [], lock := 0 }
theorem c_t5 : checkS t5 = 0 := by decide +kernel
theorem c_u5 : checkS u5 = 0 := by decide +kernel
theorem c_tz : checkS tz = 1 := by decide +kernel
theorem w_t5 : weightS t5 = 414 := by decide +kernel
theorem id_t5u5 : idS t5 = idS u5 := by unfold idS; rw [c_t5, c_u5]; rfl
theorem id_t5 : idS t5 ≠ Hash.zero := by decide +kernel
theorem same5 : sameS t5 u5 = false := by decide +kernel
end Go.Proofs.Ytaopiefbejajkaa
namespace Go.Proofs.Ytaopiefbejajkaa
open Go.RowKit
open Go.Sort
theorem isTx.regrown {W : World} {v : TxV} {t : Tx} (h : isTx W v t W.heap.size) (d : Nat) (os : Array Obj) : isTx (grow (redrawn W d) os) v t (grow (redrawn W d) os).heap.size :=
  ⟨h.1.regrown (Nat.le_refl _) d os, h.2.1.regrown (Nat.le_refl _) d os, h.2.2⟩
theorem isSl_one {α : Type} {w : World} {b sz c : Nat} {enc : α → Array Value} {x : α} {t : TypeId} (h : w.heap[b]? = some (.cells (enc x) t (0, 0))) (hs : (enc x).size = sz) (hc : 1 ≤ c) : isSl w ⟨some ⟨b, 0, none⟩, 1, c⟩ sz enc [x] w.heap.size := by
  refine ⟨rfl, hc, fun _ => ⟨b, 0, rfl, (cells_known h).2.2, fun k hk => ?_⟩⟩
  have : k = 0 := by simpa using hk
  subst this
  unfold row?
  simp only [h]
  rw [if_pos (And.intro trivial (by simp [hs]))]
  congr 1
  rw [show 0 + 0 * sz + sz = (enc x).size by omega, show 0 + 0 * sz = 0 by omega]
  exact Array.extract_size
theorem isSl_nil {α : Type} (w : World) (sz : Nat) (enc : α → Array Value) (B : Nat) : isSl w ⟨none, 0, 0⟩ sz enc [] B := ⟨rfl, Nat.le_refl _, fun h => absurd rfl h⟩
theorem isTx_zero (w : World) (B : Nat) : isTx w TxV.zero tz B := ⟨isSl_nil _ _ _ _, isSl_nil _ _ _ _, rfl⟩
theorem check5 {v : TxV} {w : World} (h : isTx w v t5 w.heap.size) : Calls Try.prog 65 #[.agg v.arr] w fun e w' => e = .returned (.int .i64 0) ∧ Below w.heap.size w w' := by
  have := check_tx v t5 w h; rwa [c_t5] at this
theorem checkz (w : World) : Calls Try.prog 65 #[.agg TxV.zero.arr] w fun e w' => e = .returned (.int .i64 1) ∧ Below w.heap.size w w' := by
  have := check_tx TxV.zero tz w (isTx_zero _ _); rwa [c_tz] at this
theorem weight5 {v : TxV} {w : World} (h : isTx w v t5 w.heap.size) : Calls Try.prog 21 #[.agg v.arr] w fun e w' => e = .returned (.int .i64 414) ∧ Below w.heap.size w w' := by
  have := weight_tx v t5 w h (by decide) (by decide); rwa [w_t5] at this
theorem idu5 {v : TxV} {w : World} (h : isTx w v u5 w.heap.size) : Calls Try.prog 66 #[.agg v.arr] w fun e w' => e = .returned (.agg (idS t5).arr) ∧ Below w.heap.size w w' := by
  rw [id_t5u5]; exact id_tx v u5 w h
theorem same55 {v u : TxV} {w : World} (h : isTx w v t5 w.heap.size) (k : isTx w u u5 w.heap.size) : Calls Try.prog 67 #[.agg v.arr, .agg u.arr] w fun e w' => e = .returned (.bool false) ∧ Below w.heap.size w w' := by
  have := same_tx v u t5 u5 w h k (by decide) (by decide) (by decide) (by decide); rwa [same5] at this
theorem wit9 (w : World) : Calls Try.prog 22 #[.int .i64 9] w fun e w' => e = .returned (.int .i64 0) ∧ Below w.heap.size w w' :=
  (wit_tx 9 w).mono fun _ _ h => ⟨h.1, h.2 ▸ Below.refl _ _⟩
set_option maxRecDepth 100000 in
set_option maxHeartbeats 1000000 in
theorem awake5 (w : World) : Calls Try.prog 20 #[] w fun e w' => e = .returned (.bool true) ∧ Below w.heap.size w w' := by
  go_enter Try.func20, Try.ntmps20
  go_wp2_with fail
  obtain ⟨v1, hv1⟩ : ∃ v1 : TxV, v1 = ⟨⟨some ⟨w.heap.size, 0, none⟩, 1, 1⟩, ⟨some ⟨w.heap.size + 1, 0, none⟩, 1, 1⟩, 0⟩ := ⟨_, rfl⟩
  obtain ⟨v2, hv2⟩ : ∃ v2 : TxV, v2 = ⟨⟨some ⟨w.heap.size + 1 + 1 + 1 + 1, 0, none⟩, 1, 1⟩, ⟨some ⟨w.heap.size + 1, 0, none⟩, 1, 1⟩, 0⟩ := ⟨_, rfl⟩
  obtain ⟨W, hW⟩ : ∃ W, W = ((((w.alloc (.cells (In.mk In.zero.prev In.zero.seq ⟨1, 1, Witness.zero.pre⟩).arr 53)).alloc (.cells (Out.mk 5 ⟨1, 1, Script.zero.other, Script.zero.rev, Script.zero.delay, Script.zero.expiry, Script.zero.hash⟩).arr 55)).alloc (.cells (TxV.mk ⟨some ⟨w.heap.size, 0, none⟩, 1, 1⟩ ⟨some ⟨w.heap.size + 1, 0, none⟩, 1, 1⟩ TxV.zero.lock).arr 51)).alloc (.cells (TxV.mk ⟨some ⟨w.heap.size + 1 + 1 + 1 + 1, 0, none⟩, 1, 1⟩ ⟨some ⟨w.heap.size + 1, 0, none⟩, 1, 1⟩ TxV.zero.lock).arr 51)).alloc (.cells (In.mk In.zero.prev In.zero.seq ⟨3, 9, Witness.zero.pre⟩).arr 53) := ⟨_, rfl⟩
  rw [← hW]
  have hbW : Below w.heap.size w W := hW ▸ ((((((Below.refl w.heap.size w).alloc (Nat.le_refl _) _).alloc (by simp) _).alloc (by simp; omega) _).alloc (by simp; omega) _).alloc (by simp; omega) _)
  have hz : W.heap.size = w.heap.size + 5 := by rw [hW]; simp
  have hh : ∀ i (o : Obj), #[Obj.cells (In.mk In.zero.prev In.zero.seq ⟨1, 1, Witness.zero.pre⟩).arr 53 (0, 0), .cells (Out.mk 5 ⟨1, 1, Script.zero.other, Script.zero.rev, Script.zero.delay, Script.zero.expiry, Script.zero.hash⟩).arr 55 (0, 0), .cells v1.arr 51 (0, 0), .cells v2.arr 51 (0, 0), .cells (In.mk In.zero.prev In.zero.seq ⟨3, 9, Witness.zero.pre⟩).arr 53 (0, 0)][i]? = some o → W.heap[w.heap.size + i]? = some o := by
    intro i o ho
    have e : W.heap = w.heap ++ #[Obj.cells (In.mk In.zero.prev In.zero.seq ⟨1, 1, Witness.zero.pre⟩).arr 53 (0, 0), .cells (Out.mk 5 ⟨1, 1, Script.zero.other, Script.zero.rev, Script.zero.delay, Script.zero.expiry, Script.zero.hash⟩).arr 55 (0, 0), .cells v1.arr 51 (0, 0), .cells v2.arr 51 (0, 0), .cells (In.mk In.zero.prev In.zero.seq ⟨3, 9, Witness.zero.pre⟩).arr 53 (0, 0)] := by
      rw [hW, hv1, hv2]; apply Array.ext'; simp [World.alloc, -World.alloc_eq]; exact ⟨rfl, rfl⟩
    rw [e, Array.getElem?_append_right (by omega), Nat.add_sub_cancel_left]
    exact ho
  have k0 := hh 0 _ rfl
  have k1 := hh 1 _ rfl
  have k2 := hh 2 _ rfl
  have k3 := hh 3 _ rfl
  have k4 := hh 4 _ rfl
  have i1 : isTx W v1 t5 W.heap.size := by rw [hv1]; exact ⟨isSl_one k0 (by simp) (Nat.le_refl _), isSl_one k1 (by simp) (Nat.le_refl _), rfl⟩
  have i2 : isTx W v2 u5 W.heap.size := by rw [hv2]; exact ⟨isSl_one k4 (by simp) (Nat.le_refl _), isSl_one k1 (by simp) (Nat.le_refl _), rfl⟩
  have r1 : row? W ⟨w.heap.size + 1 + 1, 0, none⟩ 3 = some v1.arr := by unfold row?; simp only [k2]; simp
  have r2 : row? W ⟨w.heap.size + 1 + 1 + 1, 0, none⟩ 3 = some v2.arr := by unfold row?; simp only [k3]; simp
  obtain ⟨H, hH⟩ : ∃ H, H = idS t5 := ⟨_, rfl⟩
  have hne : decide (H = Hash.zero) = false := by rw [hH]; simpa using id_t5
  have id1 := fun (d : Nat) (os : Array Obj) => id_tx v1 t5 _ (i1.regrown d os)
  have id2 := fun (d : Nat) (os : Array Obj) => idu5 (i2.regrown d os)
  rw [← hH] at id1 id2
  have ID1 := Lib.hid id1
  have ID2 := Lib.hid id2
  have hz1 : w.heap.size + 1 + 1 < W.heap.size := by omega
  have hz2 : w.heap.size + 1 + 1 + 1 < W.heap.size := by omega
  clear hW hv1 hv2 k0 k1 k2 k3 k4 hh hz hH id1 id2
  refine wp_region_below (by kernel_rfl) (by kernel_rfl) ?_
  repeat (go_big_quiet_step ((first | (go_at_call 65; first | (with_reducible exact Calls.regrown_of (check5 (i1.regrown _ _))) | (with_reducible exact Calls.regrown_of (checkz _))) | (go_at_call 21; exact Calls.regrown_of (weight5 (i1.regrown _ _))) | (go_at_call 66; first | (with_reducible exact Calls.regrown_of (ID1.out _ _)) | (with_reducible exact Calls.regrown_of (ID2.out _ _))) | (go_at_call 67; exact Calls.regrown_of (same55 (i1.regrown _ _) (i2.regrown _ _))) | (go_at_call 22; exact Calls.regrown_of (wit9 _)))))
  refine wpQuiet_nil ?_
  intro w2 hb_w2
  obtain ⟨hc_w2, hf_w2, hr_w2⟩ := bcell hb_w2
  go_wp2_with fail
  go_ret
  exact ⟨rfl, hbW.trans (hb_w2.mono hbW.size)⟩
end Go.Proofs.Ytaopiefbejajkaa
