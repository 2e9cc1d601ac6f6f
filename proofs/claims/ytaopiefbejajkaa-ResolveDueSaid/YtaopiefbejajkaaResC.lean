/- Contracts of package resolve: is a key paid; words; an item that is not ready; what the document fixes. -/
import Derived.Test.YtaopiefbejajkaaResB
import Derived.Test.YtaopiefbejajkaaAlike
import Derived.Test.YtaopiefbejajkaaSlc
set_option linter.unusedSimpArgs false
set_option linter.unusedVariables false
namespace Go.Proofs.Ytaopiefbejajkaa
open Go.RowKit
/-- A script of the wallet's kind. -/
def payS (k : Int) : Script := { Script.zero with kind := 1, key := k }
theorem pay_script (k : Int) (w : World) : Calls Try.prog 104 #[.int .i64 k] w fun e w' => e = .returned (.agg (payS k).arr) ∧ Below w.heap.size w w' := by
  go_enter Try.func104, Try.ntmps104
  go_wp2_with fail
  exact bodyPost_ret (results_cell_row rfl _ _ w.heap.size 34 (payS k).arr (0, 0) _ rfl (heap_alloc_new w _) Try.underlying34 rfl (by rw [size_Script]; simp)) rfl ⟨rfl, (Below.refl _ _).alloc (Nat.le_refl _) _⟩
set_option maxRecDepth 100000 in
set_option maxHeartbeats 1000000 in
theorem paid1 (x : Out) (k : Int) (b : Nat) (w : World) (h : w.cell? ⟨b, 0, none⟩ = some (.int .i64 k)) (hb : b < w.heap.size) :
    Calls Try.prog 103 #[.agg x.arr, .pointer (some ⟨b, 0, none⟩)] w fun e w' => e = .returned (.bool (!decide (x.script = payS k))) ∧ Below w.heap.size w w' := by
  go_enter Try.func103, Try.ntmps103
  go_wp2_with fail
  refine wp_region_below (by kernel_rfl) (by kernel_rfl) ?_
  repeat (go_big_quiet_step (((go_at_call 104; exact Calls.regrown_of (pay_script _ _)))))
  refine wpQuiet_nil ?_
  intro w2 hb_w2
  obtain ⟨hc_w2, hf_w2, hr_w2⟩ := bcell hb_w2
  go_wp2_with fail
  go_ret
  exact ⟨rfl, ((Below.refl _ _).alloc (Nat.le_refl _) _).trans (hb_w2.mono (by simp))⟩
set_option maxRecDepth 100000 in
set_option maxHeartbeats 1000000 in
theorem index_outs (a : Option Addr) (c : Nat) (l : List Out) (q : Int) (b : Nat) (w : World) (hl : l.length ≤ 9223372036854775806) (hs : rowsAt w a 39 Out.arr l w.heap.size) (h : w.cell? ⟨b, 0, none⟩ = some (.int .i64 q)) (hb : b < w.heap.size) :
    Calls Try.prog 137 #[.slice a l.length c, .func (.func 103) #[] #[.pointer (some ⟨b, 0, none⟩)]] w
      fun e w' => e = .returned (.int .i64 (firstAt (fun x => !decide (x.script = payS q)) l)) ∧ Below w.heap.size w w' := by
  go_enter Try.func137, Try.ntmps137
  go_wp2
  go_loopw [8] (fun i wr => ∃ k : Nat, k ≤ l.length ∧ i = .int .i64 k ∧ Below w.heap.size w wr ∧ Hid (∀ j (h : j < l.length), j < k → (!decide (l[j].script = payS q)) = false)) (fun i _ => l.length - (intOf i).toNat)
  case atStart => exact ⟨0, Nat.zero_le _, rfl, Below.refl _ _, fun j _ h => by omega⟩
  case round =>
    obtain ⟨k, hk, rfl, hbw, hno⟩ := hrel
    by_cases hlt : k < l.length
    · obtain ⟨b0, off, rfl, hb0, hr⟩ := (hs.below hbw).at hlt
      have hz := hbw.size
      have hp : wr.cell? ⟨b, 0, none⟩ = some (.int .i64 q) := (hbw.cell (p := ⟨b, 0, none⟩) hb).trans h
      by_cases hd : (!decide (l[k].script = payS q)) = true
      · go_wp2_with (go_at_call 103; refine (paid1 _ q _ _ hp (by omega)).mono ?_; rintro e w' ⟨rfl, hb'⟩)
        go_ret
        exact ⟨ret_int (firstAt_hit hlt hno.out hd).symm, hbw.trans (hb'.mono hz)⟩
      · have hd2 : (!decide (l[k].script = payS q)) = false := by simpa using hd
        go_wp2_with (go_at_call 103; refine (paid1 _ q _ _ hp (by omega)).mono ?_; rintro e w' ⟨rfl, hb'⟩)
        go_roundw
        case rel => exact ⟨k + 1, by omega, by go_num, hbw.trans (hb'.mono hz), fun j h hj => by
          by_cases e : j = k
          · subst e; exact hd2
          · exact hno.out j h (by omega)⟩
        case measure => simp [intOf]; omega
    · go_wp2
      go_ret
      exact ⟨ret_int (firstAt_none (fun j h => hno.out j h (by omega))).symm, hbw⟩
theorem firstAt_any {α : Type} (p : α → Bool) (l : List α) : decide ((0 : Int) ≤ firstAt p l) = l.any p := by
  unfold firstAt
  cases h : l.findIdx? p with
  | none =>
    rw [List.findIdx?_eq_none_iff] at h
    have : l.any p = false := by rw [List.any_eq_false]; intro x hx; simp [h x hx]
    rw [this]; rfl
  | some i =>
    rw [List.findIdx?_eq_some_iff_getElem] at h
    obtain ⟨hi, hp, _⟩ := h
    have : l.any p = true := List.any_eq_true.2 ⟨l[i], List.getElem_mem hi, hp⟩
    rw [this]; exact decide_eq_true (by simp)
set_option maxRecDepth 100000 in
set_option maxHeartbeats 1000000 in
theorem contains_outs (a : Option Addr) (c : Nat) (l : List Out) (q : Int) (b : Nat) (w : World) (hl : l.length ≤ 9223372036854775806) (hs : rowsAt w a 39 Out.arr l w.heap.size) (h : w.cell? ⟨b, 0, none⟩ = some (.int .i64 q)) (hb : b < w.heap.size) :
    Calls Try.prog 102 #[.slice a l.length c, .func (.func 103) #[] #[.pointer (some ⟨b, 0, none⟩)]] w
      fun e w' => e = .returned (.bool (l.any fun x => !decide (x.script = payS q))) ∧ Below w.heap.size w w' := by
  go_enter Try.func102, Try.ntmps102
  go_wp2_with (go_at_call 137; refine (index_outs a c l q b _ hl hs h hb).mono ?_; rintro e w' ⟨rfl, hb'⟩)
  go_ret
  exact ⟨by rw [← firstAt_any]; rfl, hb'⟩
/-- Is a key paid, and nobody else? -/
def paidS (l : List Out) (q : Int) : Bool := decide (0 < l.length) && !(l.any fun x => !decide (x.script = payS q))
set_option maxRecDepth 100000 in
set_option maxHeartbeats 1000000 in
theorem paid_res (t : TxV) (l : List Out) (q : Int) (w : World) (hl : l.length ≤ 9223372036854775806) (hs : isSl w t.outs 39 Out.arr l w.heap.size) :
    Calls Try.prog 58 #[.agg t.arr, .int .i64 q] w fun e w' => e = .returned (.bool (paidS l q)) ∧ Below w.heap.size w w' := by
  obtain ⟨⟨ia, im, ic⟩, ⟨oa, om, oc⟩, lk⟩ := t
  obtain ⟨hn, hc, hr⟩ := hs
  simp only at hn hc hr
  subst hn
  have hbV : Below w.heap.size w ((w.alloc (.cells (TxV.mk ⟨ia, im, ic⟩ ⟨oa, l.length, oc⟩ lk).arr 51)).alloc (.cells #[.int .i64 q] 3)) := ((Below.refl _ _).alloc (Nat.le_refl _) _).alloc (by simp) _
  have hr2 : rowsAt ((w.alloc (.cells (TxV.mk ⟨ia, im, ic⟩ ⟨oa, l.length, oc⟩ lk).arr 51)).alloc (.cells #[.int .i64 q] 3)) oa 39 Out.arr l ((w.alloc (.cells (TxV.mk ⟨ia, im, ic⟩ ⟨oa, l.length, oc⟩ lk).arr 51)).alloc (.cells #[.int .i64 q] 3)).heap.size := (hr.below hbV).mono (by simp; omega)
  have hq : ((w.alloc (.cells (TxV.mk ⟨ia, im, ic⟩ ⟨oa, l.length, oc⟩ lk).arr 51)).alloc (.cells #[.int .i64 q] 3)).cell? ⟨w.heap.size + 1, 0, none⟩ = some (.int .i64 q) := by
    simp
  have HX := Lib.hid (And.intro hbV (And.intro hr2 hq))
  clear hbV hr2 hq
  by_cases h0 : 0 < l.length
  · have d0 : decide ((0 : Int) < (l.length : Int)) = true := decide_eq_true (by omega)
    have e0 : decide (0 < l.length) = true := decide_eq_true h0
    have HE := Lib.hid e0
    clear e0
    go_enter Try.func58, Try.ntmps58
    go_wp2_with (go_at_call 102; refine (contains_outs oa oc l q _ _ hl HX.out.2.1 HX.out.2.2 (by simp)).mono ?_; rintro e w' ⟨rfl, hb'⟩)
    go_ret
    exact ⟨by unfold paidS; rw [HE.out]; rfl, HX.out.1.trans (hb'.mono HX.out.1.size)⟩
  · have d0 : decide ((0 : Int) < (l.length : Int)) = false := decide_eq_false (by omega)
    have e0 : decide (0 < l.length) = false := decide_eq_false h0
    have HE := Lib.hid e0
    clear e0
    go_enter Try.func58, Try.ntmps58
    go_wp2_with fail
    go_ret
    exact ⟨by unfold paidS; rw [HE.out]; rfl, HX.out.1⟩
theorem word_buried (w : World) : Calls Try.prog 57 #[.int .i64 5] w fun e w' => e = .returned (.string { data := #[98, 117, 114, 105, 101, 100] }) ∧ w = w' := by
  go_enter Try.func57, Try.ntmps57
  go_wp2
  go_ret
  exact ⟨rfl, rfl⟩
theorem word_none (w : World) : Calls Try.prog 57 #[.int .i64 0] w fun e w' => e = .returned (.string { data := #[] }) ∧ w = w' := by
  go_enter Try.func57, Try.ntmps57
  go_wp2
  go_ret
  exact ⟨rfl, rfl⟩
set_option maxRecDepth 100000 in
set_option maxHeartbeats 1000000 in
/-- An item that is not ready is not swept. -/
theorem input_no (i : Item) (k : Keys) (p mb n : Nat) (f : Hash → Option ByteArray) (c : Claim) (since delta share : Int) (hst : i.state ≠ 2)
    (hm : ∀ W, bookAt W p mb n f → Calls Try.prog 62 #[.agg i.arr, .pointer (some ⟨p, 0, none⟩), .agg k.arr] W fun e w' => e = .returned (.tuple #[.agg c.arr, .int .i64 0]) ∧ Below W.heap.size W w')
    (w : World) (hbk : bookAt w p mb n f) :
    Calls Try.prog 18 #[.agg i.arr, .pointer (some ⟨p, 0, none⟩), .agg k.arr, .int .i64 since, .int .i64 delta, .int .i64 share] w fun e w' => e = .returned (.tuple #[.agg Input.zero.arr, .bool false]) ∧ Below w.heap.size w w' := by
  have HB0 := Lib.hid (InputB.start w i k)
  have hb0 := hbk.below HB0.out.below hbk.lt.1 hbk.lt.2
  have hs2 : (i.state == 2) = false := by simp [hst]
  clear hst hbk
  go_enter Try.func18, Try.ntmps18
  go_wp2_with fail
  refine (hm _ hb0).mono ?_
  rintro e Y ⟨rfl, hbY⟩
  have hBY := HB0.out.next hbY
  obtain ⟨cS, rI, rK, rP, z0, z1, z2⟩ := hBY.facts
  have hC0 := (hBY.next ((Below.refl Y.heap.size Y).alloc (Nat.le_refl _) (.cells c.arr 42))).hc
  have HBY := Lib.hid hBY
  clear hBY hbY HB0 hb0 hm
  go_wp2_with (refine wpList_storeRow size_Input _ _ rfl rfl _ (Input.arr _) _ rfl rfl (by simp) (one_Input _) (by simp) hC0 ?_; intro w5 hr5 hu5)
  refine bodyPost_ret (results_cell_tmp rfl _ _ (w.heap.size + 1 + 1) 44 _ (0, 0) _ _ rfl rfl hr5 Try.underlying44 rfl (by rw [size_Input]; simp)) rfl ⟨rfl, input_end (HBY.out.next ((Below.refl Y.heap.size Y).alloc (Nat.le_refl _) (.cells c.arr 42))) hu5⟩
set_option maxRecDepth 100000 in
set_option maxHeartbeats 1000000 in
theorem awake23 (w : World) : Calls Try.prog 13 #[] w fun e w' => e = .returned (.bool true) ∧ Below w.heap.size w w' := by
  go_enter Try.func13, Try.ntmps13
  go_wp2_with (first | (go_at_call 57; with_reducible refine (word_buried _).mono ?_; rintro e w' ⟨rfl, rfl⟩) | (go_at_call 57; with_reducible refine (word_none _).mono ?_; rintro e w' ⟨rfl, rfl⟩))
  obtain ⟨x, hx⟩ : ∃ x : Out, x = { value := Out.zero.value, script := { kind := 1, key := 5, other := Script.zero.other, rev := Script.zero.rev, delay := Script.zero.delay, expiry := Script.zero.expiry, hash := Script.zero.hash } } := ⟨_, rfl⟩
  rw [← hx]
  have hps : Hid (x.script = payS 5) := by unfold Hid; rw [hx]; rfl
  clear hx
  have hbV : Below w.heap.size w (w.alloc (.cells x.arr 55)) := (Below.refl _ _).alloc (Nat.le_refl _) _
  have hsl : isSl (w.alloc (.cells x.arr 55)) ⟨some ⟨w.heap.size, 0, none⟩, 1, 1⟩ 39 Out.arr [x] (w.alloc (.cells x.arr 55)).heap.size := by
    refine ⟨rfl, Nat.le_refl _, fun _ => ⟨w.heap.size, 0, rfl, by simp, fun k hk => ?_⟩⟩
    have hk0 : k = 0 := by simpa using hk
    subst hk0
    exact row_of_block (heap_alloc_new w _) (by simp)
  refine (paid_res (TxV.mk TxV.zero.ins ⟨some ⟨w.heap.size, 0, none⟩, 1, 1⟩ TxV.zero.lock) [x] 5 _ (by simp) hsl).mono ?_
  rintro e W ⟨rfl, hbW⟩
  have e1 : paidS [x] 5 = true := by simp [paidS, hps.out]
  rw [e1]
  have hbw : Below w.heap.size w W := hbV.trans (hbW.mono hbV.size)
  clear hbV hsl hbW e1
  go_wp2_with fail
  refine (paid_res TxV.zero [] 5 W (by decide) ⟨rfl, Nat.le_refl _, fun h => absurd rfl h⟩).mono ?_
  rintro e Y ⟨rfl, hbY⟩
  rw [show paidS [] 5 = false from rfl]
  go_wp2_with fail
  go_ret
  exact ⟨rfl, hbw.trans (hbY.mono hbw.size)⟩
end Go.Proofs.Ytaopiefbejajkaa
