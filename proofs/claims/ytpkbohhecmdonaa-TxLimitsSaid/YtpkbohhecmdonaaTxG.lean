/- Contracts of package tx, continued: are two transactions alike? -/
import Derived.Test.YtpkbohhecmdonaaTxF
set_option linter.unusedSimpArgs false
set_option linter.unusedVariables false
namespace Go.Proofs.Ytpkbohhecmdonaa
open Go.RowKit
attribute [local go_sem] row?_drewN
theorem Below.drewN_ {B : Nat} {w w' : World} (h : Below B w w') (n : Nat) : Below B w (w'.drewN n) := ⟨h.os, h.tape, h.output, h.size, h.block⟩
set_option maxRecDepth 100000 in
set_option maxHeartbeats 1000000 in
theorem equal_ins (a1 a2 : Option Addr) (c1 c2 : Nat) (l1 l2 : List In) (w : World) (h1 : l1.length ≤ 1000000000) (h2 : l2.length ≤ 1000000000) (hr1 : rowsAt w a1 37 In.arr l1 w.heap.size) (hr2 : rowsAt w a2 37 In.arr l2 w.heap.size) :
    Calls Try.prog 155 #[.slice a1 l1.length c1, .slice a2 l2.length c2] w fun e w' => e = .returned (.bool (decide (l1 = l2))) ∧ Below w.heap.size w w' := by
  by_cases hl : l1.length = l2.length
  · have t1 : ((l1.length : Int) != (l2.length : Int)) = false := by simp [hl]
    have HL := Lib.hid hl
    clear hl
    go_enter Try.func155, Try.ntmps155
    go_wp2_with fail
    clear t1
    go_loopw [5, 13] (fun _ v wr => ∃ k : Nat, k ≤ l1.length ∧ v = .int .i64 k ∧ Below w.heap.size w wr ∧ Hid (l1.take k = l2.take k)) (fun _ v _ => l1.length - (intOf v).toNat)
    case atStart => exact ⟨0, Nat.zero_le _, rfl, Below.refl _ _, rfl⟩
    case round =>
      obtain ⟨k, hk, rfl, hbw, heq⟩ := hrel
      by_cases hlt : k < l1.length
      · have hlt2 : k < l2.length := by have := HL.out; omega
        obtain ⟨b1, o1, rfl, hb1, hc1⟩ := (hr1.below hbw).at hlt
        obtain ⟨b2, o2, rfl, hb2, hc2⟩ := (hr2.below hbw).at hlt2
        obtain ⟨x, hx⟩ : ∃ x, x = l1[k] := ⟨_, rfl⟩
        obtain ⟨y, hy⟩ : ∃ y, y = l2[k] := ⟨_, rfl⟩
        rw [← hx] at hc1
        rw [← hy] at hc2
        have hkk2 : (k : Int) < (l2.length : Int) := by omega
        have HX := Lib.hid hx
        have HY := Lib.hid hy
        clear hx hy
        by_cases hxy : x = y
        · have td : decide (x = y) = true := by simp [hxy]
          have HXY := Lib.hid hxy
          clear hxy
          go_wp2_with fail
          go_quiet (fail)
          go_wp2_with fail
          go_roundw
          case rel =>
            refine ⟨k + 1, by omega, by go_num, Below.drewN_ hbw _, ?_⟩
            unfold Hid
            rw [List.take_succ_eq_append_getElem hlt, List.take_succ_eq_append_getElem hlt2, heq.out, ← HX.out, ← HY.out, HXY.out]
          case measure => simp [intOf]; omega
        · have td : decide (x = y) = false := by simp [hxy]
          have HXY := Lib.hid hxy
          clear hxy
          go_wp2_with fail
          go_quiet (fail)
          go_wp2_with fail
          go_ret
          refine ⟨ret_bool ?_, Below.drewN_ hbw _⟩
          rw [eq_comm, decide_eq_false_iff_not]
          intro e
          subst e
          exact HXY.out (HX.out.trans HY.out.symm)
      · go_wp2_with fail
        go_ret
        refine ⟨ret_bool ?_, hbw⟩
        have hke : k = l1.length := by omega
        have he := heq.out
        rw [hke, List.take_length, HL.out, List.take_length] at he
        simp [he]
  · have t1 : ((l1.length : Int) != (l2.length : Int)) = true := by simp; omega
    have HL := Lib.hid hl
    clear hl
    go_enter Try.func155, Try.ntmps155
    go_wp2_with fail
    go_ret
    refine ⟨ret_bool ?_, Below.refl _ _⟩
    rw [eq_comm, decide_eq_false_iff_not]
    intro e
    exact HL.out (by rw [e])
set_option maxRecDepth 100000 in
set_option maxHeartbeats 1000000 in
theorem equal_outs (a1 a2 : Option Addr) (c1 c2 : Nat) (l1 l2 : List Out) (w : World) (h1 : l1.length ≤ 1000000000) (h2 : l2.length ≤ 1000000000) (hr1 : rowsAt w a1 39 Out.arr l1 w.heap.size) (hr2 : rowsAt w a2 39 Out.arr l2 w.heap.size) :
    Calls Try.prog 156 #[.slice a1 l1.length c1, .slice a2 l2.length c2] w fun e w' => e = .returned (.bool (decide (l1 = l2))) ∧ Below w.heap.size w w' := by
  by_cases hl : l1.length = l2.length
  · have t1 : ((l1.length : Int) != (l2.length : Int)) = false := by simp [hl]
    have HL := Lib.hid hl
    clear hl
    go_enter Try.func156, Try.ntmps156
    go_wp2_with fail
    clear t1
    go_loopw [5, 13] (fun _ v wr => ∃ k : Nat, k ≤ l1.length ∧ v = .int .i64 k ∧ Below w.heap.size w wr ∧ Hid (l1.take k = l2.take k)) (fun _ v _ => l1.length - (intOf v).toNat)
    case atStart => exact ⟨0, Nat.zero_le _, rfl, Below.refl _ _, rfl⟩
    case round =>
      obtain ⟨k, hk, rfl, hbw, heq⟩ := hrel
      by_cases hlt : k < l1.length
      · have hlt2 : k < l2.length := by have := HL.out; omega
        obtain ⟨b1, o1, rfl, hb1, hc1⟩ := (hr1.below hbw).at hlt
        obtain ⟨b2, o2, rfl, hb2, hc2⟩ := (hr2.below hbw).at hlt2
        obtain ⟨x, hx⟩ : ∃ x, x = l1[k] := ⟨_, rfl⟩
        obtain ⟨y, hy⟩ : ∃ y, y = l2[k] := ⟨_, rfl⟩
        rw [← hx] at hc1
        rw [← hy] at hc2
        have hkk2 : (k : Int) < (l2.length : Int) := by omega
        have HX := Lib.hid hx
        have HY := Lib.hid hy
        clear hx hy
        by_cases hxy : x = y
        · have td : decide (x = y) = true := by simp [hxy]
          have HXY := Lib.hid hxy
          clear hxy
          go_wp2_with fail
          go_quiet (fail)
          go_wp2_with fail
          go_roundw
          case rel =>
            refine ⟨k + 1, by omega, by go_num, Below.drewN_ hbw _, ?_⟩
            unfold Hid
            rw [List.take_succ_eq_append_getElem hlt, List.take_succ_eq_append_getElem hlt2, heq.out, ← HX.out, ← HY.out, HXY.out]
          case measure => simp [intOf]; omega
        · have td : decide (x = y) = false := by simp [hxy]
          have HXY := Lib.hid hxy
          clear hxy
          go_wp2_with fail
          go_quiet (fail)
          go_wp2_with fail
          go_ret
          refine ⟨ret_bool ?_, Below.drewN_ hbw _⟩
          rw [eq_comm, decide_eq_false_iff_not]
          intro e
          subst e
          exact HXY.out (HX.out.trans HY.out.symm)
      · go_wp2_with fail
        go_ret
        refine ⟨ret_bool ?_, hbw⟩
        have hke : k = l1.length := by omega
        have he := heq.out
        rw [hke, List.take_length, HL.out, List.take_length] at he
        simp [he]
  · have t1 : ((l1.length : Int) != (l2.length : Int)) = true := by simp; omega
    have HL := Lib.hid hl
    clear hl
    go_enter Try.func156, Try.ntmps156
    go_wp2_with fail
    go_ret
    refine ⟨ret_bool ?_, Below.refl _ _⟩
    rw [eq_comm, decide_eq_false_iff_not]
    intro e
    exact HL.out (by rw [e])
end Go.Proofs.Ytpkbohhecmdonaa
