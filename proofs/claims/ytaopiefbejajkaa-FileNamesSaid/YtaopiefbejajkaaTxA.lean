/- Contracts of package tx: the place of an input that spends an outpoint. -/
import Derived.Test.YtaopiefbejajkaaRw
set_option linter.unusedSimpArgs false
set_option linter.unusedVariables false
namespace Go.Proofs.Ytaopiefbejajkaa
open Go.RowKit
set_option maxHeartbeats 400000 in
theorem spends1 (x : In) (p : Outpoint) (b : Nat) (w : World) (h : row? w ⟨b, 0, none⟩ 33 = some p.arr) (hb : b < w.heap.size) :
    Calls Try.prog 69 #[.agg x.arr, .pointer (some ⟨b, 0, none⟩)] w fun e w' => e = .returned (.bool (decide (x.prev = p))) ∧ Below w.heap.size w w' := by
  go_enter Try.func69, Try.ntmps69
  go_wp2
  go_ret
  exact ⟨rfl, (Below.refl _ _).alloc (Nat.le_refl _) _⟩
set_option maxHeartbeats 400000 in
theorem index_ins (a : Option Addr) (c : Nat) (l : List In) (p : Outpoint) (b : Nat) (w : World) (hl : l.length ≤ 9223372036854775806) (hs : rowsAt w a 37 In.arr l w.heap.size) (h : row? w ⟨b, 0, none⟩ 33 = some p.arr) (hb : b < w.heap.size) :
    Calls Try.prog 68 #[.slice a l.length c, .func (.func 69) #[] #[.pointer (some ⟨b, 0, none⟩)]] w
      fun e w' => e = .returned (.int .i64 (firstAt (fun x => decide (x.prev = p)) l)) ∧ Below w.heap.size w w' := by
  go_enter Try.func68, Try.ntmps68
  go_wp2
  go_loopw [8] (fun i wr => ∃ k : Nat, k ≤ l.length ∧ i = .int .i64 k ∧ Below w.heap.size w wr ∧ Hid (∀ j (h : j < l.length), j < k → decide (l[j].prev = p) = false)) (fun i _ => l.length - (intOf i).toNat)
  case atStart => exact ⟨0, Nat.zero_le _, rfl, Below.refl _ _, fun j _ h => by omega⟩
  case round =>
    obtain ⟨k, hk, rfl, hbw, hno⟩ := hrel
    by_cases hlt : k < l.length
    · obtain ⟨b0, off, rfl, hb0, hr⟩ := (hs.below hbw).at hlt
      have hz := hbw.size
      have hp : row? wr ⟨b, 0, none⟩ 33 = some p.arr := (row?_below hbw (a := ⟨b, 0, none⟩) hb 33).trans h
      by_cases hd : l[k].prev = p
      · go_wp2_with (go_at_call 69; refine (spends1 _ p _ _ hp (by omega)).mono ?_; rintro e w' ⟨rfl, hb'⟩)
        go_ret
        exact ⟨ret_int (firstAt_hit hlt hno.out (by simpa using hd)).symm, hbw.trans (hb'.mono hz)⟩
      · go_wp2_with (go_at_call 69; refine (spends1 _ p _ _ hp (by omega)).mono ?_; rintro e w' ⟨rfl, hb'⟩)
        go_roundw
        case rel => exact ⟨k + 1, by omega, by go_num, hbw.trans (hb'.mono hz), fun j h hj => by
          by_cases e : j = k
          · subst e; simpa using hd
          · exact hno.out j h (by omega)⟩
        case measure => simp [intOf]; omega
    · go_wp2
      go_ret
      exact ⟨ret_int (firstAt_none (fun j h => hno.out j h (by omega))).symm, hbw⟩
end Go.Proofs.Ytaopiefbejajkaa
