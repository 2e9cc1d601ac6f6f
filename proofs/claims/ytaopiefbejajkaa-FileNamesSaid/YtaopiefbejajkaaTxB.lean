/- Contracts of package tx and amount: limits of numbers, scripts, witnesses, inputs; weights; sums. -/
import Derived.Test.YtaopiefbejajkaaTxA
import Derived.BigQuiet
import Derived.Deep.QuietTactic
set_option linter.unusedSimpArgs false
set_option linter.unusedVariables false
namespace Go.Proofs.Ytaopiefbejajkaa
open Go.RowKit
/-- Is a number within limits? -/
def wth (n a b : Int) : Bool := decide (a ≤ n) && decide (n ≤ b)
theorem wth_iff {n a b : Int} : wth n a b = true ↔ a ≤ n ∧ n ≤ b := by simp [wth]
set_option maxHeartbeats 400000 in
theorem within_tx (n a b : Int) (w : World) : Calls Try.prog 112 #[.int .i64 n, .int .i64 a, .int .i64 b] w fun e w' => e = .returned (.bool (wth n a b)) ∧ w = w' := by
  by_cases h1 : a ≤ n
  · go_enter Try.func112, Try.ntmps112
    go_wp2
    go_ret
    exact ⟨ret_bool (by simp [wth, h1]), rfl⟩
  · go_enter Try.func112, Try.ntmps112
    go_wp2
    go_ret
    exact ⟨ret_bool (by unfold wth; rw [decide_eq_false (by omega)]; rfl), rfl⟩
def scriptOk (s : Script) : Bool := wth s.key 0 1073741824 && wth s.other 0 1073741824 && wth s.rev 0 1073741824 && wth s.kind 1 6 && wth s.delay 0 65535 && wth s.expiry 0 1000000
set_option maxHeartbeats 1000000 in
theorem script_tx (s : Script) (w : World) : Calls Try.prog 111 #[.agg s.arr] w fun e w' => e = .returned (.bool (scriptOk s)) ∧ Below w.heap.size w w' := by
  go_enter Try.func111, Try.ntmps111
  go_wp2_with (go_at_call 112; refine (within_tx _ _ _ _).mono ?_; rintro e w' ⟨rfl, rfl⟩)
  all_goals
    go_ret
    exact ⟨ret_bool (by simp_all [scriptOk]), (Below.refl _ _).alloc (Nat.le_refl _) _⟩
def witOk (x : Witness) : Bool := wth x.kind 1 4 && wth x.key 0 1073741824 && decide ((x.pre.size : Int) ≤ 64) && ((x.kind == 2) == !x.pre.toList.isEmpty)
set_option maxHeartbeats 1000000 in
theorem witness_tx (x : Witness) (w : World) : Calls Try.prog 145 #[.agg x.arr] w fun e w' => e = .returned (.bool (witOk x)) ∧ Below w.heap.size w w' := by
  go_enter Try.func145, Try.ntmps145
  go_wp2_with (go_at_call 112; refine (within_tx _ _ _ _).mono ?_; rintro e w' ⟨rfl, rfl⟩)
  all_goals
    go_ret
    refine ⟨ret_bool ?_, (Below.refl _ _).alloc (Nat.le_refl _) _⟩
    first | (simp_all [witOk]; done) | (unfold witOk; rw [decide_eq_false (by omega : ¬ ((x.pre.size : Int) ≤ 64))]; simp)
def inOk (x : In) : Bool := wth x.prev.n 0 99 && wth x.seq 0 65535 && witOk x.wit
set_option maxHeartbeats 1000000 in
theorem in_tx (x : In) (w : World) : Calls Try.prog 110 #[.agg x.arr] w fun e w' => e = .returned (.bool (inOk x)) ∧ Below w.heap.size w w' := by
  go_enter Try.func110, Try.ntmps110
  go_wp2_with (first | (go_at_call 112; refine (within_tx _ _ _ _).mono ?_; rintro e w' ⟨rfl, rfl⟩) | (go_at_call 145; refine (witness_tx _ _).mono ?_; rintro e w' ⟨rfl, hb⟩))
  all_goals
    go_ret
    refine ⟨ret_bool (by simp_all [inOk]), ?_⟩
    first | exact (Below.refl _ _).alloc (Nat.le_refl _) _ | exact ((Below.refl _ _).alloc (Nat.le_refl _) _).trans (hb.mono (by simp))
/-- The weight of a witness. -/
def witW (k : Int) : Int := if k = 1 then 74 else if k = 2 then 107 else if k = 3 then 76 else if k = 4 then 1 else 0
set_option maxHeartbeats 1000000 in
theorem wit_tx (k : Int) (w : World) : Calls Try.prog 22 #[.int .i64 k] w fun e w' => e = .returned (.int .i64 (witW k)) ∧ w = w' := by
  go_enter Try.func22, Try.ntmps22
  go_wp2
  all_goals
    go_ret
    refine ⟨ret_int ?_, rfl⟩
    simp_all [witW]
def money (a : Int) : Bool := decide (0 ≤ a) && decide (a ≤ 2100000000000000)
set_option maxHeartbeats 1000000 in
theorem valid_am (a : Int) (w : World) : Calls Try.prog 64 #[.int .i64 a] w fun e w' => e = .returned (.bool (money a)) ∧ w = w' := by
  go_enter Try.func64, Try.ntmps64
  go_wp2
  all_goals
    go_ret
    refine ⟨ret_bool ?_, rfl⟩
    unfold money
    first | (rw [decide_eq_true (p := 0 ≤ a) (by assumption)]; simp) | (rw [decide_eq_false (p := 0 ≤ a) (by omega)]; rfl)
def heldS (a : Int) (ok : Bool) : Int × Int := if ok && money a then (a, 0) else (0, 11)
set_option maxHeartbeats 1000000 in
theorem held_am (a : Int) (ok : Bool) (w : World) : Calls Try.prog 157 #[.int .i64 a, .bool ok] w fun e w' => e = .returned (.tuple #[.int .i64 (heldS a ok).1, .int .i64 (heldS a ok).2]) ∧ w = w' := by
  go_enter Try.func157, Try.ntmps157
  go_wp2_with (go_at_call 64; refine (valid_am _ _).mono ?_; rintro e w' ⟨rfl, rfl⟩)
  all_goals
    go_ret2
    refine ⟨?_, rfl⟩
    simp_all [heldS]
def addS (a b : Int) : Int × Int := if money a && money b && money (a + b) then (a + b, 0) else (0, 11)
theorem money_iff {a : Int} : money a = true ↔ 0 ≤ a ∧ a ≤ 2100000000000000 := by simp [money]
set_option maxHeartbeats 1000000 in
theorem add_am (a b : Int) (w : World) : Calls Try.prog 146 #[.int .i64 a, .int .i64 b] w fun e w' => e = .returned (.tuple #[.int .i64 (addS a b).1, .int .i64 (addS a b).2]) ∧ w = w' := by
  by_cases h : money a = true ∧ money b = true
  · obtain ⟨h1, h2⟩ := h
    have e1 := money_iff.1 h1
    have e2 := money_iff.1 h2
    have e3 : wrap64 (a + b) = a + b := by unfold wrap64; omega
    go_enter Try.func146, Try.ntmps146
    go_wp2_with (first | (go_at_call 64; refine (valid_am _ _).mono ?_; rintro e w' ⟨rfl, rfl⟩) | (go_at_call 157; refine (held_am _ _ _).mono ?_; rintro e w' ⟨rfl, rfl⟩))
    go_ret2
    refine ⟨?_, rfl⟩
    simp_all [addS, heldS]
  · have hs : ∀ x, heldS x false = (0, 11) := fun x => by simp [heldS]
    go_enter Try.func146, Try.ntmps146
    go_wp2_with (first | (go_at_call 64; refine (valid_am _ _).mono ?_; rintro e w' ⟨rfl, rfl⟩) | (go_at_call 157; refine (held_am _ _ _).mono ?_; rintro e w' ⟨rfl, rfl⟩))
    all_goals
      go_ret2
      refine ⟨?_, rfl⟩
      simp_all [addS, heldS]
end Go.Proofs.Ytaopiefbejajkaa
