/- Contracts of the document's own sums: words turned; a word for each step. -/
import Derived.Test.YtaopiefbejajkaaShaF
set_option linter.unusedSimpArgs false
set_option linter.unusedVariables false
namespace Go.Proofs.Ytaopiefbejajkaa
open Go.RowKit
theorem rotr_or (x n : Nat) : x / 2 ^ n ||| x * 2 ^ (32 - n) % 4294967296 = rotr x n := by unfold rotr; rw [Nat.or_comm]
theorem turn_u32 (x a : Nat) (hx : x < 4294967296) : bits .or .u32 ((x : Int) / 2 ^ a) ((x : Int) * 2 ^ (32 - a) % 4294967296) = ((rotr x a : Nat) : Int) := by
  have e1 : ((x : Int) / 2 ^ a) = ((x / 2 ^ a : Nat) : Int) := by norm_cast
  have e2 : ((x : Int) * 2 ^ (32 - a) % 4294967296) = ((x * 2 ^ (32 - a) % 4294967296 : Nat) : Int) := by
    rw [Int.natCast_emod, Int.natCast_mul, Int.natCast_pow]; rfl
  rw [e1, e2, bits_or_u32 _ _ (Nat.lt_of_le_of_lt (Nat.div_le_self _ _) hx) (Nat.mod_lt _ (by decide)), rotr_or]
set_option maxRecDepth 100000 in
set_option maxHeartbeats 1000000 in
theorem mixed_ref (x a b c : Nat) (ha : 0 < a ∧ a < 32) (hb : 0 < b ∧ b < 32) (hc : 0 < c ∧ c < 32) (hx : x < 4294967296) (w : World) :
    Calls Try.prog 143 #[.int .u32 x, .int .i64 a, .int .i64 b, .int .i64 c] w fun e w' => e = .returned (.int .u32 ((threeS x a b c false : Nat) : Int)) ∧ ∃ n, w' = w.drewN n := by
  obtain ⟨ha1, ha2⟩ := ha
  obtain ⟨hb1, hb2⟩ := hb
  obtain ⟨hc1, hc2⟩ := hc
  go_enter Try.func143, Try.ntmps143
  go_wp2_with fail
  go_quiet (fail)
  go_wp2_with fail
  go_ret
  refine ⟨ret_int ?_, _, rfl⟩
  have ra := rotr_lt x a hx
  have rb := rotr_lt x b hx
  have rc := rotr_lt x c hx
  have hxx : rotr x a ^^^ rotr x b < 4294967296 := Nat.xor_lt_two_pow (n := 32) ra rb
  rw [turn_u32 x a hx, turn_u32 x b hx, turn_u32 x c hx, bits_xor_u32 _ _ ra rb, bits_xor_u32 _ _ hxx rc]
  rfl
set_option maxRecDepth 100000 in
set_option maxHeartbeats 1000000 in
theorem drawn_ref (x a b c : Nat) (ha : 0 < a ∧ a < 32) (hb : 0 < b ∧ b < 32) (hc : 0 < c ∧ c < 32) (hx : x < 4294967296) (w : World) :
    Calls Try.prog 142 #[.int .u32 x, .int .i64 a, .int .i64 b, .int .i64 c] w fun e w' => e = .returned (.int .u32 ((threeS x a b c true : Nat) : Int)) ∧ ∃ n, w' = w.drewN n := by
  obtain ⟨ha1, ha2⟩ := ha
  obtain ⟨hb1, hb2⟩ := hb
  obtain ⟨hc1, hc2⟩ := hc
  go_enter Try.func142, Try.ntmps142
  go_wp2_with fail
  go_quiet (fail)
  go_wp2_with fail
  go_ret
  refine ⟨ret_int ?_, _, rfl⟩
  have ra := rotr_lt x a hx
  have rb := rotr_lt x b hx
  have hxx : rotr x a ^^^ rotr x b < 4294967296 := Nat.xor_lt_two_pow (n := 32) ra rb
  have e2 : ((x : Int) / 2 ^ c) = ((x / 2 ^ c : Nat) : Int) := by norm_cast
  rw [turn_u32 x a hx, turn_u32 x b hx, e2, bits_xor_u32 _ _ ra rb, bits_xor_u32 _ _ hxx (Nat.lt_of_le_of_lt (Nat.div_le_self _ _) hx)]
  rfl
theorem drawn_w1 (x r : Nat) (hr : r = threeS x 7 18 3 true) (hx : x < 4294967296) (w : World) :
    Calls Try.prog 142 #[.int .u32 x, .int .i64 7, .int .i64 18, .int .i64 3] w fun e w' => e = .returned (.int .u32 (r : Nat)) ∧ ∃ n, w' = w.drewN n := by
  subst hr; exact drawn_ref x 7 18 3 (by decide) (by decide) (by decide) hx w
theorem drawn_w2 (x r : Nat) (hr : r = threeS x 17 19 10 true) (hx : x < 4294967296) (w : World) :
    Calls Try.prog 142 #[.int .u32 x, .int .i64 17, .int .i64 19, .int .i64 10] w fun e w' => e = .returned (.int .u32 (r : Nat)) ∧ ∃ n, w' = w.drewN n := by
  subst hr; exact drawn_ref x 17 19 10 (by decide) (by decide) (by decide) hx w
theorem mixed_w1 (x r : Nat) (hr : r = threeS x 6 11 25 false) (hx : x < 4294967296) (w : World) :
    Calls Try.prog 143 #[.int .u32 x, .int .i64 6, .int .i64 11, .int .i64 25] w fun e w' => e = .returned (.int .u32 (r : Nat)) ∧ ∃ n, w' = w.drewN n := by
  subst hr; exact mixed_ref x 6 11 25 (by decide) (by decide) (by decide) hx w
theorem mixed_w2 (x r : Nat) (hr : r = threeS x 2 13 22 false) (hx : x < 4294967296) (w : World) :
    Calls Try.prog 143 #[.int .u32 x, .int .i64 2, .int .i64 13, .int .i64 22] w fun e w' => e = .returned (.int .u32 (r : Nat)) ∧ ∃ n, w' = w.drewN n := by
  subst hr; exact mixed_ref x 2 13 22 (by decide) (by decide) (by decide) hx w
set_option maxRecDepth 100000 in
theorem steps_ref (w : World) : Calls Try.prog 141 #[] w fun e w' => e = .returned (.slice (some ⟨w.heap.size, 0, none⟩) 64 64) ∧ w' = w.alloc (.cells W64.roots.arr 184) := by
  go_enter Try.func141, Try.ntmps141
  go_wp2_with fail
  go_ret
  refine ⟨rfl, congrArg (fun c => w.alloc (.cells c _)) (?_ : _ = W64.roots.arr)⟩
  rfl
end Go.Proofs.Ytaopiefbejajkaa
