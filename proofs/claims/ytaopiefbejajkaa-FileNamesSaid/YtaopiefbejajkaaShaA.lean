/- Contracts of package sha: words turned. -/
import Derived.Test.YtaopiefbejajkaaShaP
import Derived.Test.YtaopiefbejajkaaNumB
import Derived.BigQuiet
import Derived.Deep.AppendLies
import Derived.Deep.Onto
import Derived.Deep.QuietTactic
import Derived.Deep.RegionHeld3
import Derived.Deep.RegionLaw
import Derived.Deep.RegionWith
set_option linter.unusedSimpArgs false
set_option linter.unusedVariables false
namespace Go.Proofs.Ytaopiefbejajkaa
open Go.RowKit
theorem wrap_u32 (n : Nat) : IntKind.u32.wrap (n : Int) = ((n % 4294967296 : Nat) : Int) := by simp [IntKind.wrap, IntKind.bits, IntKind.signed]
theorem wraps_u32 (n : Int) (h₀ : 0 ≤ n) (h₁ : n < 2 ^ 32) : IntKind.u32.wrap n = n := by
  obtain ⟨m, rfl⟩ := Int.eq_ofNat_of_zero_le h₀
  rw [wrap_u32]; omega
theorem bits_or_u32 (a b : Nat) (ha : a < 4294967296) (hb : b < 4294967296) : bits .or .u32 (a : Int) (b : Int) = ((a ||| b : Nat) : Int) := (bits_nat .u32 32 (by decide) wraps_u32 a b ha hb).2
theorem bits_and_u32 (a b : Nat) (ha : a < 4294967296) (hb : b < 4294967296) : bits .and .u32 (a : Int) (b : Int) = ((a &&& b : Nat) : Int) := (bits_nat .u32 32 (by decide) wraps_u32 a b ha hb).1
theorem bits_xor_u32 (a b : Nat) (ha : a < 4294967296) (hb : b < 4294967296) : bits .xor .u32 (a : Int) (b : Int) = ((a ^^^ b : Nat) : Int) := by
  have ha' : a % 2 ^ 32 = a := Nat.mod_eq_of_lt ha
  have hb' : b % 2 ^ 32 = b := Nat.mod_eq_of_lt hb
  have hx : a ^^^ b < 2 ^ 32 := Nat.xor_lt_two_pow ha hb
  show IntKind.u32.wrap (((BitVec.ofInt 32 (a : Int)) ^^^ (BitVec.ofInt 32 (b : Int))).toNat : Int) = _
  rw [BitVec.ofInt_natCast, BitVec.ofInt_natCast, BitVec.toNat_xor, BitVec.toNat_ofNat, BitVec.toNat_ofNat, ha', hb']
  exact wraps_u32 _ (Int.natCast_nonneg _) (by exact_mod_cast hx)
theorem rotr_lt (x n : Nat) (hx : x < 4294967296) : rotr x n < 4294967296 :=
  Nat.or_lt_two_pow (n := 32) (Nat.mod_lt _ (by decide)) (Nat.lt_of_le_of_lt (Nat.div_le_self _ _) hx)
theorem threeS_lt (x a b c : Nat) (s : Bool) (hx : x < 4294967296) : threeS x a b c s < 4294967296 := by
  unfold threeS
  refine Nat.xor_lt_two_pow (n := 32) (Nat.xor_lt_two_pow (rotr_lt _ _ hx) (rotr_lt _ _ hx)) ?_
  cases s
  · exact rotr_lt _ _ hx
  · exact Nat.lt_of_le_of_lt (Nat.div_le_self _ _) hx
set_option maxRecDepth 100000 in
set_option maxHeartbeats 1000000 in
theorem rot_u32 (x c : Nat) (hc : 0 < c) (hc2 : c < 32) (hx : x < 4294967296) (w : World) :
    Calls Try.prog 180 #[.int .u32 x, .int .i64 (-(c : Int))] w fun e w' => e = .returned (.int .u32 ((rotr x c : Nat) : Int)) ∧ w = w' := by
  have hb : bits BinOp.and .u64 (IntKind.u64.wrap (-(c : Int))) 31 = 32 - c := by
    have : ∀ c : Fin 32, 0 < c.val → bits BinOp.and .u64 (IntKind.u64.wrap (-(c.val : Int))) 31 = 32 - c.val := by decide +kernel
    exact this ⟨c, hc2⟩ hc
  go_enter Try.func180, Try.ntmps180
  go_wp2
  go_ret
  refine ⟨ret_int ?_, rfl⟩
  have e1 : ((x : Int) * 2 ^ (32 - c) % 4294967296) = ((x * 2 ^ (32 - c) % 4294967296 : Nat) : Int) := by rw [Int.natCast_emod, Int.natCast_mul, Int.natCast_pow]; rfl
  have e2 : ((x : Int) / 2 ^ (32 - (32 - c))) = ((x / 2 ^ c : Nat) : Int) := by rw [show 32 - (32 - c) = c by omega]; norm_cast
  rw [e1, e2, bits_or_u32 _ _ (Nat.mod_lt _ (by decide)) (Nat.lt_of_le_of_lt (Nat.div_le_self _ _) hx)]
  rfl
set_option maxRecDepth 100000 in
set_option maxHeartbeats 1000000 in
theorem three_sha (x a b c : Nat) (sh : Bool) (ha : 0 < a ∧ a < 32) (hb : 0 < b ∧ b < 32) (hc : 0 < c ∧ c < 32) (hx : x < 4294967296) (w : World) :
    Calls Try.prog 172 #[.int .u32 x, .int .i64 a, .int .i64 b, .int .i64 c, .bool sh] w fun e w' => e = .returned (.int .u32 ((threeS x a b c sh : Nat) : Int)) ∧ w = w' := by
  go_enter Try.func172, Try.ntmps172
  obtain ⟨ha1, ha2⟩ := ha
  obtain ⟨hb1, hb2⟩ := hb
  obtain ⟨hc1, hc2⟩ := hc
  cases sh
  · go_wp2_with (go_at_call 180; refine (rot_u32 x _ (by omega) (by omega) hx _).mono ?_; rintro e w' ⟨rfl, rfl⟩)
    go_ret
    refine ⟨ret_int ?_, rfl⟩
    have ra := rotr_lt x a hx
    have rb := rotr_lt x b hx
    have rc := rotr_lt x c hx
    have rd : x / 2 ^ c < 4294967296 := Nat.lt_of_le_of_lt (Nat.div_le_self _ _) hx
    have e2 : ((x : Int) / 2 ^ c) = ((x / 2 ^ c : Nat) : Int) := by norm_cast
    have hxx : rotr x a ^^^ rotr x b < 4294967296 := Nat.xor_lt_two_pow (n := 32) ra rb
    rw [bits_xor_u32 _ _ ra rb, bits_xor_u32 _ _ hxx rc]
    rfl
  · go_wp2_with (go_at_call 180; refine (rot_u32 x _ (by omega) (by omega) hx _).mono ?_; rintro e w' ⟨rfl, rfl⟩)
    go_ret
    refine ⟨ret_int ?_, rfl⟩
    have ra := rotr_lt x a hx
    have rb := rotr_lt x b hx
    have rc := rotr_lt x c hx
    have rd : x / 2 ^ c < 4294967296 := Nat.lt_of_le_of_lt (Nat.div_le_self _ _) hx
    have e2 : ((x : Int) / 2 ^ c) = ((x / 2 ^ c : Nat) : Int) := by norm_cast
    have hxx : rotr x a ^^^ rotr x b < 4294967296 := Nat.xor_lt_two_pow (n := 32) ra rb
    rw [e2, bits_xor_u32 _ _ ra rb, bits_xor_u32 _ _ hxx rd]
    rfl
end Go.Proofs.Ytaopiefbejajkaa
