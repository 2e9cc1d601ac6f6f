/- Sums (chapter 2), as numbers: what package sha computes. No program in sight. Contracts of package sha: words turned. The model's operations on package sha's arrays and struct, at this program's numbers. Contracts of package sha: a block stirred in. The words of a block and the sum's own, stored. A struct stored over one, at the operation; results of two, the first a struct. Whatever the program. Bytes in memory that one slice has for its own, appended to from whatever source. -/
import Derived.Test.YtlkojkjeklblkaaGreatData
import Derived.Test.YtlkojkjeklblkaaGreatNumB
import Derived.BigQuiet
import Derived.Deep.AppendLies
import Derived.Deep.Onto
import Derived.Deep.QuietTactic
import Derived.Deep.RegionHeld3
import Derived.Deep.RegionLaw
import Derived.Deep.RegionWith
import Derived.Laws.Rows
import Derived.StillTailTactics
import Derived.Test.YtlkojkjeklblkaaGreatLaws
import Derived.Deep.AppendSrc
set_option linter.unusedSimpArgs false
set_option linter.unusedVariables false
namespace Go.Proofs.YtlkojkjeklblkaaGreat
def rotr (x n : Nat) : Nat := (x * 2 ^ (32 - n) % 4294967296) ||| (x / 2 ^ n)
def threeS (x a b c : Nat) (shift : Bool) : Nat := rotr x a ^^^ rotr x b ^^^ (if shift then x / 2 ^ c else rotr x c)
def shaK : List Nat := [
    0x428A2F98, 0x71374491, 0xB5C0FBCF, 0xE9B5DBA5,
    0x3956C25B, 0x59F111F1, 0x923F82A4, 0xAB1C5ED5,
    0xD807AA98, 0x12835B01, 0x243185BE, 0x550C7DC3,
    0x72BE5D74, 0x80DEB1FE, 0x9BDC06A7, 0xC19BF174,
    0xE49B69C1, 0xEFBE4786, 0x0FC19DC6, 0x240CA1CC,
    0x2DE92C6F, 0x4A7484AA, 0x5CB0A9DC, 0x76F988DA,
    0x983E5152, 0xA831C66D, 0xB00327C8, 0xBF597FC7,
    0xC6E00BF3, 0xD5A79147, 0x06CA6351, 0x14292967,
    0x27B70A85, 0x2E1B2138, 0x4D2C6DFC, 0x53380D13,
    0x650A7354, 0x766A0ABB, 0x81C2C92E, 0x92722C85,
    0xA2BFE8A1, 0xA81A664B, 0xC24B8B70, 0xC76C51A3,
    0xD192E819, 0xD6990624, 0xF40E3585, 0x106AA070,
    0x19A4C116, 0x1E376C08, 0x2748774C, 0x34B0BCB5,
    0x391C0CB3, 0x4ED8AA4A, 0x5B9CCA4F, 0x682E6FF3,
    0x748F82EE, 0x78A5636F, 0x84C87814, 0x8CC70208,
    0x90BEFFFA, 0xA4506CEB, 0xBEF9A3F7, 0xC67178F2]

/-- Eight words. -/
structure St where
  (a b c d e f g h : Nat)
  deriving DecidableEq
def upS (s : St) (k w : Nat) : Nat := ((((s.h + threeS s.e 6 11 25 false) % 4294967296 + (s.g ^^^ (s.e &&& (s.f ^^^ s.g)))) % 4294967296 + k) % 4294967296 + w) % 4294967296
def downS (s : St) : Nat := (threeS s.a 2 13 22 false + ((s.a &&& s.b) ||| (s.c &&& (s.a ||| s.b)))) % 4294967296
def St.step (s : St) (k w : Nat) : St := ⟨(upS s k w + downS s) % 4294967296, s.a, s.b, s.c, (s.d + upS s k w) % 4294967296, s.e, s.f, s.g⟩
def nextV (w0 w1 w9 w14 : Nat) : Nat := (((w0 + threeS w1 7 18 3 true) % 4294967296 + w9) % 4294967296 + threeS w14 17 19 10 true) % 4294967296
def nextW (l : List Nat) : Nat :=
  match l with
  | w0 :: w1 :: _ :: _ :: _ :: _ :: _ :: _ :: _ :: w9 :: _ :: _ :: _ :: _ :: w14 :: _ => nextV w0 w1 w9 w14
  | _ => 0
def roundStep (p : List Nat × St) (k : Nat) : List Nat × St := (p.1.tail ++ [nextW p.1], p.2.step k (p.1.headD 0))
def roundsS (ks l : List Nat) (s : St) : St := (ks.foldl roundStep (l, s)).2
def St.add (s t : St) : St := ⟨(s.a + t.a) % 4294967296, (s.b + t.b) % 4294967296, (s.c + t.c) % 4294967296, (s.d + t.d) % 4294967296, (s.e + t.e) % 4294967296, (s.f + t.f) % 4294967296, (s.g + t.g) % 4294967296, (s.h + t.h) % 4294967296⟩
def compressS (s : St) (ws : List Nat) : St := s.add (roundsS shaK ws s)
def ivS : St := ⟨0x6A09E667, 0xBB67AE85, 0x3C6EF372, 0xA54FF53A, 0x510E527F, 0x9B05688C, 0x1F83D9AB, 0x5BE0CD19⟩
/-- The n-th window of sixteen words. -/
def win (ws : List Nat) : Nat → List Nat
  | 0 => ws
  | n + 1 => (win ws n).tail ++ [nextW (win ws n)]
def wordS (ws : List Nat) (n : Nat) : Nat := (win ws n).headD 0
theorem win_length {ws : List Nat} (h : ws.length = 16) : ∀ n, (win ws n).length = 16
  | 0 => h
  | n + 1 => by simp [win, win_length h n]
theorem win_shift {ws : List Nat} (h : ws.length = 16) (n k : Nat) (hk : k < 15) : (win ws (n + 1)).getD k 0 = (win ws n).getD (k + 1) 0 := by
  have := win_length h n
  simp only [win, List.getD, List.getElem?_append, List.length_tail, this]
  rw [if_pos (by omega)]
  simp
theorem win_word {ws : List Nat} (h : ws.length = 16) : ∀ k, k < 16 → ∀ n, (win ws n).getD k 0 = wordS ws (n + k)
  | 0, _, n => by
    have := win_length h n
    unfold wordS
    rw [Nat.add_zero]
    cases hw : win ws n <;> simp
  | k + 1, hk, n => by
    rw [← win_shift h n k (by omega), win_word h k (by omega) (n + 1)]
    congr 1; omega
theorem nextW_eq {l : List Nat} (h : l.length = 16) : nextW l = nextV (l.getD 0 0) (l.getD 1 0) (l.getD 9 0) (l.getD 14 0) := by
  match l, h with
  | [_, _, _, _, _, _, _, _, _, _, _, _, _, _, _, _], _ => rfl
theorem wordS_next {ws : List Nat} (h : ws.length = 16) (n : Nat) : wordS ws (n + 16) = nextV (wordS ws n) (wordS ws (n + 1)) (wordS ws (n + 9)) (wordS ws (n + 14)) := by
  have h1 : wordS ws (n + 16) = (win ws (n + 1)).getD 15 0 := by rw [win_word h 15 (by omega)]; 
  rw [h1]
  have hl := win_length h n
  have h2 : (win ws (n + 1)).getD 15 0 = nextW (win ws n) := by
    simp only [win, List.getD, List.getElem?_append, List.length_tail, hl]; simp
  rw [h2, nextW_eq hl, win_word h 0 (by omega), win_word h 1 (by omega), win_word h 9 (by omega), win_word h 14 (by omega)]
  rfl
theorem wordS_low {ws : List Nat} (h : ws.length = 16) (n : Nat) (hn : n < 16) : wordS ws n = ws.getD n 0 := by
  have := win_word h n hn 0
  rw [Nat.zero_add] at this
  rw [← this]; rfl
/-- The state behind n rounds. -/
def stN (ws : List Nat) (s : St) : Nat → St
  | 0 => s
  | n + 1 => (stN ws s n).step (shaK.getD n 0) (wordS ws n)
theorem stN_succ (ws : List Nat) (s : St) (n : Nat) : stN ws s (n + 1) = (stN ws s n).step (shaK.getD n 0) (wordS ws n) := rfl
theorem win_succ (ws : List Nat) (n : Nat) : win ws (n + 1) = (win ws n).tail ++ [nextW (win ws n)] := rfl
theorem win_zero (ws : List Nat) : win ws 0 = ws := rfl
theorem stN_zero (ws : List Nat) (s : St) : stN ws s 0 = s := rfl
theorem roundsS_eq (ws : List Nat) (s : St) (ks : List Nat) : ∀ n, shaK.drop n = ks → ks.foldl roundStep (win ws n, stN ws s n) = (win ws (n + ks.length), stN ws s (n + ks.length)) := by
  induction ks with
  | nil => intro n _; rfl
  | cons k ks ih =>
    intro n h
    have hk : shaK.getD n 0 = k := by
      have : (shaK.drop n)[0]? = some k := by rw [h]; rfl
      rw [List.getElem?_drop, Nat.add_zero] at this
      simp only [List.getD, this, Option.getD_some]
    have hd : shaK.drop (n + 1) = ks := by rw [← List.drop_drop, h, List.drop_succ_cons, List.drop_zero]
    have h2 := ih (n + 1) hd
    rw [List.length_cons, show n + (ks.length + 1) = n + 1 + ks.length by omega, ← h2, List.foldl_cons, stN_succ, win_succ, hk, wordS]
    rfl
theorem shaK_length : shaK.length = 64 := by decide
theorem compressS_eq (ws : List Nat) (s : St) : compressS s ws = s.add (stN ws s 64) := by
  have h := roundsS_eq ws s shaK 0 List.drop_zero
  rw [shaK_length, Nat.zero_add] at h
  rw [win_zero, stN_zero] at h
  unfold compressS roundsS
  rw [h]
end Go.Proofs.YtlkojkjeklblkaaGreat
namespace Go.Proofs.YtlkojkjeklblkaaGreat
open Go.RowKit
theorem wrap_u32 (n : Nat) : IntKind.u32.wrap (n : Int) = ((n % 4294967296 : Nat) : Int) := by simp [IntKind.wrap, IntKind.bits, IntKind.signed]
theorem wraps_u32 (n : Int) (h₀ : 0 ≤ n) (h₁ : n < 2 ^ 32) : IntKind.u32.wrap n = n := by
  obtain ⟨m, rfl⟩ := Int.eq_ofNat_of_zero_le h₀
  rw [wrap_u32]; omega
theorem bits_or_u32 (a b : Nat) (ha : a < 4294967296) (hb : b < 4294967296) : bits .or .u32 (a : Int) (b : Int) = ((a ||| b : Nat) : Int) := (bits_nat .u32 32 (by decide) wraps_u32 a b ha hb).2
theorem bits_and_u32 (a b : Nat) (ha : a < 4294967296) (hb : b < 4294967296) : bits .and .u32 (a : Int) (b : Int) = ((a &&& b : Nat) : Int) := (bits_nat .u32 32 (by decide) wraps_u32 a b ha hb).1
theorem bits_xor_u32 (a b : Nat) (ha : a < 4294967296) (hb : b < 4294967296) : bits .xor .u32 (a : Int) (b : Int) = ((a ^^^ b : Nat) : Int) := by
  have ha' : a % 2 ^ 32 = a := Nat.mod_eq_of_lt ha
  have hb' : b % 2 ^ 32 = b := Nat.mod_eq_of_lt hb
  have hx : a ^^^ b < 2 ^ 32 := Nat.xor_lt_two_pow ha hb
  show IntKind.u32.wrap (((BitVec.ofInt 32 (a : Int)) ^^^ (BitVec.ofInt 32 (b : Int))).toNat : Int) = _
  rw [BitVec.ofInt_natCast, BitVec.ofInt_natCast, BitVec.toNat_xor, BitVec.toNat_ofNat, BitVec.toNat_ofNat, ha', hb']
  exact wraps_u32 _ (Int.natCast_nonneg _) (by exact_mod_cast hx)
theorem rotr_lt (x n : Nat) (hx : x < 4294967296) : rotr x n < 4294967296 :=
  Nat.or_lt_two_pow (n := 32) (Nat.mod_lt _ (by decide)) (Nat.lt_of_le_of_lt (Nat.div_le_self _ _) hx)
theorem threeS_lt (x a b c : Nat) (s : Bool) (hx : x < 4294967296) : threeS x a b c s < 4294967296 := by
  unfold threeS
  refine Nat.xor_lt_two_pow (n := 32) (Nat.xor_lt_two_pow (rotr_lt _ _ hx) (rotr_lt _ _ hx)) ?_
  cases s
  · exact rotr_lt _ _ hx
  · exact Nat.lt_of_le_of_lt (Nat.div_le_self _ _) hx
set_option maxRecDepth 100000 in
set_option maxHeartbeats 1000000 in
theorem rot_u32 (x c : Nat) (hc : 0 < c) (hc2 : c < 32) (hx : x < 4294967296) (w : World) :
    Calls Tryz.prog 234 #[.int .u32 x, .int .i64 (-(c : Int))] w fun e w' => e = .returned (.int .u32 ((rotr x c : Nat) : Int)) ∧ w = w' := by
  have hb : bits BinOp.and .u64 (IntKind.u64.wrap (-(c : Int))) 31 = 32 - c := by
    have : ∀ c : Fin 32, 0 < c.val → bits BinOp.and .u64 (IntKind.u64.wrap (-(c.val : Int))) 31 = 32 - c.val := by decide +kernel
    exact this ⟨c, hc2⟩ hc
  go_enter Tryz.func234, Tryz.ntmps234
  go_wp2
  go_ret
  refine ⟨ret_int ?_, rfl⟩
  have e1 : ((x : Int) * 2 ^ (32 - c) % 4294967296) = ((x * 2 ^ (32 - c) % 4294967296 : Nat) : Int) := by rw [Int.natCast_emod, Int.natCast_mul, Int.natCast_pow]; rfl
  have e2 : ((x : Int) / 2 ^ (32 - (32 - c))) = ((x / 2 ^ c : Nat) : Int) := by rw [show 32 - (32 - c) = c by omega]; norm_cast
  rw [e1, e2, bits_or_u32 _ _ (Nat.mod_lt _ (by decide)) (Nat.lt_of_le_of_lt (Nat.div_le_self _ _) hx)]
  rfl
set_option maxRecDepth 100000 in
set_option maxHeartbeats 1000000 in
theorem three_sha (x a b c : Nat) (sh : Bool) (ha : 0 < a ∧ a < 32) (hb : 0 < b ∧ b < 32) (hc : 0 < c ∧ c < 32) (hx : x < 4294967296) (w : World) :
    Calls Tryz.prog 233 #[.int .u32 x, .int .i64 a, .int .i64 b, .int .i64 c, .bool sh] w fun e w' => e = .returned (.int .u32 ((threeS x a b c sh : Nat) : Int)) ∧ w = w' := by
  go_enter Tryz.func233, Tryz.ntmps233
  obtain ⟨ha1, ha2⟩ := ha
  obtain ⟨hb1, hb2⟩ := hb
  obtain ⟨hc1, hc2⟩ := hc
  cases sh
  · go_wp2_with (go_at_call 234; refine (rot_u32 x _ (by omega) (by omega) hx _).mono ?_; rintro e w' ⟨rfl, rfl⟩)
    go_ret
    refine ⟨ret_int ?_, rfl⟩
    have ra := rotr_lt x a hx
    have rb := rotr_lt x b hx
    have rc := rotr_lt x c hx
    have rd : x / 2 ^ c < 4294967296 := Nat.lt_of_le_of_lt (Nat.div_le_self _ _) hx
    have e2 : ((x : Int) / 2 ^ c) = ((x / 2 ^ c : Nat) : Int) := by norm_cast
    have hxx : rotr x a ^^^ rotr x b < 4294967296 := Nat.xor_lt_two_pow (n := 32) ra rb
    rw [bits_xor_u32 _ _ ra rb, bits_xor_u32 _ _ hxx rc]
    rfl
  · go_wp2_with (go_at_call 234; refine (rot_u32 x _ (by omega) (by omega) hx _).mono ?_; rintro e w' ⟨rfl, rfl⟩)
    go_ret
    refine ⟨ret_int ?_, rfl⟩
    have ra := rotr_lt x a hx
    have rb := rotr_lt x b hx
    have rc := rotr_lt x c hx
    have rd : x / 2 ^ c < 4294967296 := Nat.lt_of_le_of_lt (Nat.div_le_self _ _) hx
    have e2 : ((x : Int) / 2 ^ c) = ((x / 2 ^ c : Nat) : Int) := by norm_cast
    have hxx : rotr x a ^^^ rotr x b < 4294967296 := Nat.xor_lt_two_pow (n := 32) ra rb
    rw [e2, bits_xor_u32 _ _ ra rb, bits_xor_u32 _ _ hxx rd]
    rfl
end Go.Proofs.YtlkojkjeklblkaaGreat
namespace Go.Proofs.YtlkojkjeklblkaaGreat
open Go.RowKit
def w32 (n : Nat) : Value := .int .u32 n
/-- Sixty-four words. -/
structure W64 where
  l : List Nat
  len : l.length = 64
def W64.arr (x : W64) : Array Value := (x.l.map w32).toArray
@[simp] theorem W64.size_arr (x : W64) : x.arr.size = 64 := by simp [W64.arr, x.len]
@[simp] theorem W64.length_arr (x : W64) : x.arr.toList.length = 64 := by simp [W64.arr, x.len]
def W64.zero : W64 := ⟨List.replicate 64 0, by simp⟩
def W64.roots : W64 := ⟨shaK, shaK_length⟩
theorem one_W64 (x : W64) : ∀ v ∈ x.arr.toList, v.oneCell' = true := by
  intro v hv; simp [W64.arr] at hv; obtain ⟨b, _, rfl⟩ := hv; rfl
@[simp] theorem W64.ext_all (x : W64) : x.arr.extract 0 64 = x.arr := by rw [show 64 = x.arr.size by simp]; exact Array.extract_size
theorem zero_W64 : (Tryz.prog.info? 309).map (·.zero) = some (some (.agg W64.zero.arr)) := by kernel_rfl
theorem size_W64 : (Tryz.prog.info? 309).map (·.size) = some 64 := by kernel_rfl
@[go_sem ↓] theorem execOp_alloc_W64 (ρ : Operand → Value) (dst : Option Tmp) (ty : TypeId) (pos : String) (after : Array Edge) (guard : Option (Nat × Bool)) : execOp ρ { dst := dst, op := .alloc 309, type := ty, pos := pos, after := after, guard := guard } = (do pure (.value (← allocS 309))) := rfl
@[go_sem] theorem alloc_W64 (w : World) : (allocS 309).run Tryz.prog w = .ok (.pointer (some ⟨w.heap.size, 0, none⟩)) (w.alloc (.cells W64.zero.arr 309)) := run_alloc zero_W64 _ w
@[go_sem ↓] theorem execOp_store_W64 (x v : Operand) (ρ : Operand → Value) (dst : Option Tmp) (ty : TypeId) (pos : String) (after : Array Edge) (guard : Option (Nat × Bool)) : execOp ρ { dst := dst, op := .store 309 x v, type := ty, pos := pos, after := after, guard := guard } = (do storeS 309 (ρ x) (ρ v); pure .skip) := rfl
@[go_sem] theorem stores_W64 (b off : Nat) (y : W64) (w : World) (h : (row? w ⟨b, off, none⟩ 64).isSome = true) (hf : rowFree w ⟨b, off, none⟩ 64) : (storeS 309 (.pointer (some ⟨b, off, none⟩)) (.agg y.arr)).run Tryz.prog w = .ok () (putRow w ⟨b, off, none⟩ y.arr) := aggStore_row size_W64 b off y.arr (by simp) (one_W64 y) w h hf
@[go_sem] theorem put_W64 (w : World) (m : Nat) (hm : m = w.heap.size) (x y : W64) (t : TypeId) (fr : Nat × Nat) : putRow (w.alloc (.cells x.arr t fr)) ⟨m, 0, none⟩ y.arr = w.alloc (.cells y.arr t fr) := putRow_alloc w m 0 hm _ t fr [] x.arr.toList [] _ _ (by simp) rfl (by simp) (by simp)
@[go_sem ↓] theorem execOp_build_W64 (parts : Array (Nat × Operand)) (ρ : Operand → Value) (dst : Option Tmp) (ty : TypeId) (pos : String) (after : Array Edge) (guard : Option (Nat × Bool)) : execOp ρ { dst := dst, op := .build 309 parts, type := ty, pos := pos, after := after, guard := guard } = (do pure (.value (← buildS 309 (parts.map fun p => (p.1, ρ p.2))))) := rfl
@[go_sem] theorem build_W64_nil (w : World) : (buildS 309 #[]).run Tryz.prog w = .ok (.agg W64.zero.arr) w := by kernel_rfl
@[go_sem] theorem build_W64_roots (w : World) : (buildS 309 #[(0, .int .u32 1116352408), (1, .int .u32 1899447441), (2, .int .u32 3049323471), (3, .int .u32 3921009573), (4, .int .u32 961987163), (5, .int .u32 1508970993), (6, .int .u32 2453635748), (7, .int .u32 2870763221), (8, .int .u32 3624381080), (9, .int .u32 310598401), (10, .int .u32 607225278), (11, .int .u32 1426881987), (12, .int .u32 1925078388), (13, .int .u32 2162078206), (14, .int .u32 2614888103), (15, .int .u32 3248222580), (16, .int .u32 3835390401), (17, .int .u32 4022224774), (18, .int .u32 264347078), (19, .int .u32 604807628), (20, .int .u32 770255983), (21, .int .u32 1249150122), (22, .int .u32 1555081692), (23, .int .u32 1996064986), (24, .int .u32 2554220882), (25, .int .u32 2821834349), (26, .int .u32 2952996808), (27, .int .u32 3210313671), (28, .int .u32 3336571891), (29, .int .u32 3584528711), (30, .int .u32 113926993), (31, .int .u32 338241895), (32, .int .u32 666307205), (33, .int .u32 773529912), (34, .int .u32 1294757372), (35, .int .u32 1396182291), (36, .int .u32 1695183700), (37, .int .u32 1986661051), (38, .int .u32 2177026350), (39, .int .u32 2456956037), (40, .int .u32 2730485921), (41, .int .u32 2820302411), (42, .int .u32 3259730800), (43, .int .u32 3345764771), (44, .int .u32 3516065817), (45, .int .u32 3600352804), (46, .int .u32 4094571909), (47, .int .u32 275423344), (48, .int .u32 430227734), (49, .int .u32 506948616), (50, .int .u32 659060556), (51, .int .u32 883997877), (52, .int .u32 958139571), (53, .int .u32 1322822218), (54, .int .u32 1537002063), (55, .int .u32 1747873779), (56, .int .u32 1955562222), (57, .int .u32 2024104815), (58, .int .u32 2227730452), (59, .int .u32 2361852424), (60, .int .u32 2428436474), (61, .int .u32 2756734187), (62, .int .u32 3204031479), (63, .int .u32 3329325298)]).run Tryz.prog w = .ok (.agg W64.roots.arr) w := by kernel_rfl
set_option maxRecDepth 100000 in
theorem roots_sha (w : World) : Calls Tryz.prog 232 #[] w fun e w' => e = .returned (.agg W64.roots.arr) ∧ Below w.heap.size w w' := by
  have hbase : Below w.heap.size w (w.alloc (.cells W64.roots.arr 309)) := (Below.refl _ _).alloc (Nat.le_refl _) _
  go_enter Tryz.func232, Tryz.ntmps232
  go_wp2
  exact bodyPost_ret (results_cell_row rfl _ _ w.heap.size 309 W64.roots.arr (0, 0) _ rfl (heap_alloc_new w _) Tryz.underlying309 rfl (by rw [size_W64]; rfl)) rfl ⟨rfl, hbase⟩
end Go.Proofs.YtlkojkjeklblkaaGreat
namespace Go.Proofs.YtlkojkjeklblkaaGreat
open Go.RowKit
structure SumV where
  h : St
  w : List Nat
  hv : Nat
  all : Nat
def St.l (s : St) : List Nat := [s.a, s.b, s.c, s.d, s.e, s.f, s.g, s.h]
def SumV.arr (s : SumV) : Array Value := (s.h.l.map w32 ++ (s.w.map w32 ++ [Value.int .i64 s.hv, Value.int .u64 s.all])).toArray
def sumAt (X : World) (p : Nat) (s : SumV) : Prop := X.heap[p]? = some (.cells s.arr 311 (0, 0)) ∧ s.w.length = 64
theorem sumAt.h {X : World} {p : Nat} {s : SumV} (h : sumAt X p s) (k : Nat) (hk : k < 8) : X.cell? ⟨p, k, none⟩ = some (w32 (s.h.l.getD k 0)) := by
  rw [(cells_known h.1).1, SumV.arr]
  have : k < s.h.l.length := hk
  simp [List.getElem?_append, this]
theorem sumAt.wd {X : World} {p : Nat} {s : SumV} (h : sumAt X p s) (k : Nat) (hk : k < 64) : X.cell? ⟨p, 8 + k, none⟩ = some (w32 (s.w.getD k 0)) := by
  rw [(cells_known h.1).1, SumV.arr]
  have h8 : s.h.l.length = 8 := rfl
  have h9 := h.2
  simp [List.getElem?_append, h8, h9, hk]
theorem sumAt.hv {X : World} {p : Nat} {s : SumV} (h : sumAt X p s) : X.cell? ⟨p, 72, none⟩ = some (.int .i64 s.hv) := by
  rw [(cells_known h.1).1, SumV.arr]
  have h8 : s.h.l.length = 8 := rfl
  have h9 := h.2
  simp [List.getElem?_append, h8, h9]
theorem sumAt.all {X : World} {p : Nat} {s : SumV} (h : sumAt X p s) : X.cell? ⟨p, 73, none⟩ = some (.int .u64 s.all) := by
  rw [(cells_known h.1).1, SumV.arr]
  have h8 : s.h.l.length = 8 := rfl
  have h9 := h.2
  simp [List.getElem?_append, h8, h9]
theorem roots_get (i : Nat) (h : i < 64) : W64.roots.arr[i]? = some (.int .u32 (shaK.getD i 0 : Nat)) := by
  have : i < shaK.length := by rw [shaK_length]; exact h
  simp [W64.arr, W64.roots, w32, List.getElem?_eq_getElem this, List.getD]
theorem step_lt {st : St} {k w : Nat} (h : ∀ x ∈ st.l, x < 4294967296) : ∀ x ∈ (st.step k w).l, x < 4294967296 := by
  intro x hx
  simp only [St.l, St.step, List.mem_cons, List.not_mem_nil, or_false] at hx h
  rcases hx with rfl | rfl | rfl | rfl | rfl | rfl | rfl | rfl
  · exact Nat.mod_lt _ (by decide)
  · exact h _ (by simp)
  · exact h _ (by simp)
  · exact h _ (by simp)
  · exact Nat.mod_lt _ (by decide)
  · exact h _ (by simp)
  · exact h _ (by simp)
  · exact h _ (by simp)
theorem stN_lt (ws : List Nat) (s : St) (h : ∀ x ∈ s.l, x < 4294967296) : ∀ n, ∀ x ∈ (stN ws s n).l, x < 4294967296
  | 0 => h
  | n + 1 => step_lt (stN_lt ws s h n)
theorem win_lt (ws : List Nat) (h : ∀ x ∈ ws, x < 4294967296) : ∀ n, ∀ x ∈ win ws n, x < 4294967296
  | 0 => h
  | n + 1 => fun x hx => by
    rw [win_succ, List.mem_append] at hx
    rcases hx with hx | hx
    · exact win_lt ws h n x (List.mem_of_mem_tail hx)
    · rw [List.mem_singleton] at hx
      subst hx
      unfold nextW
      split
      · exact Nat.mod_lt _ (by decide)
      · decide
theorem wordS_lt (ws : List Nat) (h : ∀ x ∈ ws, x < 4294967296) (n : Nat) : wordS ws n < 4294967296 := by
  unfold wordS
  cases hw : win ws n with
  | nil => simp
  | cons x l => exact win_lt ws h n x (by rw [hw]; simp)
section
variable {P : Program} {Q : Exit → Act → World → Prop} {a : Act} {w : World}
theorem wp_scope_goto {c rest : Code} (l : Nat) (J : Act → World → Prop) (μ : Act → World → Nat) (hf : findLabel c l = some (Code.skip.seq rest))
    (pass : ∀ a w, J a w → rest.wp P (Exit.jump l (fun a' w' => J a' w' ∧ μ a' w' < μ a w) Q) a w)
    (first : (∀ a w, J a w → rest.wp P (Exit.jump l J Q) a w) → c.wp P (Exit.jump l J Q) a w) : (Code.scope c).wp P Q a w := by
  refine wp_scope_jumps l J μ hf (first fun a w hJ => ?_) (fun a w hJ => wp_seq (wp_skip (pass a w hJ)))
  refine Code.wp_mono (fun e a' w' h => ?_) (pass a w hJ)
  cases e <;> first | exact h | exact ⟨h.1, h.2.1⟩
end
/-- How the words of the block stand ahead of round i. -/
def memW (ws : List Nat) (i : Nat) : List Nat := (List.range 64).map fun j => if j < max i 16 then wordS ws j else 0
theorem memW_length (ws : List Nat) (i : Nat) : (memW ws i).length = 64 := by simp [memW]
theorem memW_get {ws : List Nat} {i j : Nat} (hj : j < 64) : (memW ws i).getD j 0 = if j < max i 16 then wordS ws j else 0 := by
  simp only [memW, List.getD, List.getElem?_map, List.getElem?_range hj, Option.map_some, Option.getD_some]
theorem memW_get? {ws : List Nat} {i j : Nat} (hj : j < 64) : (memW ws i)[j]? = some (if j < max i 16 then wordS ws j else 0) := by
  simp only [memW, List.getElem?_map, List.getElem?_range hj, Option.map_some]
theorem memW_zero {l : List Nat} (hl : l.length = 64) (hz : l.drop 16 = List.replicate 48 0) : memW (l.take 16) 0 = l := by
  apply List.ext_getElem?
  intro j
  have ht : (l.take 16).length = 16 := by rw [List.length_take, hl]; rfl
  by_cases hj : j < 64
  · have h2 : j < l.length := by omega
    rw [memW_get? hj, List.getElem?_eq_getElem h2]
    split
    · rename_i h
      have h16 : j < 16 := by omega
      rw [wordS_low ht j h16]
      simp [List.getD, h16, h2]
    · rename_i h
      have h16 : 16 ≤ j := by omega
      have : (l.drop 16)[j - 16]? = (List.replicate 48 0)[j - 16]? := by rw [hz]
      rw [List.getElem?_drop, List.getElem?_replicate, if_pos (by omega), show 16 + (j - 16) = j by omega, List.getElem?_eq_getElem h2] at this
      exact this.symm
  · rw [List.getElem?_eq_none (by rw [memW_length]; omega), List.getElem?_eq_none (by omega)]
theorem memW_same {ws : List Nat} {i : Nat} (h : i < 16) : memW ws i = memW ws (i + 1) := by
  unfold memW
  rw [show max i 16 = max (i + 1) 16 by omega]
/-- What holds at the label ahead of round i. -/
def StirAt (w : World) (p q : Nat) (s : SumV) (i : Nat) (st : St) (X : World) : Prop :=
  i < 64 ∧ st = stN (s.w.take 16) s.h i ∧ sumAt X p { s with w := memW (s.w.take 16) i } ∧ Upd w X (fun k => k = p) ∧ w.heap.size ≤ q ∧ X.heap[q]? = some (.cells W64.roots.arr 309 (0, 0))
set_option maxRecDepth 100000 in
def StirJ (w : World) (p : Nat) (s : SumV) (a : Act) (X : World) : Prop :=
  ∃ (u : Nat → Value) (q i : Nat) (st : St), a = ⟨#[.pointer (some ⟨p, 0, none⟩), u 1, .pointer (some ⟨q, 0, none⟩), .int .u32 (st.a : Nat), .int .u32 (st.b : Nat), .int .u32 (st.c : Nat), .int .u32 (st.d : Nat), .int .u32 (st.e : Nat), .int .u32 (st.f : Nat), .int .u32 (st.g : Nat), .int .u32 (st.h : Nat), .int .i64 (i : Int), u 12, u 13, u 14, u 15, u 16, u 17, u 18, u 19, u 20, u 21, u 22, u 23, u 24, u 25, u 26, u 27, u 28, u 29, u 30, u 31, u 32, u 33, u 34, u 35, u 36, u 37, u 38, u 39, u 40, u 41, u 42, u 43, u 44, u 45, u 46, u 47, u 48, u 49, u 50, u 51, u 52, u 53, u 54, u 55, u 56, u 57, u 58, u 59, u 60, u 61, u 62, u 63, u 64, u 65, u 66, u 67, u 68, u 69, u 70, u 71, u 72, u 73, u 74, u 75, u 76, u 77, u 78, u 79, u 80, u 81, u 82, u 83, u 84, u 85, u 86, u 87, u 88, u 89, u 90, u 91, u 92, u 93, u 94, u 95, u 96, u 97, u 98, u 99, u 100, u 101, u 102, u 103, u 104, u 105, u 106, u 107, u 108, u 109, u 110, u 111, u 112, u 113, u 114, u 115, u 116, u 117, u 118, u 119, u 120, u 121, u 122, u 123, u 124, u 125, u 126, u 127, u 128, u 129, u 130, u 131, u 132, u 133, u 134, u 135, u 136, u 137, u 138, u 139, u 140, u 141, u 142, u 143, u 144, u 145, u 146, u 147, u 148, u 149, u 150, u 151, u 152, u 153, u 154, u 155, u 156, u 157, u 158, u 159, u 160, u 161, u 162, u 163, u 164, u 165, u 166, u 167, u 168, u 169, u 170, u 171, u 172, u 173, u 174, u 175, u 176, u 177, u 178, u 179, u 180, u 181], []⟩ ∧ StirAt w p q s i st X
set_option maxRecDepth 100000 in
theorem StirJ.intro {w X : World} {p : Nat} {s : SumV} {l : Array Value} (q i : Nat) (st : St) (he : (⟨l, []⟩ : Act) = ⟨#[.pointer (some ⟨p, 0, none⟩), l.getD 1 undef, .pointer (some ⟨q, 0, none⟩), .int .u32 (st.a : Nat), .int .u32 (st.b : Nat), .int .u32 (st.c : Nat), .int .u32 (st.d : Nat), .int .u32 (st.e : Nat), .int .u32 (st.f : Nat), .int .u32 (st.g : Nat), .int .u32 (st.h : Nat), .int .i64 (i : Int), l.getD 12 undef, l.getD 13 undef, l.getD 14 undef, l.getD 15 undef, l.getD 16 undef, l.getD 17 undef, l.getD 18 undef, l.getD 19 undef, l.getD 20 undef, l.getD 21 undef, l.getD 22 undef, l.getD 23 undef, l.getD 24 undef, l.getD 25 undef, l.getD 26 undef, l.getD 27 undef, l.getD 28 undef, l.getD 29 undef, l.getD 30 undef, l.getD 31 undef, l.getD 32 undef, l.getD 33 undef, l.getD 34 undef, l.getD 35 undef, l.getD 36 undef, l.getD 37 undef, l.getD 38 undef, l.getD 39 undef, l.getD 40 undef, l.getD 41 undef, l.getD 42 undef, l.getD 43 undef, l.getD 44 undef, l.getD 45 undef, l.getD 46 undef, l.getD 47 undef, l.getD 48 undef, l.getD 49 undef, l.getD 50 undef, l.getD 51 undef, l.getD 52 undef, l.getD 53 undef, l.getD 54 undef, l.getD 55 undef, l.getD 56 undef, l.getD 57 undef, l.getD 58 undef, l.getD 59 undef, l.getD 60 undef, l.getD 61 undef, l.getD 62 undef, l.getD 63 undef, l.getD 64 undef, l.getD 65 undef, l.getD 66 undef, l.getD 67 undef, l.getD 68 undef, l.getD 69 undef, l.getD 70 undef, l.getD 71 undef, l.getD 72 undef, l.getD 73 undef, l.getD 74 undef, l.getD 75 undef, l.getD 76 undef, l.getD 77 undef, l.getD 78 undef, l.getD 79 undef, l.getD 80 undef, l.getD 81 undef, l.getD 82 undef, l.getD 83 undef, l.getD 84 undef, l.getD 85 undef, l.getD 86 undef, l.getD 87 undef, l.getD 88 undef, l.getD 89 undef, l.getD 90 undef, l.getD 91 undef, l.getD 92 undef, l.getD 93 undef, l.getD 94 undef, l.getD 95 undef, l.getD 96 undef, l.getD 97 undef, l.getD 98 undef, l.getD 99 undef, l.getD 100 undef, l.getD 101 undef, l.getD 102 undef, l.getD 103 undef, l.getD 104 undef, l.getD 105 undef, l.getD 106 undef, l.getD 107 undef, l.getD 108 undef, l.getD 109 undef, l.getD 110 undef, l.getD 111 undef, l.getD 112 undef, l.getD 113 undef, l.getD 114 undef, l.getD 115 undef, l.getD 116 undef, l.getD 117 undef, l.getD 118 undef, l.getD 119 undef, l.getD 120 undef, l.getD 121 undef, l.getD 122 undef, l.getD 123 undef, l.getD 124 undef, l.getD 125 undef, l.getD 126 undef, l.getD 127 undef, l.getD 128 undef, l.getD 129 undef, l.getD 130 undef, l.getD 131 undef, l.getD 132 undef, l.getD 133 undef, l.getD 134 undef, l.getD 135 undef, l.getD 136 undef, l.getD 137 undef, l.getD 138 undef, l.getD 139 undef, l.getD 140 undef, l.getD 141 undef, l.getD 142 undef, l.getD 143 undef, l.getD 144 undef, l.getD 145 undef, l.getD 146 undef, l.getD 147 undef, l.getD 148 undef, l.getD 149 undef, l.getD 150 undef, l.getD 151 undef, l.getD 152 undef, l.getD 153 undef, l.getD 154 undef, l.getD 155 undef, l.getD 156 undef, l.getD 157 undef, l.getD 158 undef, l.getD 159 undef, l.getD 160 undef, l.getD 161 undef, l.getD 162 undef, l.getD 163 undef, l.getD 164 undef, l.getD 165 undef, l.getD 166 undef, l.getD 167 undef, l.getD 168 undef, l.getD 169 undef, l.getD 170 undef, l.getD 171 undef, l.getD 172 undef, l.getD 173 undef, l.getD 174 undef, l.getD 175 undef, l.getD 176 undef, l.getD 177 undef, l.getD 178 undef, l.getD 179 undef, l.getD 180 undef, l.getD 181 undef], []⟩) (hS : StirAt w p q s i st X) : StirJ w p s ⟨l, []⟩ X := ⟨fun k => l.getD k undef, q, i, st, he, hS⟩
theorem SumV.set_w (s : SumV) (hl : s.w.length = 64) (i x : Nat) (hi : i < 64) : s.arr.setIfInBounds (8 + i) (.int .u32 (x : Nat)) = ({ s with w := s.w.set i x } : SumV).arr := by
  have h8 : (s.h.l.map w32).length = 8 := rfl
  have hw : i < (s.w.map w32).length := by simp [hl, hi]
  simp only [SumV.arr, List.setIfInBounds_toArray]
  rw [List.set_append, if_neg (by omega), h8, Nat.add_sub_cancel_left, List.set_append, if_pos hw]
  simp [List.map_set, w32]
theorem memW_next {ws : List Nat} {i : Nat} (h : 16 ≤ i) (hi : i < 64) : memW ws (i + 1) = (memW ws i).set i (wordS ws i) := by
  apply List.ext_getElem?
  intro j
  by_cases hj : j < 64
  · rw [memW_get? hj, List.getElem?_set, memW_get? hj, memW_length]
    by_cases e : i = j
    · subst e; rw [if_pos rfl, if_pos hi, if_pos (by omega)]
    · rw [if_neg e]
      by_cases hjj : j < max (i + 1) 16
      · rw [if_pos hjj, if_pos (by omega)]
      · rw [if_neg hjj, if_neg (by omega)]
  · rw [List.getElem?_eq_none (by rw [memW_length]; omega), List.getElem?_eq_none (by rw [List.length_set, memW_length]; omega)]
/-- The state while the words are added: the first k are. -/
def mixH (a b : St) (k : Nat) : St :=
  ⟨if 0 < k then (a.a + b.a) % 4294967296 else a.a, if 1 < k then (a.b + b.b) % 4294967296 else a.b, if 2 < k then (a.c + b.c) % 4294967296 else a.c, if 3 < k then (a.d + b.d) % 4294967296 else a.d,
   if 4 < k then (a.e + b.e) % 4294967296 else a.e, if 5 < k then (a.f + b.f) % 4294967296 else a.f, if 6 < k then (a.g + b.g) % 4294967296 else a.g, if 7 < k then (a.h + b.h) % 4294967296 else a.h⟩
theorem mixH_zero (a b : St) : mixH a b 0 = a := rfl
theorem mixH_all (a b : St) : mixH a b 8 = a.add b := rfl
theorem mixH_get (a b : St) (k : Nat) (hk : k < 8) : (mixH a b k).l.getD k 0 = a.l.getD k 0 := by
  match k, hk with
  | 0, _ | 1, _ | 2, _ | 3, _ | 4, _ | 5, _ | 6, _ | 7, _ => rfl
theorem mixH_set (s : SumV) (a b : St) (k : Nat) (hk : k < 8) : ({ s with h := mixH a b k } : SumV).arr.setIfInBounds k (.int .u32 ((a.l.getD k 0 + b.l.getD k 0) % 4294967296 : Nat)) = ({ s with h := mixH a b (k + 1) } : SumV).arr := by
  match k, hk with
  | 0, _ | 1, _ | 2, _ | 3, _ | 4, _ | 5, _ | 6, _ | 7, _ => rfl
theorem three_shaR (x a b c : Nat) (sh : Bool) (r : Nat) (hr : r = threeS x a b c sh) (ha : 0 < a ∧ a < 32) (hb : 0 < b ∧ b < 32) (hc : 0 < c ∧ c < 32) (hx : x < 4294967296) (w : World) :
    Calls Tryz.prog 233 #[.int .u32 x, .int .i64 a, .int .i64 b, .int .i64 c, .bool sh] w fun e w' => e = .returned (.int .u32 (r : Nat)) ∧ w = w' := by
  subst hr; exact three_sha x a b c sh ha hb hc hx w
theorem three_w1 (x r : Nat) (hr : r = threeS x 7 18 3 true) (hx : x < 4294967296) (w : World) :
    Calls Tryz.prog 233 #[.int .u32 x, .int .i64 7, .int .i64 18, .int .i64 3, .bool true] w fun e w' => e = .returned (.int .u32 (r : Nat)) ∧ w = w' :=
  three_shaR x 7 18 3 true r hr (by decide) (by decide) (by decide) hx w
theorem three_w2 (x r : Nat) (hr : r = threeS x 17 19 10 true) (hx : x < 4294967296) (w : World) :
    Calls Tryz.prog 233 #[.int .u32 x, .int .i64 17, .int .i64 19, .int .i64 10, .bool true] w fun e w' => e = .returned (.int .u32 (r : Nat)) ∧ w = w' :=
  three_shaR x 17 19 10 true r hr (by decide) (by decide) (by decide) hx w
theorem add32w (a b n : Nat) (h : n = (a + b) % 4294967296) : IntKind.u32.wrap ((a : Int) + (b : Int)) = (n : Int) := by
  subst h; rw [← Int.natCast_add, wrap_u32]
theorem add32 (a b n : Nat) (h : n = (a + b) % 4294967296) : ((a : Int) + (b : Int)) % 4294967296 = (n : Int) := by
  subst h; rw [Int.natCast_emod, Int.natCast_add]; rfl
end Go.Proofs.YtlkojkjeklblkaaGreat
namespace Go.Proofs.YtlkojkjeklblkaaGreat
open Go.RowKit
theorem Upd.setCell_drew (X : World) (p o : Nat) (v : Value) : Upd X (X.setCell ⟨p, o, none⟩ v).drew (fun k => k = p) := let h := Upd.setCell X ⟨p, o, none⟩ v; ⟨h.os, h.tape, h.output, h.size, h.block⟩
theorem heap_setCells {t : TypeId} {b : Nat} : ∀ (vs : List Value) (o : Nat) (w : World) (c : Array Value), w.heap[b]? = some (.cells c t (0, 0)) →
    (w.setCells b o vs).heap[b]? = some (.cells ((vs.zipIdx 0).foldl (fun cs (v, j) => cs.setIfInBounds (o + j) v) c) t (0, 0))
  | [], o, w, c, h => h
  | v :: vs, o, w, c, h => by
    have ih := heap_setCells vs (o + 1) (w.setCell ⟨b, o, none⟩ v) _ (heap_set h o v)
    have hz : ∀ (l : List Value) (k : Nat) (c : Array Value), ((l.zipIdx (k + 1)).foldl (fun cs (v, j) => cs.setIfInBounds (o + j) v) c) = ((l.zipIdx k).foldl (fun cs (v, j) => cs.setIfInBounds (o + 1 + j) v) c) := by
      intro l
      induction l with
      | nil => intros; rfl
      | cons x l ih => intro k c; simp only [List.zipIdx_cons, List.foldl_cons]; rw [ih, show o + (k + 1) = o + 1 + k by omega]
    rw [World.setCells, ih]
    simp only [List.zipIdx_cons, List.foldl_cons, Nat.add_zero]
    rw [show (0 : Nat) + 1 = 0 + 1 from rfl, hz]
theorem setCells_upd (b : Nat) : ∀ (vs : List Value) (o : Nat) (w : World), Upd w (w.setCells b o vs) (fun k => k = b)
  | [], o, w => Upd.refl _ _
  | v :: vs, o, w => (Upd.setCell w ⟨b, o, none⟩ v).trans (setCells_upd b vs (o + 1) _) (fun _ _ h => h)
theorem sumAt_row {X : World} {p : Nat} {s : SumV} (h : sumAt X p s) : (row? X ⟨p, 8, none⟩ 64).isSome = true := by
  have h8 : s.h.l.length = 8 := rfl
  have h9 := h.2
  unfold row?
  simp only [h.1]
  rw [if_pos (And.intro trivial (by simp [SumV.arr, h8, h9]))]
  rfl
theorem sumAt_free {X : World} {p : Nat} {s : SumV} (h : sumAt X p s) : rowFree X ⟨p, 8, none⟩ 64 := fun j _ => (cells_known h.1).2.1 _
/-- The block of words zeroed. -/
theorem sumAt_zero {X : World} {p : Nat} {s : SumV} (h : sumAt X p s) : sumAt (putRow X ⟨p, 8, none⟩ W64.zero.arr) p { s with w := List.replicate 64 0 } := by
  refine ⟨?_, by simp⟩
  unfold putRow
  have hh := h.1
  have e := putRow_eq 8 (s.h.l.map w32) (s.w.map w32) [Value.int .i64 s.hv, Value.int .u64 s.all] W64.zero.arr.toList rfl (by simp [h.2])
  have e2 : s.arr = (s.h.l.map w32 ++ (s.w.map w32 ++ [Value.int .i64 s.hv, Value.int .u64 s.all])).toArray := rfl
  rw [e2] at hh
  have := heap_setCells W64.zero.arr.toList 8 X _ hh
  rw [e] at this
  exact this
theorem sumAt_end {X : World} {p : Nat} {s : SumV} (h : sumAt X p s) : sumAt ((putRow X ⟨p, 8, none⟩ W64.zero.arr).setCell ⟨p, 72, none⟩ (.int .i64 0)) p { s with w := List.replicate 64 0, hv := 0 } ∧ Upd X ((putRow X ⟨p, 8, none⟩ W64.zero.arr).setCell ⟨p, 72, none⟩ (.int .i64 0)) (fun k => k = p) := by
  refine ⟨⟨?_, by simp⟩, (setCells_upd p _ 8 X).trans (Upd.setCell _ ⟨p, 72, none⟩ _) (fun _ _ h => h)⟩
  rw [heap_set (sumAt_zero h).1]
  have h8 : (s.h.l.map w32).length = 8 := rfl
  simp [SumV.arr, List.setIfInBounds_toArray, List.set_append, h8]
theorem sumAt_c72 {X : World} {p : Nat} {s : SumV} (h : sumAt X p s) : (putRow X ⟨p, 8, none⟩ W64.zero.arr).cell? ⟨p, 72, none⟩ = some (.int .i64 s.hv) := (sumAt_zero h).hv
theorem sumAt_f72 {X : World} {p : Nat} {s : SumV} (h : sumAt X p s) : (putRow X ⟨p, 8, none⟩ W64.zero.arr).frozen? ⟨p, 72, none⟩ = false := (cells_known (sumAt_zero h).1).2.1 _
/-- The block of words zeroed, at the operation. -/
theorem wpList_zeroW {w : World} {ops : Array Oper} {rest : List Oper} {o : Oper} {a : Act} {Q : Exit → Act → World → Prop} (x v : Operand) (hop : o.op = Op.store 309 x v) (hg : o.guard = none)
    (p : Nat) (s : SumV) (hx : a.eval x = .pointer (some ⟨p, 8, none⟩)) (hv : a.eval v = .agg W64.zero.arr) (h : sumAt w p s)
    (hK : ∀ w', sumAt w' p { s with w := List.replicate 64 0 } → Upd w w' (fun k => k = p) → wpList Tryz.prog ops Q rest (a.put o.dst undef) w') : wpList Tryz.prog ops Q (o :: rest) a w := by
  refine wpList_plain hg fun K' hK' => ?_
  have hrun : (Instr.storeAt 309 (.pointer (some ⟨p, 8, none⟩)) (.agg W64.zero.arr)).run Tryz.prog w = .ok () (putRow w ⟨p, 8, none⟩ W64.zero.arr) := stores_W64 p 8 W64.zero w (sumAt_row h) (sumAt_free h)
  unfold Oper.wp
  obtain ⟨dst, op, ty, pos, after, guard⟩ := o
  simp only at hop
  subst hop
  rw [execOp_store_W64]
  unfold storeS
  rw [hx, hv]
  simp only [Sem.run_bind, hrun, Result.andThen_ok, Sem.run_pure]
  exact hK' _ _ (hK _ (sumAt_zero h) (setCells_upd p _ 8 w))
theorem sumAt_hv {X : World} {p : Nat} {s : SumV} (h : sumAt X p s) (n : Nat) : sumAt (X.setCell ⟨p, 72, none⟩ (.int .i64 (n : Nat))) p { s with hv := n } := by
  refine ⟨?_, h.2⟩
  rw [heap_set h.1]
  have h8 : (s.h.l.map w32).length = 8 := rfl
  have h9 := h.2
  simp [SumV.arr, List.setIfInBounds_toArray, List.set_append, h8, h9]
theorem sumAt_all {X : World} {p : Nat} {s : SumV} (h : sumAt X p s) (n : Nat) : sumAt (X.setCell ⟨p, 73, none⟩ (.int .u64 (n : Nat))) p { s with all := n } := by
  refine ⟨?_, h.2⟩
  rw [heap_set h.1]
  have h8 : (s.h.l.map w32).length = 8 := rfl
  have h9 := h.2
  simp [SumV.arr, List.setIfInBounds_toArray, List.set_append, h8, h9]
end Go.Proofs.YtlkojkjeklblkaaGreat
namespace Go.Proofs.YtlkojkjeklblkaaGreat
open Go.RowKit
section
variable {P : Program}
theorem row_of_block {w : World} {b : Nat} {cs : Array Value} {t : TypeId} {fr : Nat × Nat} {n : Nat} (h : w.heap[b]? = some (.cells cs t fr)) (hn : cs.size = n) : row? w ⟨b, 0, none⟩ n = some cs := by
  unfold row?
  simp only [h]
  rw [if_pos (And.intro trivial (by omega))]
  congr 1
  rw [show 0 + n = cs.size by omega]
  exact Array.extract_size
theorem wpList_storeRow {w : World} {ops : Array Oper} {rest : List Oper} {o : Oper} {a : Act} {Q : Exit → Act → World → Prop} {t t' : TypeId} {n : Nat} (hi : (P.info? t).map (·.size) = some n) (x v : Operand) (hop : o.op = Op.store t x v) (hg : o.guard = none)
    (b : Nat) (cs old : Array Value) (hx : a.eval x = .pointer (some ⟨b, 0, none⟩)) (hv : a.eval v = .agg cs) (hn : cs.size = n) (h1 : ∀ v ∈ cs.toList, v.oneCell' = true) (hold : old.size = n) (h : w.heap[b]? = some (.cells old t' (0, 0)))
    (hK : ∀ w', w'.heap[b]? = some (.cells cs t' (0, 0)) → Upd w w' (fun k => k = b) → wpList P ops Q rest (a.put o.dst undef) w') : wpList P ops Q (o :: rest) a w := by
  refine wpList_plain hg fun K' hK' => ?_
  have hrow := row_of_block h hold
  have hrun : (Instr.storeAt t (.pointer (some ⟨b, 0, none⟩)) (.agg cs)).run P w = .ok () (putRow w ⟨b, 0, none⟩ cs) := run_storeAt_row hi w b 0 cs hn h1 (by rw [hrow]; rfl) (fun j _ => (cells_known h).2.1 _)
  unfold Oper.wp
  obtain ⟨dst, op, ty, pos, after, guard⟩ := o
  simp only at hop
  subst hop
  simp only [execOp, hx, hv, Sem.run_bind, hrun, Result.andThen_ok, Sem.run_pure]
  refine hK' _ _ (hK _ ?_ (setCells_upd b _ 0 w))
  have hh := heap_setCells cs.toList 0 w _ h
  have e := putRow_eq 0 [] old.toList [] cs.toList rfl (by simp; omega)
  simp only [List.nil_append, List.append_nil, Array.toArray_toList] at e
  rw [e] at hh
  exact hh
theorem wpList_storePart {w : World} {ops : Array Oper} {rest : List Oper} {o : Oper} {a : Act} {Q : Exit → Act → World → Prop} {t t' : TypeId} {n : Nat} (hi : (P.info? t).map (·.size) = some n) (x v : Operand) (hop : o.op = Op.store t x v) (hg : o.guard = none)
    (b off : Nat) (cs : Array Value) (A B C : List Value) (hx : a.eval x = .pointer (some ⟨b, off, none⟩)) (hv : a.eval v = .agg cs) (hn : cs.size = n) (h1 : ∀ v ∈ cs.toList, v.oneCell' = true) (hA : A.length = off) (hB : B.length = n) (h : w.heap[b]? = some (.cells (A ++ (B ++ C)).toArray t' (0, 0)))
    (hK : ∀ w', w'.heap[b]? = some (.cells (A ++ (cs.toList ++ C)).toArray t' (0, 0)) → Upd w w' (fun k => k = b) → wpList P ops Q rest (a.put o.dst undef) w') : wpList P ops Q (o :: rest) a w := by
  refine wpList_plain hg fun K' hK' => ?_
  have hrow : (row? w ⟨b, off, none⟩ n).isSome = true := by
    unfold row?
    simp only [h]
    rw [if_pos (And.intro trivial (by simp; omega))]
    rfl
  have hrun : (Instr.storeAt t (.pointer (some ⟨b, off, none⟩)) (.agg cs)).run P w = .ok () (putRow w ⟨b, off, none⟩ cs) := run_storeAt_row hi w b off cs hn h1 hrow (fun j _ => (cells_known h).2.1 _)
  unfold Oper.wp
  obtain ⟨dst, op, ty, pos, after, guard⟩ := o
  simp only at hop
  subst hop
  simp only [execOp, hx, hv, Sem.run_bind, hrun, Result.andThen_ok, Sem.run_pure]
  refine hK' _ _ (hK _ ?_ (setCells_upd b _ off w))
  have hh := heap_setCells cs.toList off w _ h
  have e := putRow_eq off A B C cs.toList hA (by simp; omega)
  rw [e] at hh
  exact hh
theorem results_cell_tmp {fn : Func} {p q : Tmp} {ty : TypeId} (h : fn.results = #[.cell p ty, .tmp q]) (tmps : Array Value) (w : World) (g : Nat) (t : TypeId) (cs : Array Value) (fr : Nat × Nat) (d : TypeDesc) (v : Value)
    (hp : tmps.getD p undef = .pointer (some ⟨g, 0, none⟩)) (hq : tmps.getD q undef = v) (hg : w.heap[g]? = some (.cells cs t fr))
    (hu : P.underlying ty = some d) (hd : (match d with | .struct _ | .array _ _ => true | _ => false) = true) (hi : (P.info? ty).map (·.size) = some cs.size) :
    (results fn tmps).run P w = .ok (.tuple #[.agg cs, v]) w := by
  have hp' : tmps[p]?.getD undef = .pointer (some ⟨g, 0, none⟩) := by simpa using hp
  have hq' : tmps[q]?.getD undef = v := by simpa using hq
  simp [results, h, hp', hq', asAddr, run_loadVar_row w g t ty cs fr d hg hu hd hi]
end
@[go_sem] theorem lt_n1 (n : Nat) : (n < n + 1) = True := by simp
@[go_sem] theorem lt_n2 (n : Nat) : (n < n + 1 + 1) = True := by simp; omega
@[go_sem] theorem lt_n3 (n : Nat) : (n < n + 1 + 1 + 1) = True := by simp; omega
@[go_sem] theorem lt_n4 (n : Nat) : (n < n + 1 + 1 + 1 + 1) = True := by simp; omega
@[go_sem] theorem lt_n5 (n : Nat) : (n < n + 1 + 1 + 1 + 1 + 1) = True := by simp; omega
@[go_sem] theorem lt_m2 (n : Nat) : (n + 1 < n + 1 + 1 + 1) = True := by simp
@[go_sem] theorem lt_m3 (n : Nat) : (n + 1 < n + 1 + 1 + 1 + 1) = True := by simp
end Go.Proofs.YtlkojkjeklblkaaGreat
namespace Go.Proofs.YtlkojkjeklblkaaGreat
open Go.RowKit
/-- All that is new lies in the zone. -/
def Fr (S : Nat → Prop) (w : World) : Prop := ∀ k, w.heap.size ≤ k → S k
theorem Fr.grow {S : Nat → Prop} {w w' : World} (h : Fr S w) (hz : w.heap.size ≤ w'.heap.size) : Fr S w' := fun k hk => h k (Nat.le_trans hz hk)
/-- What is not in the zone is as it was. -/
def Zb (S : Nat → Prop) (w w' : World) : Prop := Upd w w' S
theorem Zb.trans {S : Nat → Prop} {a b c : World} (h : Zb S a b) (k : Zb S b c) : Zb S a c := Upd.trans h k (fun _ _ h => h)
theorem Zb.upd {S : Nat → Prop} {a b : World} (h : Zb S a b) : Upd a b S := h
theorem Zb.size {S : Nat → Prop} {a b : World} (h : Zb S a b) : a.heap.size ≤ b.heap.size := Upd.size h
theorem Zb.below {B : Nat} {a b : World} (h : Zb (fun k => B ≤ k) a b) (hB : B ≤ a.heap.size) : Below B a b := Upd.below h hB (fun _ h => h)
theorem zoned {S : Nat → Prop} {w w' : World} (h : Below w.heap.size w w') (hS : Fr S w) : Zb S w w' := Upd.of_below h S
theorem Upd.zone {S T : Nat → Prop} {w w' : World} (h : Upd w w' T) (hB : Fr S w) (hS : ∀ k, T k → S k) : Zb S w w' := h.mono (fun k _ e => hS k e)
/-- The block that a slice of bytes has for its own: none, if it has no room. -/
def Sl.own (s : Sl) : Option Nat := if s.c = 0 then none else s.a.map (·.block)
/-- s holds l, in a block of its own from base on. -/
def ownB (w : World) (base : Nat → Prop) (s : Sl) (l : List UInt8) : Prop :=
  s.n = l.length ∧ s.n ≤ s.c ∧ s.c ≤ maxLen ∧ (s.c ≠ 0 → ∃ g cur, s.a = some ⟨g, 0, none⟩ ∧ base g ∧ w.heap[g]? = some (.cells cur 5 (0, 0)) ∧ s.c ≤ cur.size ∧ cur.toList.take s.n = byteVs l)
theorem ownB_nil (w : World) (base : Nat → Prop) : ownB w base ⟨none, 0, 0⟩ [] := ⟨rfl, Nat.le_refl _, by simp [maxLen], fun h => absurd rfl h⟩
theorem ownB.lt {w : World} {base : Nat → Prop} {s : Sl} {l : List UInt8} (h : ownB w base s l) {k : Nat} (hk : s.own = some k) : base k ∧ k < w.heap.size := by
  unfold Sl.own at hk
  split at hk
  · cases hk
  · rename_i hc
    obtain ⟨g, cur, ha, hg, hh, _⟩ := h.2.2.2 hc
    rw [ha] at hk
    cases hk
    exact ⟨hg, (Array.getElem?_eq_some_iff.1 hh).1⟩
theorem ownB.upd {w w' : World} {base : Nat → Prop} {s : Sl} {l : List UInt8} {S : Nat → Prop} (h : ownB w base s l) (hu : Upd w w' S) (hs : ∀ k, s.own = some k → ¬ S k) : ownB w' base s l := by
  refine ⟨h.1, h.2.1, h.2.2.1, fun hc => ?_⟩
  obtain ⟨g, cur, ha, hg, hh, r⟩ := h.2.2.2 hc
  exact ⟨g, cur, ha, hg, by rw [hu.block g (Array.getElem?_eq_some_iff.1 hh).1 (hs g (by simp [Sl.own, hc, ha]))]; exact hh, r⟩
theorem ownB.cellAt {w : World} {base : Nat → Prop} {s : Sl} {l : List UInt8} (h : ownB w base s l) {k : Nat} (hk : k < l.length) : ∃ g, s.a = some ⟨g, 0, none⟩ ∧ s.own = some g ∧ base g ∧ g < w.heap.size ∧ ∀ j (hj : j < l.length), w.cell? ⟨g, j, none⟩ = some (byteV l[j]) := by
  obtain ⟨h1, h2, h3, h4⟩ := h
  have hc : s.c ≠ 0 := by omega
  obtain ⟨g, cur, ha, hg, hh, hsz, ht⟩ := h4 hc
  refine ⟨g, ha, by simp [Sl.own, hc, ha], hg, (Array.getElem?_eq_some_iff.1 hh).1, fun j hj => ?_⟩
  rw [(cells_known hh).1]
  have : (cur.toList.take s.n)[j]? = some (byteV l[j]) := by rw [ht, byteVs_get hj]
  rw [List.getElem?_take, if_pos (by omega)] at this
  simpa using this
/-- The first bytes, no room behind them. -/
theorem ownB.cutTo {w : World} {base : Nat → Prop} {s : Sl} {l : List UInt8} (h : ownB w base s l) (n : Nat) (hn : n ≤ l.length) : ownB w base ⟨s.a, n, n⟩ (l.take n) := by
  obtain ⟨h1, h2, h3, h4⟩ := h
  refine ⟨by simp [hn], Nat.le_refl _, by simp only; omega, fun hc => ?_⟩
  simp only at hc
  obtain ⟨g, cur, ha, hg, hh, hsz, ht⟩ := h4 (by omega)
  refine ⟨g, cur, ha, hg, hh, by simp only; omega, ?_⟩
  simp only
  have : (cur.toList.take s.n).take n = (byteVs l).take n := by rw [ht]
  rw [List.take_take, Nat.min_eq_left (by omega)] at this
  rw [this]; simp [byteVs]
section
variable {P : Program}
/-- 'append' onto such bytes, whatever yields the others. -/
theorem run_append_B (w : World) (base : Nat → Prop) (t tx ty : TypeId) (i : TypeInfo) (ht : P.underlying t = some (.slice 5)) (hi : P.info? 5 = some i) (hz : i.zero = some (.int .u8 0)) (hs : i.size = 1) (hb : i.bytes = 1)
    (s : Sl) (l : List UInt8) (h : ownB w base s l) (x : Value) (m : List UInt8) (hx : Src P 1 tx x m.length (byteVs m) w) (hbase : Fr base w) (hlen : l.length + m.length ≤ 140737488355328) :
    ∃ s' w', (Builtin.append_ #[t, tx] ty #[s.v, x]).run P w = .ok s'.v w' ∧ ownB w' base s' (l ++ m) ∧ Upd w w' (fun k => s.own = some k) ∧ (∀ k, s'.own = some k → s.own = some k ∨ w.heap.size ≤ k) ∧ (m = [] → s' = s ∧ w' = w) := by
  obtain ⟨h1, h2, h3, h4⟩ := h
  obtain ⟨sa, sn, sc⟩ := s
  simp only at h1 h2 h3 h4
  have hml : (byteVs m).length = m.length := byteVs_length m
  by_cases hm : m = []
  · subst hm
    have hkind := hx.kind
    refine ⟨⟨sa, sn, sc⟩, w, ?_, ⟨by simpa using h1, h2, h3, by simpa using h4⟩, Upd.refl _ _, fun k hk => .inl hk, fun _ => ⟨rfl, rfl⟩⟩
    have hl := hx.len w
    have hc : (Builtin.firstCells 1 0 x).run P w = .ok #[] w := hx.cells
    have hl0 : ∀ w', (Builtin.lenOf x).run P w' = .ok 0 w' := hx.len
    rcases hkind with ⟨e', hk⟩ | hk
    · cases sa <;> simp [Builtin.append_, Sl.v, run_underlying ht, run_underlying hk, sizeOf, typeInfo, hi, hs, hl0, h2, hc, storeCells]
    · cases sa <;> simp [Builtin.append_, Sl.v, run_underlying ht, run_underlying hk, sizeOf, typeInfo, hi, hs, hl0, h2, hc, storeCells]
  · have hm1 : 0 < m.length := List.length_pos_iff.2 hm
    have hone : ∀ u ∈ byteVs m, u.oneCell' = true := hx.one
    have hsx : Src P i.size tx x m.length (byteVs m) w := by rw [hs]; exact hx
    by_cases hroom : sn + m.length ≤ sc
    · obtain ⟨g, cur, ha, hg, hh, hsz, htk⟩ := h4 (by omega)
      subst ha
      have hcs : ∀ o, o < sc → (w.cell? ⟨g, o, none⟩).isSome = true := fun o ho => by
        rw [(cells_known hh).1, Array.getElem?_eq_getElem (by omega)]; rfl
      have hr := run_append_room_src (P := P) w t tx ty 5 i ht hi g 0 sn sc x m.length (byteVs m) hsx hroom
        (fun j hj => by rw [hs]; exact hcs _ (by rw [hml] at hj; omega)) (fun j hj => (cells_known hh).2.1 _)
      rw [hs] at hr
      refine ⟨⟨some ⟨g, 0, none⟩, sn + m.length, sc⟩, _, hr, ⟨by simp [h1], hroom, h3, fun _ => ⟨g, _, rfl, hg, heap_setCells (byteVs m) (0 + sn * 1) w cur hh, ?_, ?_⟩⟩, ?_, fun k hk => .inl (by simpa [Sl.own] using hk), fun h => absurd h hm⟩
      · have hsf : ∀ (vs : List Value) (k o : Nat) (c : Array Value), ((vs.zipIdx k).foldl (fun cs (v, j) => cs.setIfInBounds (o + j) v) c).size = c.size := by
          intro vs
          induction vs with
          | nil => intros; rfl
          | cons v vs ih => intro k o c; simp only [List.zipIdx_cons, List.foldl_cons]; rw [ih]; simp
        simp only [hsf]; exact hsz
      · have hdec : cur = (cur.toList.take sn ++ ((cur.toList.drop sn).take m.length ++ (cur.toList.drop sn).drop m.length)).toArray := by
          rw [List.take_append_drop, List.take_append_drop]
        have hlen1 : (cur.toList.take sn).length = 0 + sn * 1 := by simp; omega
        have hlen2 : ((cur.toList.drop sn).take m.length).length = (byteVs m).length := by rw [hml]; simp; omega
        have e := putRow_eq (0 + sn * 1) (cur.toList.take sn) _ ((cur.toList.drop sn).drop m.length) (byteVs m) hlen1 hlen2
        rw [← hdec] at e
        rw [e, htk]
        simp only [List.toList_toArray]
        rw [← List.append_assoc, List.take_left' (by simp [byteVs_length, h1])]
        simp [byteVs]
      · exact (setCells_upd g _ _ w).mono (fun k _ hk => by subst hk; simp [Sl.own]; omega)
    · have hold : (Builtin.firstCells i.size sn (.slice sa sn sc)).run P w.drew = .ok (byteVs l).toArray w.drew := by
        rw [hs]
        cases sa with
        | none =>
          have : l = [] := by
            by_cases hc : sc = 0
            · exact List.eq_nil_of_length_eq_zero (by omega)
            · obtain ⟨g, cur, ha, _⟩ := h4 hc
              cases ha
          subst this
          exact run_firstCells_none _ _ _ _ _
        | some a =>
          refine run_firstCells_some w.drew 1 sn a sn sc (byteVs l) (by rw [byteVs_length]; omega) ?_
          intro j v hv
          have hj : j < l.length := by
            have := (List.getElem?_eq_some_iff.1 hv).1
            rwa [byteVs_length] at this
          obtain ⟨g, cur, ha, hg, hh, hsz, htk⟩ := h4 (by omega)
          cases ha
          have e : (⟨g, 0, none⟩ : Addr).add j = ⟨g, j, none⟩ := by unfold Addr.add; split <;> simp_all
          rw [e]
          show w.cell? _ = _
          rw [(cells_known hh).1]
          rw [← htk, List.getElem?_take, if_pos (by omega)] at hv
          simpa using hv
      have hfit : Builtin.nextslicecap (sn + m.length) sc * i.bytes ≤ 281474976710656 := growslice_fits (by omega) (by rw [hb]; omega)
      have hr := run_append_grow_src (P := P) w t tx ty 5 i (.int .u8 0) ht hi hz sa sn sc (byteVs l) hold x m.length (byteVs m) hsx (by omega) (by omega) hfit
      have hge := grownCap_ge w (sn + m.length) sc 5
      have hcm : grownCap w (sn + m.length) sc 5 ≤ maxLen := grownCap_le_maxLen w (sn + m.length) sc 5 (by unfold maxLen; omega)
      refine ⟨⟨some ⟨w.heap.size, 0, none⟩, sn + m.length, grownCap w (sn + m.length) sc 5⟩, _, hr, ⟨by simp [h1], hge, hcm, fun _ => ⟨w.heap.size, _, rfl, hbase _ (Nat.le_refl _), heap_alloc_new w.drew _, ?_, ?_⟩⟩, ⟨rfl, rfl, rfl, by simp, fun k hk _ => heap_alloc_old w.drew _ hk⟩, fun k hk => .inr ?_, fun h => absurd h hm⟩
      · have hz1 : (Value.int .u8 0).cells.size = 1 := rfl
        simp only [Array.size_append, List.size_toArray, List.length_append, size_zeroCells, hz1, byteVs_length]
        omega
      · simp only [Array.toList_append, List.toList_toArray]
        rw [List.take_left' (by simp [byteVs_length, h1])]
        simp [byteVs]
      · unfold Sl.own at hk
        split at hk
        · cases hk
        · simp at hk; omega
end
end Go.Proofs.YtlkojkjeklblkaaGreat
