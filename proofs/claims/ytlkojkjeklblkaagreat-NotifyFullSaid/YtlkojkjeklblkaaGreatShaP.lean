/- Sums (chapter 2), as numbers: what package sha computes. No program in sight. -/
import Derived.Test.YtlkojkjeklblkaaGreatData
set_option linter.unusedSimpArgs false
set_option linter.unusedVariables false
namespace Go.Proofs.YtlkojkjeklblkaaGreat
def rotr (x n : Nat) : Nat := (x * 2 ^ (32 - n) % 4294967296) ||| (x / 2 ^ n)
def threeS (x a b c : Nat) (shift : Bool) : Nat := rotr x a ^^^ rotr x b ^^^ (if shift then x / 2 ^ c else rotr x c)
def shaK : List Nat := [
    0x428A2F98, 0x71374491, 0xB5C0FBCF, 0xE9B5DBA5,
    0x3956C25B, 0x59F111F1, 0x923F82A4, 0xAB1C5ED5,
    0xD807AA98, 0x12835B01, 0x243185BE, 0x550C7DC3,
    0x72BE5D74, 0x80DEB1FE, 0x9BDC06A7, 0xC19BF174,
    0xE49B69C1, 0xEFBE4786, 0x0FC19DC6, 0x240CA1CC,
    0x2DE92C6F, 0x4A7484AA, 0x5CB0A9DC, 0x76F988DA,
    0x983E5152, 0xA831C66D, 0xB00327C8, 0xBF597FC7,
    0xC6E00BF3, 0xD5A79147, 0x06CA6351, 0x14292967,
    0x27B70A85, 0x2E1B2138, 0x4D2C6DFC, 0x53380D13,
    0x650A7354, 0x766A0ABB, 0x81C2C92E, 0x92722C85,
    0xA2BFE8A1, 0xA81A664B, 0xC24B8B70, 0xC76C51A3,
    0xD192E819, 0xD6990624, 0xF40E3585, 0x106AA070,
    0x19A4C116, 0x1E376C08, 0x2748774C, 0x34B0BCB5,
    0x391C0CB3, 0x4ED8AA4A, 0x5B9CCA4F, 0x682E6FF3,
    0x748F82EE, 0x78A5636F, 0x84C87814, 0x8CC70208,
    0x90BEFFFA, 0xA4506CEB, 0xBEF9A3F7, 0xC67178F2]

/-- Eight words. -/
structure St where
  (a b c d e f g h : Nat)
  deriving DecidableEq
def upS (s : St) (k w : Nat) : Nat := ((((s.h + threeS s.e 6 11 25 false) % 4294967296 + (s.g ^^^ (s.e &&& (s.f ^^^ s.g)))) % 4294967296 + k) % 4294967296 + w) % 4294967296
def downS (s : St) : Nat := (threeS s.a 2 13 22 false + ((s.a &&& s.b) ||| (s.c &&& (s.a ||| s.b)))) % 4294967296
def St.step (s : St) (k w : Nat) : St := ⟨(upS s k w + downS s) % 4294967296, s.a, s.b, s.c, (s.d + upS s k w) % 4294967296, s.e, s.f, s.g⟩
def nextV (w0 w1 w9 w14 : Nat) : Nat := (((w0 + threeS w1 7 18 3 true) % 4294967296 + w9) % 4294967296 + threeS w14 17 19 10 true) % 4294967296
def nextW (l : List Nat) : Nat :=
  match l with
  | w0 :: w1 :: _ :: _ :: _ :: _ :: _ :: _ :: _ :: w9 :: _ :: _ :: _ :: _ :: w14 :: _ => nextV w0 w1 w9 w14
  | _ => 0
def roundStep (p : List Nat × St) (k : Nat) : List Nat × St := (p.1.tail ++ [nextW p.1], p.2.step k (p.1.headD 0))
def roundsS (ks l : List Nat) (s : St) : St := (ks.foldl roundStep (l, s)).2
def St.add (s t : St) : St := ⟨(s.a + t.a) % 4294967296, (s.b + t.b) % 4294967296, (s.c + t.c) % 4294967296, (s.d + t.d) % 4294967296, (s.e + t.e) % 4294967296, (s.f + t.f) % 4294967296, (s.g + t.g) % 4294967296, (s.h + t.h) % 4294967296⟩
def compressS (s : St) (ws : List Nat) : St := s.add (roundsS shaK ws s)
def ivS : St := ⟨0x6A09E667, 0xBB67AE85, 0x3C6EF372, 0xA54FF53A, 0x510E527F, 0x9B05688C, 0x1F83D9AB, 0x5BE0CD19⟩
/-- The n-th window of sixteen words. -/
def win (ws : List Nat) : Nat → List Nat
  | 0 => ws
  | n + 1 => (win ws n).tail ++ [nextW (win ws n)]
def wordS (ws : List Nat) (n : Nat) : Nat := (win ws n).headD 0
theorem win_length {ws : List Nat} (h : ws.length = 16) : ∀ n, (win ws n).length = 16
  | 0 => h
  | n + 1 => by simp [win, win_length h n]
theorem win_shift {ws : List Nat} (h : ws.length = 16) (n k : Nat) (hk : k < 15) : (win ws (n + 1)).getD k 0 = (win ws n).getD (k + 1) 0 := by
  have := win_length h n
  simp only [win, List.getD, List.getElem?_append, List.length_tail, this]
  rw [if_pos (by omega)]
  simp
theorem win_word {ws : List Nat} (h : ws.length = 16) : ∀ k, k < 16 → ∀ n, (win ws n).getD k 0 = wordS ws (n + k)
  | 0, _, n => by
    have := win_length h n
    unfold wordS
    rw [Nat.add_zero]
    cases hw : win ws n <;> simp
  | k + 1, hk, n => by
    rw [← win_shift h n k (by omega), win_word h k (by omega) (n + 1)]
    congr 1; omega
theorem nextW_eq {l : List Nat} (h : l.length = 16) : nextW l = nextV (l.getD 0 0) (l.getD 1 0) (l.getD 9 0) (l.getD 14 0) := by
  match l, h with
  | [_, _, _, _, _, _, _, _, _, _, _, _, _, _, _, _], _ => rfl
theorem wordS_next {ws : List Nat} (h : ws.length = 16) (n : Nat) : wordS ws (n + 16) = nextV (wordS ws n) (wordS ws (n + 1)) (wordS ws (n + 9)) (wordS ws (n + 14)) := by
  have h1 : wordS ws (n + 16) = (win ws (n + 1)).getD 15 0 := by rw [win_word h 15 (by omega)]; 
  rw [h1]
  have hl := win_length h n
  have h2 : (win ws (n + 1)).getD 15 0 = nextW (win ws n) := by
    simp only [win, List.getD, List.getElem?_append, List.length_tail, hl]; simp
  rw [h2, nextW_eq hl, win_word h 0 (by omega), win_word h 1 (by omega), win_word h 9 (by omega), win_word h 14 (by omega)]
  rfl
theorem wordS_low {ws : List Nat} (h : ws.length = 16) (n : Nat) (hn : n < 16) : wordS ws n = ws.getD n 0 := by
  have := win_word h n hn 0
  rw [Nat.zero_add] at this
  rw [← this]; rfl
/-- The state behind n rounds. -/
def stN (ws : List Nat) (s : St) : Nat → St
  | 0 => s
  | n + 1 => (stN ws s n).step (shaK.getD n 0) (wordS ws n)
theorem stN_succ (ws : List Nat) (s : St) (n : Nat) : stN ws s (n + 1) = (stN ws s n).step (shaK.getD n 0) (wordS ws n) := rfl
theorem win_succ (ws : List Nat) (n : Nat) : win ws (n + 1) = (win ws n).tail ++ [nextW (win ws n)] := rfl
theorem win_zero (ws : List Nat) : win ws 0 = ws := rfl
theorem stN_zero (ws : List Nat) (s : St) : stN ws s 0 = s := rfl
theorem roundsS_eq (ws : List Nat) (s : St) (ks : List Nat) : ∀ n, shaK.drop n = ks → ks.foldl roundStep (win ws n, stN ws s n) = (win ws (n + ks.length), stN ws s (n + ks.length)) := by
  induction ks with
  | nil => intro n _; rfl
  | cons k ks ih =>
    intro n h
    have hk : shaK.getD n 0 = k := by
      have : (shaK.drop n)[0]? = some k := by rw [h]; rfl
      rw [List.getElem?_drop, Nat.add_zero] at this
      simp only [List.getD, this, Option.getD_some]
    have hd : shaK.drop (n + 1) = ks := by rw [← List.drop_drop, h, List.drop_succ_cons, List.drop_zero]
    have h2 := ih (n + 1) hd
    rw [List.length_cons, show n + (ks.length + 1) = n + 1 + ks.length by omega, ← h2, List.foldl_cons, stN_succ, win_succ, hk, wordS]
    rfl
theorem shaK_length : shaK.length = 64 := by decide
theorem compressS_eq (ws : List Nat) (s : St) : compressS s ws = s.add (stN ws s 64) := by
  have h := roundsS_eq ws s shaK 0 List.drop_zero
  rw [shaK_length, Nat.zero_add] at h
  rw [win_zero, stN_zero] at h
  unfold compressS roundsS
  rw [h]
end Go.Proofs.YtlkojkjeklblkaaGreat
