/- Sums (chapter 2) by blocks of 64 bytes: the same as byte by byte. No program in sight. Sums by blocks: the last one or two blocks as the document's own text lays them. No program in sight. -/
import Derived.Test.YtlkojkjeklblkaaGreatShaF
set_option linter.unusedSimpArgs false
set_option linter.unusedVariables false
namespace Go.Proofs.YtlkojkjeklblkaaGreat
/-- Word j of bytes, of whose four the first i are taken. -/
def wordB (l : List UInt8) (j : Nat) : Nat → Nat
  | 0 => 0
  | i + 1 => (wordB l j i * 256 % 4294967296) ||| (l.getD (4 * j + i) 0).toNat
def wordsB (l : List UInt8) : List Nat := (List.range 16).map fun j => wordB l j 4
theorem wordB_succ (l : List UInt8) (j i : Nat) : wordB l j (i + 1) = (wordB l j i * 256 % 4294967296) ||| (l.getD (4 * j + i) 0).toNat := rfl
theorem byte_lt (b : UInt8) : b.toNat < 256 := b.toNat_lt
theorem or_byte (a : Nat) (c : Nat) (hc : c < 256) : a * 256 ||| c = a * 256 + c := by
  have := Nat.shiftLeft_add_eq_or_of_lt (b := c) (i := 8) hc a
  rw [Nat.shiftLeft_eq] at this
  exact this.symm
theorem times_lt {A B c : Nat} (h : A < B) (hc : c < 256) : A * 256 + c < B * 2 ^ 8 := by
  rw [show (2 : Nat) ^ 8 = 256 from rfl]; omega
theorem wordB_lt (l : List UInt8) (j : Nat) : ∀ i, i ≤ 4 → wordB l j i < 2 ^ (8 * i)
  | 0, _ => by show (0 : Nat) < _; exact Nat.two_pow_pos _
  | i + 1, h => by
    have ih := wordB_lt l j i (by omega)
    have hc := byte_lt (l.getD (4 * j + i) 0)
    have hp : wordB l j i * 256 < 4294967296 := by
      have : 2 ^ (8 * i) ≤ 2 ^ 24 := Nat.pow_le_pow_right (by decide) (by omega)
      omega
    rw [wordB_succ, Nat.mod_eq_of_lt hp, or_byte _ _ hc, show 8 * (i + 1) = 8 * i + 8 by omega, Nat.pow_add]
    exact times_lt ih hc
theorem wordB_add (l : List UInt8) (j i : Nat) (h : i < 4) : wordB l j (i + 1) = wordB l j i * 256 + (l.getD (4 * j + i) 0).toNat := by
  have ih := wordB_lt l j i (by omega)
  have hc := byte_lt (l.getD (4 * j + i) 0)
  have hp : wordB l j i * 256 < 4294967296 := by
    have : 2 ^ (8 * i) ≤ 2 ^ 24 := Nat.pow_le_pow_right (by decide) (by omega)
    omega
  rw [wordB_succ, Nat.mod_eq_of_lt hp, or_byte _ _ hc]
theorem wordB_u32 (l : List UInt8) (j i : Nat) (h : i ≤ 4) : wordB l j i < 4294967296 := by
  have := wordB_lt l j i h
  have : 2 ^ (8 * i) ≤ 2 ^ 32 := Nat.pow_le_pow_right (by decide) (by omega)
  omega
theorem wordsB_lt (l : List UInt8) : ∀ x ∈ wordsB l, x < 4294967296 := by
  intro x hx
  simp only [wordsB, List.mem_map, List.mem_range] at hx
  obtain ⟨j, _, rfl⟩ := hx
  exact wordB_u32 l j 4 (by omega)
theorem wordsB_length (l : List UInt8) : (wordsB l).length = 16 := by simp [wordsB]
/-- Entry j of the words while k bytes are taken in. -/
def fedE (l : List UInt8) (k j : Nat) : Nat := wordB l j (min (k - 4 * j) 4) * 2 ^ (8 * (4 - min (k - 4 * j) 4))
def fedW (l : List UInt8) (k : Nat) : List Nat := (List.range 64).map fun j => if j < 16 then fedE l k j else 0
theorem fedW_length (l : List UInt8) (k : Nat) : (fedW l k).length = 64 := by simp [fedW]
theorem fedW_get? (l : List UInt8) (k j : Nat) (h : j < 64) : (fedW l k)[j]? = some (if j < 16 then fedE l k j else 0) := by
  simp only [fedW, List.getElem?_map, List.getElem?_range h, Option.map_some]
theorem fedW_zero (l : List UInt8) : fedW l 0 = List.replicate 64 0 := by
  apply List.ext_getElem?
  intro j
  by_cases hj : j < 64
  · rw [fedW_get? l 0 j hj, List.getElem?_replicate, if_pos hj]
    simp [fedE, wordB]
  · rw [List.getElem?_eq_none (by rw [fedW_length]; omega), List.getElem?_eq_none (by simp; omega)]
theorem fedE_other (l : List UInt8) (k j : Nat) (h : j ≠ k / 4) : fedE l (k + 1) j = fedE l k j := by
  unfold fedE
  by_cases h2 : j < k / 4
  · rw [show min (k + 1 - 4 * j) 4 = 4 by omega, show min (k - 4 * j) 4 = 4 by omega]
  · rw [show min (k + 1 - 4 * j) 4 = 0 by omega, show min (k - 4 * j) 4 = 0 by omega]
theorem fedE_same (l : List UInt8) (k : Nat) : fedE l (k + 1) (k / 4) = fedE l k (k / 4) ||| (l.getD k 0).toNat * 2 ^ (24 - 8 * (k % 4)) % 4294967296 := by
  obtain ⟨j, i, hi, rfl⟩ : ∃ j i, i < 4 ∧ k = 4 * j + i := ⟨k / 4, k % 4, by omega, by omega⟩
  have e1 : (4 * j + i) / 4 = j := by omega
  have e2 : (4 * j + i) % 4 = i := by omega
  rw [e1, e2]
  unfold fedE
  rw [show min (4 * j + i + 1 - 4 * j) 4 = i + 1 by omega, show min (4 * j + i - 4 * j) 4 = i by omega, wordB_add l j i hi]
  have hl := wordB_lt l j i (by omega)
  have hc := byte_lt (l.getD (4 * j + i) 0)
  generalize wordB l j i = A at *
  generalize (l.getD (4 * j + i) 0).toNat = c at *
  have hp : c * 2 ^ (24 - 8 * i) < 4294967296 := by
    have : 2 ^ (24 - 8 * i) ≤ 2 ^ 24 := Nat.pow_le_pow_right (by decide) (by omega)
    calc c * 2 ^ (24 - 8 * i) ≤ c * 2 ^ 24 := Nat.mul_le_mul_left _ this
      _ < 4294967296 := by omega
  rw [Nat.mod_eq_of_lt hp, ← or_byte A c hc, show 8 * (4 - (i + 1)) = 24 - 8 * i by omega, show 8 * (4 - i) = 8 + (24 - 8 * i) by omega, Nat.pow_add, ← Nat.mul_assoc, ← Nat.shiftLeft_eq (A * 256 ||| c), ← Nat.shiftLeft_eq c, Nat.shiftLeft_or_distrib, Nat.shiftLeft_eq (A * 256)]
theorem fedW_next (l : List UInt8) (k : Nat) (hk : k < 64) : fedW l (k + 1) = (fedW l k).set (k / 4) ((fedW l k).getD (k / 4) 0 ||| (l.getD k 0).toNat * 2 ^ (24 - 8 * (k % 4)) % 4294967296) := by
  have h4 : k / 4 < 16 := by omega
  apply List.ext_getElem?
  intro j
  by_cases hj : j < 64
  · rw [fedW_get? _ _ j hj, List.getElem?_set, fedW_length, fedW_get? _ _ j hj]
    by_cases e : k / 4 = j
    · subst e
      rw [if_pos rfl, if_pos h4, if_pos hj, List.getD, fedW_get? _ _ _ hj, if_pos h4, Option.getD_some, fedE_same]
    · rw [if_neg e]
      by_cases h16 : j < 16
      · rw [if_pos h16, if_pos h16, fedE_other l k j (fun h => e h.symm)]
      · rw [if_neg h16, if_neg h16]
  · rw [List.getElem?_eq_none (by rw [fedW_length]; omega), List.getElem?_eq_none (by rw [List.length_set, fedW_length]; omega)]
theorem fedW_all (l : List UInt8) : (fedW l 64).take 16 = wordsB l := by
  apply List.ext_getElem?
  intro j
  by_cases hj : j < 16
  · rw [List.getElem?_take, if_pos hj, fedW_get? _ _ j (by omega), if_pos hj]
    simp only [wordsB, List.getElem?_map, List.getElem?_range hj, Option.map_some, fedE]
    rw [show min (64 - 4 * j) 4 = 4 by omega]
    simp
  · rw [List.getElem?_take, if_neg hj, List.getElem?_eq_none (by rw [wordsB_length]; omega)]
theorem SumV.feed_part (h : St) (all : Nat) (l : List UInt8) (hl : l.length = 64) : ∀ k, k ≤ 63 → (⟨h, List.replicate 64 0, 0, all⟩ : SumV).feed (l.take k) = ⟨h, fedW l k, k, all⟩
  | 0, _ => by rw [fedW_zero]; rfl
  | k + 1, hk => by
    have e : l.take (k + 1) = l.take k ++ [l.getD k 0] := by
      rw [List.take_add_one]
      simp [List.getD, show k < l.length by omega]
    rw [e, SumV.feed_append, SumV.feed_part h all l hl k (by omega), SumV.feed_one]
    unfold SumV.takeB
    rw [if_neg (by simp only; omega)]
    unfold SumV.putB
    simp only
    rw [← fedW_next l k (by omega)]
/-- 64 bytes taken in: one block. -/
theorem SumV.feed_block (h : St) (all : Nat) (l : List UInt8) (hl : l.length = 64) : (⟨h, List.replicate 64 0, 0, all⟩ : SumV).feed l = ⟨compressS h (wordsB l), List.replicate 64 0, 0, all⟩ := by
  have e : l = l.take 63 ++ [l.getD 63 0] := by
    have h1 : l.take 64 = l := by rw [← hl]; exact List.take_length
    have h2 : l.take 64 = l.take 63 ++ [l.getD 63 0] := by
      rw [show (64 : Nat) = 63 + 1 from rfl, List.take_add_one]
      simp [List.getD, show 63 < l.length by omega]
    rw [← h2, h1]
  have key : ((⟨h, List.replicate 64 0, 0, all⟩ : SumV).feed (l.take 63)).feed [l.getD 63 0] = ⟨compressS h (wordsB l), List.replicate 64 0, 0, all⟩ := by
    rw [SumV.feed_part h all l hl 63 (by omega), SumV.feed_one]
    unfold SumV.takeB
    rw [if_pos (by simp only)]
    unfold SumV.putB
    simp only
    rw [← fedW_next l 63 (by omega), fedW_all]
  rw [← SumV.feed_append, ← e] at key
  exact key
/-- The state behind the first n blocks. -/
def blocksN (h : St) (l : List UInt8) : Nat → St
  | 0 => h
  | n + 1 => compressS (blocksN h l n) (wordsB ((l.drop (64 * n)).take 64))
theorem SumV.feed_blocks (h : St) (all : Nat) (l : List UInt8) : ∀ n, 64 * n ≤ l.length → (⟨h, List.replicate 64 0, 0, all⟩ : SumV).feed (l.take (64 * n)) = ⟨blocksN h l n, List.replicate 64 0, 0, all⟩
  | 0, _ => rfl
  | n + 1, hn => by
    have e : l.take (64 * (n + 1)) = l.take (64 * n) ++ (l.drop (64 * n)).take 64 := by
      rw [show 64 * (n + 1) = 64 * n + 64 by omega, List.take_add]
    rw [e, SumV.feed_append, SumV.feed_blocks h all l n (by omega), SumV.feed_block _ _ _ (by simp; omega)]
    rfl
theorem blocksN_append (h : St) (l m : List UInt8) (n : Nat) (hn : 64 * n ≤ l.length) : blocksN h (l ++ m) n = blocksN h l n := by
  induction n with
  | zero => rfl
  | succ n ih =>
    have e : ((l ++ m).drop (64 * n)).take 64 = (l.drop (64 * n)).take 64 := by
      rw [List.drop_append_of_le_length (by omega), List.take_append_of_le_length (by simp; omega)]
    simp only [blocksN]
    rw [ih (by omega), e]
theorem blocksN_lt (h : St) (hh : ∀ x ∈ h.l, x < 4294967296) (l : List UInt8) (n : Nat) : ∀ x ∈ (blocksN h l n).l, x < 4294967296 := by
  cases n with
  | zero => exact hh
  | succ n => exact St.add_lt _ _
theorem ivS_lt : ∀ x ∈ ivS.l, x < 4294967296 := by decide
/-- What is put behind the bytes: the mark, nothing, the number of bits. -/
def padS (n : Nat) : List UInt8 := [128] ++ List.replicate (padN ((n + 1) % 64)) 0 ++ bitsB n
theorem padS_length (n : Nat) : (n + (padS n).length) % 64 = 0 := by
  have h8 : (bitsB n).length = 8 := by simp [bitsB]
  simp only [padS, List.length_append, List.length_cons, List.length_nil, List.length_replicate, h8, padN]
  omega
theorem SumV.ended_eq (s : SumV) (h : s.ok) (n : Nat) (hn : s.hv = n % 64) (ha : s.all = n) : s.ended = s.feed (padS n) := by
  have hv : (s.feed [128]).hv = (n + 1) % 64 := by
    rw [SumV.feed_hv _ _ h, hn]
    simp only [List.length_cons, List.length_nil]; omega
  unfold SumV.ended padS
  rw [hv, ha, SumV.feed_append, SumV.feed_append]
theorem shaS_blocks (l : List UInt8) (n : Nat) (hn : 64 * n = (l ++ padS l.length).length) : (shaS l).l = hashB (blocksN ivS (l ++ padS l.length) n) := by
  have h1 := SumV.feed_blocks ivS 0 (l ++ padS l.length) n (by omega)
  rw [hn, List.take_length] at h1
  have h0 := SumV.feed_ok SumV.ini_ok l
  have hv := SumV.feed_hv l _ SumV.ini_ok
  have hv2 : (SumV.ini.feed l).hv = l.length % 64 := by rw [hv]; simp [SumV.ini]
  have h2 := SumV.ended_eq ({ SumV.ini.feed l with all := l.length } : SumV) h0 l.length hv2 rfl
  show hashB ({ SumV.ini.feed l with all := l.length } : SumV).ended.h = _
  rw [h2, SumV.feed_all]
  show hashB ((SumV.ini.feed l).feed (padS l.length)).h = _
  rw [← SumV.feed_append, show SumV.ini = ⟨ivS, List.replicate 64 0, 0, 0⟩ from rfl, h1]
end Go.Proofs.YtlkojkjeklblkaaGreat
namespace Go.Proofs.YtlkojkjeklblkaaGreat
/-- A list, of whose last eight the first 8 - j are nought. -/
def lastJ (D : List UInt8) (j : Nat) : List UInt8 := D.take (D.length - 8) ++ List.replicate (8 - j) 0 ++ D.drop (D.length - j)
theorem lastJ_length (D : List UInt8) (j : Nat) (h : 8 ≤ D.length) (hj : j ≤ 8) : (lastJ D j).length = D.length := by
  simp [lastJ]; omega
theorem lastJ_get? (D : List UInt8) (j i : Nat) (h : 8 ≤ D.length) (hj : j ≤ 8) (hi : i < D.length) : (lastJ D j)[i]? = if D.length - 8 ≤ i ∧ i < D.length - j then some 0 else D[i]? := by
  unfold lastJ
  rw [List.append_assoc, List.getElem?_append, List.length_take, List.getElem?_append, List.length_replicate]
  by_cases h1 : i < D.length - 8
  · rw [if_pos (by omega), if_neg (by omega), List.getElem?_take, if_pos h1]
  · rw [if_neg (by omega)]
    by_cases h2 : i < D.length - j
    · rw [if_pos (by omega), if_pos (by omega), List.getElem?_replicate, if_pos (by omega)]
    · rw [if_neg (by omega), if_neg (by omega), List.getElem?_drop]
      congr 1; omega
theorem lastJ_set (D : List UInt8) (j : Nat) (h : 8 ≤ D.length) (hj : j < 8) (x : UInt8) (hx : D[D.length - 1 - j]? = some x) : (lastJ D j).set (D.length - 1 - j) x = lastJ D (j + 1) := by
  apply List.ext_getElem?
  intro i
  by_cases hi : i < D.length
  · rw [List.getElem?_set, lastJ_length D j h (by omega), lastJ_get? D j i h (by omega) hi, lastJ_get? D (j + 1) i h (by omega) hi]
    by_cases e : D.length - 1 - j = i
    · subst e
      rw [if_pos rfl, if_pos hi, if_neg (by omega), hx]
    · rw [if_neg e]
      by_cases h1 : D.length - 8 ≤ i ∧ i < D.length - j
      · rw [if_pos h1, if_pos (by omega)]
      · rw [if_neg h1, if_neg (by omega)]
  · rw [List.getElem?_eq_none (by rw [List.length_set, lastJ_length D j h (by omega)]; omega), List.getElem?_eq_none (by rw [lastJ_length D (j + 1) h (by omega)]; omega)]
theorem lastJ_end (D : List UInt8) (j : Nat) (h : 8 ≤ D.length) (hj : j ≤ 8) (h0 : ∀ m, j ≤ m → m < 8 → D[D.length - 1 - m]? = some 0) : lastJ D j = D := by
  apply List.ext_getElem?
  intro i
  by_cases hi : i < D.length
  · rw [lastJ_get? D j i h hj hi]
    by_cases h1 : D.length - 8 ≤ i ∧ i < D.length - j
    · rw [if_pos h1, ← h0 (D.length - 1 - i) (by omega) (by omega)]
      congr 1; omega
    · rw [if_neg h1]
  · rw [List.getElem?_eq_none (by rw [lastJ_length D j h hj]; omega), List.getElem?_eq_none (by omega)]
/-- What the last blocks hold: the bytes left over, and what is put behind them. -/
def tailD (l : List UInt8) : List UInt8 := l.drop (64 * (l.length / 64)) ++ padS l.length
theorem tailD_length (l : List UInt8) : (tailD l).length = if l.length % 64 ≤ 55 then 64 else 128 := by
  have h8 : (bitsB l.length).length = 8 := by simp [bitsB]
  simp only [tailD, padS, List.length_append, List.length_cons, List.length_nil, List.length_replicate, List.length_drop, h8, padN]
  split <;> omega
theorem tailD_eq (l : List UInt8) (m : Nat) : (l ++ padS l.length).drop (64 * (l.length / 64 + m)) = (tailD l).drop (64 * m) := by
  unfold tailD
  rw [Nat.mul_add, ← List.drop_drop, List.drop_append_of_le_length (by omega)]
theorem tailD_start (l : List UInt8) (r : List UInt8) (hr : r = l.drop (64 * (l.length / 64))) (L : Nat) (hL : L = (tailD l).length) : (r ++ List.replicate (L - r.length) 0).set r.length 128 = lastJ (tailD l) 0 := by
  have hl := tailD_length l
  have h8 : (bitsB l.length).length = 8 := by simp [bitsB]
  have hrl : r.length = l.length % 64 := by rw [hr, List.length_drop]; omega
  have e : lastJ (tailD l) 0 = r ++ ([128] ++ List.replicate (padN ((l.length + 1) % 64)) 0) ++ List.replicate 8 0 := by
    unfold lastJ
    have e1 : (tailD l).take ((tailD l).length - 8) = r ++ ([128] ++ List.replicate (padN ((l.length + 1) % 64)) 0) := by
      have : tailD l = (r ++ ([128] ++ List.replicate (padN ((l.length + 1) % 64)) 0)) ++ bitsB l.length := by unfold tailD padS; rw [hr]; simp
      rw [this]
      apply List.take_left'
      simp [h8]; omega
    rw [e1]
    simp
  rw [e, hL]
  have hp : L - r.length = 1 + padN ((l.length + 1) % 64) + 8 := by
    have : tailD l = (r ++ ([128] ++ List.replicate (padN ((l.length + 1) % 64)) 0)) ++ bitsB l.length := by unfold tailD padS; rw [hr]; simp
    rw [hL, this]
    simp [h8]; omega
  rw [← hL, hp, show 1 + padN ((l.length + 1) % 64) + 8 = (padN ((l.length + 1) % 64) + 8) + 1 by omega, List.replicate_succ, List.set_append_right _ _ (Nat.le_refl _), Nat.sub_self, List.set_cons_zero, ← List.replicate_append_replicate]
  simp
theorem tailD_bits (l : List UInt8) (h : l.length < 1000000000000000) (m : Nat) (hm : m < 8) : (tailD l)[(tailD l).length - 1 - m]? = some (UInt8.ofNat (8 * l.length / 256 ^ m)) := by
  have h8 : (bitsB l.length).length = 8 := by simp [bitsB]
  have hlen : (tailD l).length = (l.drop (64 * (l.length / 64)) ++ ([128] ++ List.replicate (padN ((l.length + 1) % 64)) 0)).length + 8 := by
    unfold tailD padS; simp [h8]; omega
  have e : tailD l = (l.drop (64 * (l.length / 64)) ++ ([128] ++ List.replicate (padN ((l.length + 1) % 64)) 0)) ++ bitsB l.length := by unfold tailD padS; simp
  rw [hlen]
  rw [e, List.getElem?_append_right (by omega)]
  generalize (l.drop (64 * (l.length / 64)) ++ ([128] ++ List.replicate (padN ((l.length + 1) % 64)) 0)).length = q
  rw [show q + 8 - 1 - m - q = 7 - m by omega]
  simp only [bitsB, List.getElem?_map, List.getElem?_range (show 7 - m < 8 by omega), Option.map_some]
  rw [Nat.mod_eq_of_lt (by omega), show 56 - 8 * (7 - m) = 8 * m by omega, Nat.pow_mul]
theorem tailD_end (l : List UInt8) (h : l.length < 1000000000000000) (j : Nat) (hj : j ≤ 8) (h0 : 8 * l.length / 256 ^ j = 0) : lastJ (tailD l) j = tailD l := by
  have hl := tailD_length l
  refine lastJ_end _ j (by split at hl <;> omega) hj fun m h1 h2 => ?_
  rw [tailD_bits l h m h2]
  have : 8 * l.length / 256 ^ m = 0 := by
    have hp : 256 ^ j ≤ 256 ^ m := Nat.pow_le_pow_right (by decide) h1
    have : 8 * l.length < 256 ^ j := by
      rcases Nat.lt_or_ge (8 * l.length) (256 ^ j) with g | g
      · exact g
      · have := Nat.div_pos g (Nat.pow_pos (by decide)); omega
    exact Nat.div_eq_of_lt (by omega)
  rw [this]; rfl
end Go.Proofs.YtlkojkjeklblkaaGreat
