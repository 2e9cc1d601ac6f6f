/- Sums (chapter 2) by blocks of 64 bytes: the same as byte by byte. No program in sight. Sums by blocks: the last one or two blocks as the document's own text lays them. No program in sight. The model's operations on [8]uint32 and [16]uint32, at this program's numbers. Contracts of the document's own sums: a block. -/
import Derived.Test.YtlkojkjeklblkaaGreatShaH
import Derived.Test.YtlkojkjeklblkaaGreatQTail
import Derived.BigQuiet
import Derived.Deep.DeepCutAuto
import Derived.Deep.RegionLaw
import Derived.Deep.CutBlock
set_option linter.unusedSimpArgs false
set_option linter.unusedVariables false
namespace Go.Proofs.YtlkojkjeklblkaaGreat
/-- Word j of bytes, of whose four the first i are taken. -/
def wordB (l : List UInt8) (j : Nat) : Nat → Nat
  | 0 => 0
  | i + 1 => (wordB l j i * 256 % 4294967296) ||| (l.getD (4 * j + i) 0).toNat
def wordsB (l : List UInt8) : List Nat := (List.range 16).map fun j => wordB l j 4
theorem wordB_succ (l : List UInt8) (j i : Nat) : wordB l j (i + 1) = (wordB l j i * 256 % 4294967296) ||| (l.getD (4 * j + i) 0).toNat := rfl
theorem byte_lt (b : UInt8) : b.toNat < 256 := b.toNat_lt
theorem or_byte (a : Nat) (c : Nat) (hc : c < 256) : a * 256 ||| c = a * 256 + c := by
  have := Nat.shiftLeft_add_eq_or_of_lt (b := c) (i := 8) hc a
  rw [Nat.shiftLeft_eq] at this
  exact this.symm
theorem times_lt {A B c : Nat} (h : A < B) (hc : c < 256) : A * 256 + c < B * 2 ^ 8 := by
  rw [show (2 : Nat) ^ 8 = 256 from rfl]; omega
theorem wordB_lt (l : List UInt8) (j : Nat) : ∀ i, i ≤ 4 → wordB l j i < 2 ^ (8 * i)
  | 0, _ => by show (0 : Nat) < _; exact Nat.two_pow_pos _
  | i + 1, h => by
    have ih := wordB_lt l j i (by omega)
    have hc := byte_lt (l.getD (4 * j + i) 0)
    have hp : wordB l j i * 256 < 4294967296 := by
      have : 2 ^ (8 * i) ≤ 2 ^ 24 := Nat.pow_le_pow_right (by decide) (by omega)
      omega
    rw [wordB_succ, Nat.mod_eq_of_lt hp, or_byte _ _ hc, show 8 * (i + 1) = 8 * i + 8 by omega, Nat.pow_add]
    exact times_lt ih hc
theorem wordB_add (l : List UInt8) (j i : Nat) (h : i < 4) : wordB l j (i + 1) = wordB l j i * 256 + (l.getD (4 * j + i) 0).toNat := by
  have ih := wordB_lt l j i (by omega)
  have hc := byte_lt (l.getD (4 * j + i) 0)
  have hp : wordB l j i * 256 < 4294967296 := by
    have : 2 ^ (8 * i) ≤ 2 ^ 24 := Nat.pow_le_pow_right (by decide) (by omega)
    omega
  rw [wordB_succ, Nat.mod_eq_of_lt hp, or_byte _ _ hc]
theorem wordB_u32 (l : List UInt8) (j i : Nat) (h : i ≤ 4) : wordB l j i < 4294967296 := by
  have := wordB_lt l j i h
  have : 2 ^ (8 * i) ≤ 2 ^ 32 := Nat.pow_le_pow_right (by decide) (by omega)
  omega
theorem wordsB_lt (l : List UInt8) : ∀ x ∈ wordsB l, x < 4294967296 := by
  intro x hx
  simp only [wordsB, List.mem_map, List.mem_range] at hx
  obtain ⟨j, _, rfl⟩ := hx
  exact wordB_u32 l j 4 (by omega)
theorem wordsB_length (l : List UInt8) : (wordsB l).length = 16 := by simp [wordsB]
/-- Entry j of the words while k bytes are taken in. -/
def fedE (l : List UInt8) (k j : Nat) : Nat := wordB l j (min (k - 4 * j) 4) * 2 ^ (8 * (4 - min (k - 4 * j) 4))
def fedW (l : List UInt8) (k : Nat) : List Nat := (List.range 64).map fun j => if j < 16 then fedE l k j else 0
theorem fedW_length (l : List UInt8) (k : Nat) : (fedW l k).length = 64 := by simp [fedW]
theorem fedW_get? (l : List UInt8) (k j : Nat) (h : j < 64) : (fedW l k)[j]? = some (if j < 16 then fedE l k j else 0) := by
  simp only [fedW, List.getElem?_map, List.getElem?_range h, Option.map_some]
theorem fedW_zero (l : List UInt8) : fedW l 0 = List.replicate 64 0 := by
  apply List.ext_getElem?
  intro j
  by_cases hj : j < 64
  · rw [fedW_get? l 0 j hj, List.getElem?_replicate, if_pos hj]
    simp [fedE, wordB]
  · rw [List.getElem?_eq_none (by rw [fedW_length]; omega), List.getElem?_eq_none (by simp; omega)]
theorem fedE_other (l : List UInt8) (k j : Nat) (h : j ≠ k / 4) : fedE l (k + 1) j = fedE l k j := by
  unfold fedE
  by_cases h2 : j < k / 4
  · rw [show min (k + 1 - 4 * j) 4 = 4 by omega, show min (k - 4 * j) 4 = 4 by omega]
  · rw [show min (k + 1 - 4 * j) 4 = 0 by omega, show min (k - 4 * j) 4 = 0 by omega]
theorem fedE_same (l : List UInt8) (k : Nat) : fedE l (k + 1) (k / 4) = fedE l k (k / 4) ||| (l.getD k 0).toNat * 2 ^ (24 - 8 * (k % 4)) % 4294967296 := by
  obtain ⟨j, i, hi, rfl⟩ : ∃ j i, i < 4 ∧ k = 4 * j + i := ⟨k / 4, k % 4, by omega, by omega⟩
  have e1 : (4 * j + i) / 4 = j := by omega
  have e2 : (4 * j + i) % 4 = i := by omega
  rw [e1, e2]
  unfold fedE
  rw [show min (4 * j + i + 1 - 4 * j) 4 = i + 1 by omega, show min (4 * j + i - 4 * j) 4 = i by omega, wordB_add l j i hi]
  have hl := wordB_lt l j i (by omega)
  have hc := byte_lt (l.getD (4 * j + i) 0)
  generalize wordB l j i = A at *
  generalize (l.getD (4 * j + i) 0).toNat = c at *
  have hp : c * 2 ^ (24 - 8 * i) < 4294967296 := by
    have : 2 ^ (24 - 8 * i) ≤ 2 ^ 24 := Nat.pow_le_pow_right (by decide) (by omega)
    calc c * 2 ^ (24 - 8 * i) ≤ c * 2 ^ 24 := Nat.mul_le_mul_left _ this
      _ < 4294967296 := by omega
  rw [Nat.mod_eq_of_lt hp, ← or_byte A c hc, show 8 * (4 - (i + 1)) = 24 - 8 * i by omega, show 8 * (4 - i) = 8 + (24 - 8 * i) by omega, Nat.pow_add, ← Nat.mul_assoc, ← Nat.shiftLeft_eq (A * 256 ||| c), ← Nat.shiftLeft_eq c, Nat.shiftLeft_or_distrib, Nat.shiftLeft_eq (A * 256)]
theorem fedW_next (l : List UInt8) (k : Nat) (hk : k < 64) : fedW l (k + 1) = (fedW l k).set (k / 4) ((fedW l k).getD (k / 4) 0 ||| (l.getD k 0).toNat * 2 ^ (24 - 8 * (k % 4)) % 4294967296) := by
  have h4 : k / 4 < 16 := by omega
  apply List.ext_getElem?
  intro j
  by_cases hj : j < 64
  · rw [fedW_get? _ _ j hj, List.getElem?_set, fedW_length, fedW_get? _ _ j hj]
    by_cases e : k / 4 = j
    · subst e
      rw [if_pos rfl, if_pos h4, if_pos hj, List.getD, fedW_get? _ _ _ hj, if_pos h4, Option.getD_some, fedE_same]
    · rw [if_neg e]
      by_cases h16 : j < 16
      · rw [if_pos h16, if_pos h16, fedE_other l k j (fun h => e h.symm)]
      · rw [if_neg h16, if_neg h16]
  · rw [List.getElem?_eq_none (by rw [fedW_length]; omega), List.getElem?_eq_none (by rw [List.length_set, fedW_length]; omega)]
theorem fedW_all (l : List UInt8) : (fedW l 64).take 16 = wordsB l := by
  apply List.ext_getElem?
  intro j
  by_cases hj : j < 16
  · rw [List.getElem?_take, if_pos hj, fedW_get? _ _ j (by omega), if_pos hj]
    simp only [wordsB, List.getElem?_map, List.getElem?_range hj, Option.map_some, fedE]
    rw [show min (64 - 4 * j) 4 = 4 by omega]
    simp
  · rw [List.getElem?_take, if_neg hj, List.getElem?_eq_none (by rw [wordsB_length]; omega)]
theorem SumV.feed_part (h : St) (all : Nat) (l : List UInt8) (hl : l.length = 64) : ∀ k, k ≤ 63 → (⟨h, List.replicate 64 0, 0, all⟩ : SumV).feed (l.take k) = ⟨h, fedW l k, k, all⟩
  | 0, _ => by rw [fedW_zero]; rfl
  | k + 1, hk => by
    have e : l.take (k + 1) = l.take k ++ [l.getD k 0] := by
      rw [List.take_add_one]
      simp [List.getD, show k < l.length by omega]
    rw [e, SumV.feed_append, SumV.feed_part h all l hl k (by omega), SumV.feed_one]
    unfold SumV.takeB
    rw [if_neg (by simp only; omega)]
    unfold SumV.putB
    simp only
    rw [← fedW_next l k (by omega)]
/-- 64 bytes taken in: one block. -/
theorem SumV.feed_block (h : St) (all : Nat) (l : List UInt8) (hl : l.length = 64) : (⟨h, List.replicate 64 0, 0, all⟩ : SumV).feed l = ⟨compressS h (wordsB l), List.replicate 64 0, 0, all⟩ := by
  have e : l = l.take 63 ++ [l.getD 63 0] := by
    have h1 : l.take 64 = l := by rw [← hl]; exact List.take_length
    have h2 : l.take 64 = l.take 63 ++ [l.getD 63 0] := by
      rw [show (64 : Nat) = 63 + 1 from rfl, List.take_add_one]
      simp [List.getD, show 63 < l.length by omega]
    rw [← h2, h1]
  have key : ((⟨h, List.replicate 64 0, 0, all⟩ : SumV).feed (l.take 63)).feed [l.getD 63 0] = ⟨compressS h (wordsB l), List.replicate 64 0, 0, all⟩ := by
    rw [SumV.feed_part h all l hl 63 (by omega), SumV.feed_one]
    unfold SumV.takeB
    rw [if_pos (by simp only)]
    unfold SumV.putB
    simp only
    rw [← fedW_next l 63 (by omega), fedW_all]
  rw [← SumV.feed_append, ← e] at key
  exact key
/-- The state behind the first n blocks. -/
def blocksN (h : St) (l : List UInt8) : Nat → St
  | 0 => h
  | n + 1 => compressS (blocksN h l n) (wordsB ((l.drop (64 * n)).take 64))
theorem SumV.feed_blocks (h : St) (all : Nat) (l : List UInt8) : ∀ n, 64 * n ≤ l.length → (⟨h, List.replicate 64 0, 0, all⟩ : SumV).feed (l.take (64 * n)) = ⟨blocksN h l n, List.replicate 64 0, 0, all⟩
  | 0, _ => rfl
  | n + 1, hn => by
    have e : l.take (64 * (n + 1)) = l.take (64 * n) ++ (l.drop (64 * n)).take 64 := by
      rw [show 64 * (n + 1) = 64 * n + 64 by omega, List.take_add]
    rw [e, SumV.feed_append, SumV.feed_blocks h all l n (by omega), SumV.feed_block _ _ _ (by simp; omega)]
    rfl
theorem blocksN_append (h : St) (l m : List UInt8) (n : Nat) (hn : 64 * n ≤ l.length) : blocksN h (l ++ m) n = blocksN h l n := by
  induction n with
  | zero => rfl
  | succ n ih =>
    have e : ((l ++ m).drop (64 * n)).take 64 = (l.drop (64 * n)).take 64 := by
      rw [List.drop_append_of_le_length (by omega), List.take_append_of_le_length (by simp; omega)]
    simp only [blocksN]
    rw [ih (by omega), e]
theorem blocksN_lt (h : St) (hh : ∀ x ∈ h.l, x < 4294967296) (l : List UInt8) (n : Nat) : ∀ x ∈ (blocksN h l n).l, x < 4294967296 := by
  cases n with
  | zero => exact hh
  | succ n => exact St.add_lt _ _
theorem ivS_lt : ∀ x ∈ ivS.l, x < 4294967296 := by decide
/-- What is put behind the bytes: the mark, nothing, the number of bits. -/
def padS (n : Nat) : List UInt8 := [128] ++ List.replicate (padN ((n + 1) % 64)) 0 ++ bitsB n
theorem padS_length (n : Nat) : (n + (padS n).length) % 64 = 0 := by
  have h8 : (bitsB n).length = 8 := by simp [bitsB]
  simp only [padS, List.length_append, List.length_cons, List.length_nil, List.length_replicate, h8, padN]
  omega
theorem SumV.ended_eq (s : SumV) (h : s.ok) (n : Nat) (hn : s.hv = n % 64) (ha : s.all = n) : s.ended = s.feed (padS n) := by
  have hv : (s.feed [128]).hv = (n + 1) % 64 := by
    rw [SumV.feed_hv _ _ h, hn]
    simp only [List.length_cons, List.length_nil]; omega
  unfold SumV.ended padS
  rw [hv, ha, SumV.feed_append, SumV.feed_append]
theorem shaS_blocks (l : List UInt8) (n : Nat) (hn : 64 * n = (l ++ padS l.length).length) : (shaS l).l = hashB (blocksN ivS (l ++ padS l.length) n) := by
  have h1 := SumV.feed_blocks ivS 0 (l ++ padS l.length) n (by omega)
  rw [hn, List.take_length] at h1
  have h0 := SumV.feed_ok SumV.ini_ok l
  have hv := SumV.feed_hv l _ SumV.ini_ok
  have hv2 : (SumV.ini.feed l).hv = l.length % 64 := by rw [hv]; simp [SumV.ini]
  have h2 := SumV.ended_eq ({ SumV.ini.feed l with all := l.length } : SumV) h0 l.length hv2 rfl
  show hashB ({ SumV.ini.feed l with all := l.length } : SumV).ended.h = _
  rw [h2, SumV.feed_all]
  show hashB ((SumV.ini.feed l).feed (padS l.length)).h = _
  rw [← SumV.feed_append, show SumV.ini = ⟨ivS, List.replicate 64 0, 0, 0⟩ from rfl, h1]
end Go.Proofs.YtlkojkjeklblkaaGreat
namespace Go.Proofs.YtlkojkjeklblkaaGreat
/-- A list, of whose last eight the first 8 - j are nought. -/
def lastJ (D : List UInt8) (j : Nat) : List UInt8 := D.take (D.length - 8) ++ List.replicate (8 - j) 0 ++ D.drop (D.length - j)
theorem lastJ_length (D : List UInt8) (j : Nat) (h : 8 ≤ D.length) (hj : j ≤ 8) : (lastJ D j).length = D.length := by
  simp [lastJ]; omega
theorem lastJ_get? (D : List UInt8) (j i : Nat) (h : 8 ≤ D.length) (hj : j ≤ 8) (hi : i < D.length) : (lastJ D j)[i]? = if D.length - 8 ≤ i ∧ i < D.length - j then some 0 else D[i]? := by
  unfold lastJ
  rw [List.append_assoc, List.getElem?_append, List.length_take, List.getElem?_append, List.length_replicate]
  by_cases h1 : i < D.length - 8
  · rw [if_pos (by omega), if_neg (by omega), List.getElem?_take, if_pos h1]
  · rw [if_neg (by omega)]
    by_cases h2 : i < D.length - j
    · rw [if_pos (by omega), if_pos (by omega), List.getElem?_replicate, if_pos (by omega)]
    · rw [if_neg (by omega), if_neg (by omega), List.getElem?_drop]
      congr 1; omega
theorem lastJ_set (D : List UInt8) (j : Nat) (h : 8 ≤ D.length) (hj : j < 8) (x : UInt8) (hx : D[D.length - 1 - j]? = some x) : (lastJ D j).set (D.length - 1 - j) x = lastJ D (j + 1) := by
  apply List.ext_getElem?
  intro i
  by_cases hi : i < D.length
  · rw [List.getElem?_set, lastJ_length D j h (by omega), lastJ_get? D j i h (by omega) hi, lastJ_get? D (j + 1) i h (by omega) hi]
    by_cases e : D.length - 1 - j = i
    · subst e
      rw [if_pos rfl, if_pos hi, if_neg (by omega), hx]
    · rw [if_neg e]
      by_cases h1 : D.length - 8 ≤ i ∧ i < D.length - j
      · rw [if_pos h1, if_pos (by omega)]
      · rw [if_neg h1, if_neg (by omega)]
  · rw [List.getElem?_eq_none (by rw [List.length_set, lastJ_length D j h (by omega)]; omega), List.getElem?_eq_none (by rw [lastJ_length D (j + 1) h (by omega)]; omega)]
theorem lastJ_end (D : List UInt8) (j : Nat) (h : 8 ≤ D.length) (hj : j ≤ 8) (h0 : ∀ m, j ≤ m → m < 8 → D[D.length - 1 - m]? = some 0) : lastJ D j = D := by
  apply List.ext_getElem?
  intro i
  by_cases hi : i < D.length
  · rw [lastJ_get? D j i h hj hi]
    by_cases h1 : D.length - 8 ≤ i ∧ i < D.length - j
    · rw [if_pos h1, ← h0 (D.length - 1 - i) (by omega) (by omega)]
      congr 1; omega
    · rw [if_neg h1]
  · rw [List.getElem?_eq_none (by rw [lastJ_length D j h hj]; omega), List.getElem?_eq_none (by omega)]
/-- What the last blocks hold: the bytes left over, and what is put behind them. -/
def tailD (l : List UInt8) : List UInt8 := l.drop (64 * (l.length / 64)) ++ padS l.length
theorem tailD_length (l : List UInt8) : (tailD l).length = if l.length % 64 ≤ 55 then 64 else 128 := by
  have h8 : (bitsB l.length).length = 8 := by simp [bitsB]
  simp only [tailD, padS, List.length_append, List.length_cons, List.length_nil, List.length_replicate, List.length_drop, h8, padN]
  split <;> omega
theorem tailD_eq (l : List UInt8) (m : Nat) : (l ++ padS l.length).drop (64 * (l.length / 64 + m)) = (tailD l).drop (64 * m) := by
  unfold tailD
  rw [Nat.mul_add, ← List.drop_drop, List.drop_append_of_le_length (by omega)]
theorem tailD_start (l : List UInt8) (r : List UInt8) (hr : r = l.drop (64 * (l.length / 64))) (L : Nat) (hL : L = (tailD l).length) : (r ++ List.replicate (L - r.length) 0).set r.length 128 = lastJ (tailD l) 0 := by
  have hl := tailD_length l
  have h8 : (bitsB l.length).length = 8 := by simp [bitsB]
  have hrl : r.length = l.length % 64 := by rw [hr, List.length_drop]; omega
  have e : lastJ (tailD l) 0 = r ++ ([128] ++ List.replicate (padN ((l.length + 1) % 64)) 0) ++ List.replicate 8 0 := by
    unfold lastJ
    have e1 : (tailD l).take ((tailD l).length - 8) = r ++ ([128] ++ List.replicate (padN ((l.length + 1) % 64)) 0) := by
      have : tailD l = (r ++ ([128] ++ List.replicate (padN ((l.length + 1) % 64)) 0)) ++ bitsB l.length := by unfold tailD padS; rw [hr]; simp
      rw [this]
      apply List.take_left'
      simp [h8]; omega
    rw [e1]
    simp
  rw [e, hL]
  have hp : L - r.length = 1 + padN ((l.length + 1) % 64) + 8 := by
    have : tailD l = (r ++ ([128] ++ List.replicate (padN ((l.length + 1) % 64)) 0)) ++ bitsB l.length := by unfold tailD padS; rw [hr]; simp
    rw [hL, this]
    simp [h8]; omega
  rw [← hL, hp, show 1 + padN ((l.length + 1) % 64) + 8 = (padN ((l.length + 1) % 64) + 8) + 1 by omega, List.replicate_succ, List.set_append_right _ _ (Nat.le_refl _), Nat.sub_self, List.set_cons_zero, ← List.replicate_append_replicate]
  simp
theorem tailD_bits (l : List UInt8) (h : l.length < 1000000000000000) (m : Nat) (hm : m < 8) : (tailD l)[(tailD l).length - 1 - m]? = some (UInt8.ofNat (8 * l.length / 256 ^ m)) := by
  have h8 : (bitsB l.length).length = 8 := by simp [bitsB]
  have hlen : (tailD l).length = (l.drop (64 * (l.length / 64)) ++ ([128] ++ List.replicate (padN ((l.length + 1) % 64)) 0)).length + 8 := by
    unfold tailD padS; simp [h8]; omega
  have e : tailD l = (l.drop (64 * (l.length / 64)) ++ ([128] ++ List.replicate (padN ((l.length + 1) % 64)) 0)) ++ bitsB l.length := by unfold tailD padS; simp
  rw [hlen]
  rw [e, List.getElem?_append_right (by omega)]
  generalize (l.drop (64 * (l.length / 64)) ++ ([128] ++ List.replicate (padN ((l.length + 1) % 64)) 0)).length = q
  rw [show q + 8 - 1 - m - q = 7 - m by omega]
  simp only [bitsB, List.getElem?_map, List.getElem?_range (show 7 - m < 8 by omega), Option.map_some]
  rw [Nat.mod_eq_of_lt (by omega), show 56 - 8 * (7 - m) = 8 * m by omega, Nat.pow_mul]
theorem tailD_end (l : List UInt8) (h : l.length < 1000000000000000) (j : Nat) (hj : j ≤ 8) (h0 : 8 * l.length / 256 ^ j = 0) : lastJ (tailD l) j = tailD l := by
  have hl := tailD_length l
  refine lastJ_end _ j (by split at hl <;> omega) hj fun m h1 h2 => ?_
  rw [tailD_bits l h m h2]
  have : 8 * l.length / 256 ^ m = 0 := by
    have hp : 256 ^ j ≤ 256 ^ m := Nat.pow_le_pow_right (by decide) h1
    have : 8 * l.length < 256 ^ j := by
      rcases Nat.lt_or_ge (8 * l.length) (256 ^ j) with g | g
      · exact g
      · have := Nat.div_pos g (Nat.pow_pos (by decide)); omega
    exact Nat.div_eq_of_lt (by omega)
  rw [this]; rfl
end Go.Proofs.YtlkojkjeklblkaaGreat
namespace Go.Proofs.YtlkojkjeklblkaaGreat
open Go.RowKit
/-- Eight words. -/
structure W8 where
  l : List Nat
  len : l.length = 8
def W8.arr (x : W8) : Array Value := (x.l.map w32).toArray
@[simp] theorem W8.size_arr (x : W8) : x.arr.size = 8 := by simp [W8.arr, x.len]
@[simp] theorem W8.length_arr (x : W8) : x.arr.toList.length = 8 := by simp [W8.arr, x.len]
def W8.zero : W8 := ⟨List.replicate 8 0, by simp⟩
def St.w8 (s : St) : W8 := ⟨s.l, rfl⟩
theorem one_W8 (x : W8) : ∀ v ∈ x.arr.toList, v.oneCell' = true := by
  intro v hv; simp [W8.arr] at hv; obtain ⟨b, _, rfl⟩ := hv; rfl
@[simp] theorem W8.ext_all (x : W8) : x.arr.extract 0 8 = x.arr := by rw [show 8 = x.arr.size by simp]; exact Array.extract_size
theorem zero_W8 : (Tryz.prog.info? 255).map (·.zero) = some (some (.agg W8.zero.arr)) := by kernel_rfl
theorem size_W8 : (Tryz.prog.info? 255).map (·.size) = some 8 := by kernel_rfl
@[go_sem ↓] theorem execOp_alloc_W8 (ρ : Operand → Value) (dst : Option Tmp) (ty : TypeId) (pos : String) (after : Array Edge) (guard : Option (Nat × Bool)) : execOp ρ { dst := dst, op := .alloc 255, type := ty, pos := pos, after := after, guard := guard } = (do pure (.value (← allocS 255))) := rfl
@[go_sem] theorem alloc_W8 (w : World) : (allocS 255).run Tryz.prog w = .ok (.pointer (some ⟨w.heap.size, 0, none⟩)) (w.alloc (.cells W8.zero.arr 255)) := run_alloc zero_W8 _ w
@[go_sem ↓] theorem execOp_load_W8 (x : Operand) (ρ : Operand → Value) (dst : Option Tmp) (ty : TypeId) (pos : String) (after : Array Edge) (guard : Option (Nat × Bool)) : execOp ρ { dst := dst, op := .load 255 x, type := ty, pos := pos, after := after, guard := guard } = (do pure (.value (← loadS 255 (ρ x)))) := rfl
@[go_sem] theorem loads_W8 (a : Addr) (w : World) (h : (row? w a 8).isSome = true) : (loadS 255 (.pointer (some a))).run Tryz.prog w = .ok (.agg ((row? w a 8).getD #[])) w := aggLoad_row Tryz.underlying255 rfl size_W8 a w h
@[go_sem ↓] theorem execOp_store_W8 (x v : Operand) (ρ : Operand → Value) (dst : Option Tmp) (ty : TypeId) (pos : String) (after : Array Edge) (guard : Option (Nat × Bool)) : execOp ρ { dst := dst, op := .store 255 x v, type := ty, pos := pos, after := after, guard := guard } = (do storeS 255 (ρ x) (ρ v); pure .skip) := rfl
@[go_sem] theorem stores_W8 (b off : Nat) (y : W8) (w : World) (h : (row? w ⟨b, off, none⟩ 8).isSome = true) (hf : rowFree w ⟨b, off, none⟩ 8) : (storeS 255 (.pointer (some ⟨b, off, none⟩)) (.agg y.arr)).run Tryz.prog w = .ok () (putRow w ⟨b, off, none⟩ y.arr) := aggStore_row size_W8 b off y.arr (by simp) (one_W8 y) w h hf
@[go_sem] theorem put_W8 (w : World) (m : Nat) (hm : m = w.heap.size) (x y : W8) (t : TypeId) (fr : Nat × Nat) : putRow (w.alloc (.cells x.arr t fr)) ⟨m, 0, none⟩ y.arr = w.alloc (.cells y.arr t fr) := putRow_alloc w m 0 hm _ t fr [] x.arr.toList [] _ _ (by simp) rfl (by simp) (by simp)
/-- Sixteen words, none of them set. -/
def W16z : Array Value := (List.replicate 16 (w32 0)).toArray
theorem zero_W16 : (Tryz.prog.info? 290).map (·.zero) = some (some (.agg W16z)) := by kernel_rfl
@[go_sem ↓] theorem execOp_alloc_W16 (ρ : Operand → Value) (dst : Option Tmp) (ty : TypeId) (pos : String) (after : Array Edge) (guard : Option (Nat × Bool)) : execOp ρ { dst := dst, op := .alloc 290, type := ty, pos := pos, after := after, guard := guard } = (do pure (.value (← allocS 290))) := rfl
@[go_sem] theorem alloc_W16 (w : World) : (allocS 290).run Tryz.prog w = .ok (.pointer (some ⟨w.heap.size, 0, none⟩)) (w.alloc (.cells W16z 290)) := run_alloc zero_W16 _ w
/-- Block b holds words. -/
def wordsAt (X : World) (b : Nat) (t : TypeId) (l : List Nat) : Prop := X.heap[b]? = some (.cells (l.map w32).toArray t (0, 0))
theorem wordsAt.get {X : World} {b : Nat} {t : TypeId} {l : List Nat} (h : wordsAt X b t l) {k : Nat} (hk : k < l.length) : X.cell? ⟨b, k, none⟩ = some (.int .u32 ((l.getD k 0 : Nat) : Int)) := by
  rw [(cells_known h).1]
  simp [hk, List.getD, w32]
theorem wordsAt.set {X : World} {b : Nat} {t : TypeId} {l : List Nat} (h : wordsAt X b t l) (k x : Nat) : wordsAt (X.setCell ⟨b, k, none⟩ (.int .u32 (x : Nat))) b t (l.set k x) := by
  unfold wordsAt
  rw [heap_set h]
  simp [List.map_set, w32]
theorem wordsAt.lt {X : World} {b : Nat} {t : TypeId} {l : List Nat} (h : wordsAt X b t l) : b < X.heap.size := (cells_known h).2.2
theorem wordsAt.upd {X Y : World} {b : Nat} {t : TypeId} {l : List Nat} {S : Nat → Prop} (h : wordsAt X b t l) (hu : Upd X Y S) (hb : ¬ S b) : wordsAt Y b t l := (hu.block b h.lt hb).trans h
theorem wordsAt.row {X : World} {b : Nat} {t : TypeId} {x : W8} (h : wordsAt X b t x.l) : row? X ⟨b, 0, none⟩ 8 = some x.arr := by
  have h1 : X.heap[b]? = some (.cells x.arr t (0, 0)) := h
  unfold row?
  simp only [h1]
  rw [if_pos (And.intro trivial (by simp))]
  simp
/-- The words of the round-going schedule ahead of step t. -/
def ringS (ws : List Nat) (t : Nat) : List Nat := (List.range 16).map fun j => if t ≤ j then 0 else wordS ws (j + 16 * ((t - 1 - j) / 16))
theorem ringS_length (ws : List Nat) (t : Nat) : (ringS ws t).length = 16 := by simp [ringS]
theorem ringS_get? (ws : List Nat) (t j : Nat) (h : j < 16) : (ringS ws t)[j]? = some (if t ≤ j then 0 else wordS ws (j + 16 * ((t - 1 - j) / 16))) := by
  simp only [ringS, List.getElem?_map, List.getElem?_range h, Option.map_some]
theorem ringS_get (ws : List Nat) (t j : Nat) (h : j < 16) : (ringS ws t).getD j 0 = if t ≤ j then 0 else wordS ws (j + 16 * ((t - 1 - j) / 16)) := by
  rw [List.getD, ringS_get? ws t j h, Option.getD_some]
theorem ringS_zero (ws : List Nat) : ringS ws 0 = List.replicate 16 0 := by
  apply List.ext_getElem?
  intro j
  by_cases hj : j < 16
  · rw [ringS_get? ws 0 j hj, List.getElem?_replicate, if_pos hj, if_pos (Nat.zero_le _)]
  · rw [List.getElem?_eq_none (by rw [ringS_length]; omega), List.getElem?_eq_none (by simp; omega)]
theorem ringS_next (ws : List Nat) (t : Nat) : ringS ws (t + 1) = (ringS ws t).set (t % 16) (wordS ws t) := by
  apply List.ext_getElem?
  intro j
  by_cases hj : j < 16
  · rw [ringS_get? _ _ j hj, List.getElem?_set, ringS_length, ringS_get? _ _ j hj]
    by_cases e : t % 16 = j
    · subst e
      rw [if_pos rfl, if_pos hj, if_neg (by omega)]
      congr 2
      omega
    · rw [if_neg e]
      congr 1
      by_cases h : t ≤ j
      · rw [if_pos h, if_pos (by omega)]
      · rw [if_neg h, if_neg (by omega)]
        congr 1
        omega
  · rw [List.getElem?_eq_none (by rw [ringS_length]; omega), List.getElem?_eq_none (by rw [List.length_set, ringS_length]; omega)]
/-- An elder word in the ring. -/
theorem ringS_old (ws : List Nat) (n t : Nat) (h1 : n < t) (h2 : t ≤ n + 16) : (ringS ws t).getD (n % 16) 0 = wordS ws n := by
  rw [ringS_get ws t _ (Nat.mod_lt _ (by decide)), if_neg (by omega)]
  congr 1
  omega
theorem wordsB_get (l : List UInt8) (t : Nat) (h : t < 16) : wordS (wordsB l) t = wordB l t 4 := by
  rw [wordS_low (wordsB_length l) t h, wordsB, List.getD, List.getElem?_map, List.getElem?_range h]
  rfl
theorem ringS_at (ws : List Nat) (t : Nat) (h : t < 16) : (ringS ws t).set t 0 = ringS ws t := by
  apply List.ext_getElem?
  intro j
  rw [List.getElem?_set, ringS_length]
  by_cases e : t = j
  · subst e
    rw [if_pos rfl, if_pos h, ringS_get? ws t t h, if_pos (Nat.le_refl _)]
  · rw [if_neg e]
theorem ringS_low (l : List UInt8) (t : Nat) (h : t < 16) : (ringS (wordsB l) t).set t (wordB l t 4) = ringS (wordsB l) (t + 1) := by
  rw [ringS_next, wordsB_get l t h, Nat.mod_eq_of_lt h]
/-- Eight words of which those above place i are moved up. -/
def shiftS (s : St) (i : Nat) : List Nat := (List.range 8).map fun j => if i < j then s.l.getD (j - 1) 0 else s.l.getD j 0
theorem shiftS_top (s : St) : shiftS s 7 = s.l := rfl
theorem shiftS_end (s : St) : shiftS s 0 = [s.a, s.a, s.b, s.c, s.d, s.e, s.f, s.g] := rfl
theorem shiftS_length (s : St) (i : Nat) : (shiftS s i).length = 8 := by simp [shiftS]
theorem shiftS_step (s : St) (i : Nat) (h : i < 7) : (shiftS s (i + 1)).set (i + 1) ((shiftS s (i + 1)).getD i 0) = shiftS s i := by
  match i, h with
  | 0, _ | 1, _ | 2, _ | 3, _ | 4, _ | 5, _ | 6, _ => rfl
theorem wraps_62 (n : Int) (h₀ : 0 ≤ n) (h₁ : n < 2 ^ 62) : IntKind.i64.wrap n = n := by rw [IntKind.wrap_i64]; omega
theorem and15 (n : Nat) (h : n < 4611686018427387904) : bits .and .i64 (n : Int) 15 = ((n % 16 : Nat) : Int) := by
  have h1 := (bits_nat .i64 62 (by decide) wraps_62 n 15 h (by decide)).1
  rw [← Nat.and_two_pow_sub_one_eq_mod n 4]
  exact h1
/-- Eight words stored over a block that holds one, at the operation. -/
theorem wpList_storeW8 {w : World} {ops : Array Oper} {rest : List Oper} {o : Oper} {a : Act} {Q : Exit → Act → World → Prop} (x v : Operand) (hop : o.op = Op.store 255 x v) (hg : o.guard = none)
    (b : Nat) (y z : W8) (hx : a.eval x = .pointer (some ⟨b, 0, none⟩)) (hv : a.eval v = .agg y.arr) (h : w.heap[b]? = some (.cells z.arr 255 (0, 0)))
    (hK : ∀ w', w'.heap[b]? = some (.cells y.arr 255 (0, 0)) → Upd w w' (fun k => k = b) → wpList Tryz.prog ops Q rest (a.put o.dst undef) w') : wpList Tryz.prog ops Q (o :: rest) a w := by
  refine wpList_plain hg fun K' hK' => ?_
  have hrow : row? w ⟨b, 0, none⟩ 8 = some z.arr := by
    unfold row?
    simp only [h]
    rw [if_pos (And.intro trivial (by simp))]
    congr 1
    rw [show 0 + 8 = z.arr.size by simp]
    exact Array.extract_size
  have hrun : (Instr.storeAt 255 (.pointer (some ⟨b, 0, none⟩)) (.agg y.arr)).run Tryz.prog w = .ok () (putRow w ⟨b, 0, none⟩ y.arr) := stores_W8 b 0 y w (by rw [hrow]; rfl) (fun j _ => (cells_known h).2.1 _)
  unfold Oper.wp
  obtain ⟨dst, op, ty, pos, after, guard⟩ := o
  simp only at hop
  subst hop
  rw [execOp_store_W8]
  unfold storeS
  rw [hx, hv]
  simp only [Sem.run_bind, hrun, Result.andThen_ok, Sem.run_pure]
  refine hK' _ _ (hK _ ?_ (setCells_upd b _ 0 w))
  have hh := heap_setCells y.arr.toList 0 w _ h
  have e := putRow_eq 0 [] z.arr.toList [] y.arr.toList rfl (by simp)
  simp only [List.nil_append, List.append_nil, Array.toArray_toList] at e
  rw [e] at hh
  exact hh
theorem mixH_setL (a b : St) (k : Nat) (hk : k < 8) : (mixH a b k).l.set k ((a.l.getD k 0 + b.l.getD k 0) % 4294967296) = (mixH a b (k + 1)).l := by
  match k, hk with
  | 0, _ | 1, _ | 2, _ | 3, _ | 4, _ | 5, _ | 6, _ | 7, _ => rfl
theorem St.l_length (s : St) : s.l.length = 8 := rfl
end Go.Proofs.YtlkojkjeklblkaaGreat
namespace Go.Proofs.YtlkojkjeklblkaaGreat
open Go.RowKit
set_option maxRecDepth 100000 in
set_option maxHeartbeats 4000000 in
theorem chunk_ref (s : St) (hs : ∀ x ∈ s.l, x < 4294967296) (b off c : Nat) (l : List UInt8) (hl : l.length = 64) (w : World) (hb : b < w.heap.size) (hc : ∀ k (h : k < l.length), w.cell? ⟨b, off + k, none⟩ = some (byteV l[k])) :
    Calls Tryz.prog 156 #[.agg s.w8.arr, .slice (some ⟨b, off, none⟩) 64 c] w fun e w' => e = .returned (.agg (compressS s (wordsB l)).w8.arr) ∧ Below w.heap.size w w' := by
  go_enter Tryz.func156, Tryz.ntmps156
  go_wp2_with (go_at_call 194; refine (steps_ref _).mono ?_; rintro e w1 ⟨rfl, rfl⟩)
  obtain ⟨V, hV⟩ : ∃ V, V = (((w.alloc (.cells s.w8.arr 255)).alloc (.cells W8.zero.arr 255)).alloc (.cells W64.roots.arr 254)).alloc (.cells W16z 290) := ⟨_, rfl⟩
  rw [← hV]
  obtain ⟨sb, hsb⟩ : ∃ n, n = w.heap.size := ⟨_, rfl⟩
  rw [← hsb]
  have hh : ∀ o : Nat, o < 4 → V.heap[w.heap.size + o]? = [Obj.cells s.w8.arr 255 (0, 0), .cells W8.zero.arr 255 (0, 0), .cells W64.roots.arr 254 (0, 0), .cells W16z 290 (0, 0)][o]? := by
    intro o ho
    rw [hV]
    simp only [World.alloc, Array.getElem?_push, Array.size_push]
    match o, ho with
    | 0, _ => rw [if_neg (by omega), if_neg (by omega), if_neg (by omega), if_pos (by omega)]; rfl
    | 1, _ => rw [if_neg (by omega), if_neg (by omega), if_pos (by omega)]; rfl
    | 2, _ => rw [if_neg (by omega), if_pos (by omega)]; rfl
    | 3, _ => rw [if_pos (by omega)]; rfl
  have hS : wordsAt V sb 255 s.w8.l := by have := hh 0 (by omega); rw [hsb]; exact this
  have hR : wordsAt V (sb + 1) 255 W8.zero.l := by have := hh 1 (by omega); rw [hsb]; exact this
  have hK : wordsAt V (sb + 1 + 1) 254 shaK := by have := hh 2 (by omega); rw [hsb]; exact this
  have hW : wordsAt V (sb + 1 + 1 + 1) 290 (ringS (wordsB l) 0) := by have := hh 3 (by omega); rw [hsb, ringS_zero]; exact this
  have hVs : V.heap.size = sb + 1 + 1 + 1 + 1 := by rw [hV, hsb]; simp
  have hbV : Below w.heap.size w V := hV ▸ ((((Below.refl _ _).alloc (Nat.le_refl _) _).alloc (by simp) _).alloc (by simp; omega) _).alloc (by simp; omega) _
  have hcV : ∀ k (h : k < l.length), V.cell? ⟨b, off + k, none⟩ = some (byteV l[k]) := fun k h => by
    rw [← hc k h]; exact hbV.cell (p := ⟨b, off + k, none⟩) hb
  have rS := hS.row
  have HSB := Lib.hid hsb
  have HVS := Lib.hid hVs
  clear hV hh hsb hVs
  go_wp2_with fail
  obtain ⟨U, hU⟩ : ∃ U, U = V.alloc (.cells s.w8.arr 255) := ⟨_, rfl⟩
  obtain ⟨ab, hab⟩ : ∃ n, n = V.heap.size := ⟨_, rfl⟩
  obtain ⟨wb, hwb⟩ : ∃ n, n = sb + 1 + 1 + 1 := ⟨_, rfl⟩
  obtain ⟨kb, hkb⟩ : ∃ n, n = sb + 1 + 1 := ⟨_, rfl⟩
  obtain ⟨rb, hrb⟩ : ∃ n, n = sb + 1 := ⟨_, rfl⟩
  have hs0 := HSB.out
  have hVs := HVS.out
  rw [← hwb] at hW
  rw [← hkb] at hK
  rw [← hrb] at hR
  rw [← hU, show sb + 1 + 1 + 1 + 1 = ab by rw [hab, hVs], ← hwb, ← hkb, ← hrb]
  have hVU : Upd V U (fun _ => False) := hU ▸ Upd.of_below ((Below.refl V.heap.size V).alloc (Nat.le_refl _) _) _
  have hAU : wordsAt U ab 255 s.l := by rw [hU, hab]; show (V.heap.push _)[V.heap.size]? = _; rw [Array.getElem?_push_size]; rfl
  have hSU := hS.upd hVU (fun h => h)
  have hRU := hR.upd hVU (fun h => h)
  have hKU := hK.upd hVU (fun h => h)
  have hWU := hW.upd hVU (fun h => h)
  have hbU : Below w.heap.size w U := hU ▸ hbV.alloc (by omega) _
  have hcU : ∀ k (h : k < l.length), U.cell? ⟨b, off + k, none⟩ = some (byteV l[k]) := fun k h => by
    rw [← hc k h]; exact hbU.cell (p := ⟨b, off + k, none⟩) hb
  have D : Hid (sb ≠ rb ∧ sb ≠ wb ∧ sb ≠ ab ∧ rb ≠ wb ∧ rb ≠ ab ∧ kb ≠ wb ∧ kb ≠ ab ∧ wb ≠ ab ∧ w.heap.size ≤ sb ∧ w.heap.size ≤ rb ∧ w.heap.size ≤ kb ∧ w.heap.size ≤ wb ∧ w.heap.size ≤ ab ∧ b ≠ wb ∧ b ≠ ab) := by unfold Hid; omega
  clear rS hS hR hK hW hcV hbV hVU hVs hU hs0 HSB HVS hwb hkb hrb hab
  go_loopw [8, 9, 10, 11, 12, 13, 14] (fun v _ _ _ _ _ _ wr => ∃ t : Nat, t ≤ 64 ∧ v = .int .i64 t ∧ Upd U wr (fun k => k = wb ∨ k = ab) ∧ wordsAt wr wb 290 (ringS (wordsB l) t) ∧ wordsAt wr ab 255 (stN (wordsB l) s t).l) (fun v _ _ _ _ _ _ _ => 64 - (intOf v).toNat)
  case atStart => exact ⟨0, by omega, rfl, Upd.refl _ _, hWU, hAU⟩
  case round =>
    obtain ⟨t, ht, rfl, hur, hWr, hAr⟩ := hrel
    by_cases hlt : t < 64
    · have dlt : decide ((t : Int) < 64) = true := decide_eq_true (by omega)
      go_upto_if 23 with fail
      go_cut [] (fun wx => Upd U wx (fun k => k = wb ∨ k = ab) ∧ wordsAt wx wb 290 (ringS (wordsB l) (t + 1)) ∧ wordsAt wx ab 255 (stN (wordsB l) s t).l)
      case first =>
        by_cases h16 : t < 16
        · have d16 : decide ((t : Int) < 16) = true := decide_eq_true (by omega)
          go_wp2_with fail
          go_loopw [9] (fun v wx => ∃ i : Nat, i ≤ 4 ∧ v = .int .i64 i ∧ Upd U wx (fun k => k = wb ∨ k = ab) ∧ wordsAt wx wb 290 ((ringS (wordsB l) t).set t (wordB l t i)) ∧ wordsAt wx ab 255 (stN (wordsB l) s t).l) (fun v _ => 4 - (intOf v).toNat)
          case atStart => exact ⟨0, by omega, rfl, hur, by rw [show wordB l t 0 = 0 from rfl, ringS_at _ t h16]; exact hWr, hAr⟩
          case round =>
            obtain ⟨i, hi, rfl, hui, hWi, hAi⟩ := hrel
            by_cases h4 : i < 4
            · have d4 : decide ((i : Int) < 4) = true := decide_eq_true (by omega)
              obtain ⟨m, hm⟩ : ∃ m, m = 4 * t + i := ⟨_, rfl⟩
              have hml : m < l.length := by omega
              obtain ⟨x, hx⟩ : ∃ x, x = wordB l t i := ⟨_, rfl⟩
              obtain ⟨y, hy⟩ : ∃ y, y = (l[m]).toNat := ⟨_, rfl⟩
              have cW : wr.cell? ⟨wb, t, none⟩ = some (.int .u32 (x : Nat)) := by
                have := hWi.get (k := t) (by simp [ringS_length]; omega)
                rw [List.getD, List.getElem?_set, if_pos rfl, ringS_length, if_pos h16, Option.getD_some, ← hx] at this
                exact this
              have cB : wr.cell? ⟨b, off + m, none⟩ = some (.int .u8 (y : Nat)) := by
                rw [hy]
                have h1 := hcU m hml
                obtain ⟨_, _, _, _, _, _, _, _, _, _, _, _, _, n1, n2⟩ := D.out
                rw [← show wr.cell? ⟨b, off + m, none⟩ = U.cell? ⟨b, off + m, none⟩ from hui.cell (b := b) (Nat.lt_of_lt_of_le hb hbU.size) (fun h => by rcases h with h | h; exact n1 h; exact n2 h) (off + m)] at h1
                exact h1
              have fW := (cells_known hWi).2.1
              have z1 : 4 * (t : Int) + (i : Int) = (m : Int) := by omega
              have z2 : IntKind.i64.wrap (4 * (t : Int)) = 4 * (t : Int) := by rw [IntKind.wrap_i64]; omega
              have z3 : IntKind.i64.wrap (4 * (t : Int) + (i : Int)) = (m : Int) := by rw [z1, IntKind.wrap_i64]; omega
              have y0 : (0 : Int) ≤ (m : Int) := by omega
              have y1 : (m : Int) < 64 := by omega
              have yt0 : (0 : Int) ≤ (t : Int) := by omega
              have yt1 : (t : Int) < 16 := by omega
              have hbit : bits .or .u32 ((x : Int) * 256 % 4294967296) ((y : Int) % 4294967296) = ((wordB l t (i + 1) : Nat) : Int) := by
                have hy2 : y < 256 := hy ▸ byte_lt _
                have e1 : (x : Int) * 256 % 4294967296 = ((x * 256 % 4294967296 : Nat) : Int) := by rw [Int.natCast_emod, Int.natCast_mul]; rfl
                have e2 : (y : Int) % 4294967296 = ((y : Nat) : Int) := by omega
                rw [e1, e2, bits_or_u32 _ _ (Nat.mod_lt _ (by decide)) (by omega), wordB_succ, ← hm, ← hx, hy]
                simp [List.getD, hml]
              clear hx hy hm
              go_wp2_with fail
              go_region
              all_goals go_wp2_with fail
              all_goals go_roundw
              case rel =>
                refine ⟨i + 1, by omega, by go_num, ?_, ?_, ?_⟩
                · exact hui.trans (Upd.setCell_drew wr wb t (.int .u32 ((wordB l t (i + 1) : Nat) : Int))) (fun k _ h => .inl h)
                · have := hWi.set t (wordB l t (i + 1))
                  rw [List.set_set] at this
                  exact this
                · exact hAi.upd (Upd.setCell_drew wr wb t (.int .u32 ((wordB l t (i + 1) : Nat) : Int))) (fun h => D.out.2.2.2.2.2.2.2.1 h.symm)
              case measure => simp [intOf]; omega
            · have d4 : decide ((i : Int) < 4) = false := decide_eq_false (by omega)
              have hi4 : Hid (i = 4) := by unfold Hid; omega
              go_wp2_with fail
              go_meet
              refine ⟨hui, ?_, hAi⟩
              have h4i := hi4.out
              rw [h4i, ringS_low l t h16] at hWi
              exact hWi
        · have d16 : decide ((t : Int) < 16) = false := decide_eq_false (by omega)
          obtain ⟨n, hn⟩ : ∃ n, t = n + 16 := ⟨t - 16, by omega⟩
          have hwl := wordsB_length l
          have hltW := fun k => wordS_lt (wordsB l) (wordsB_lt l) k
          obtain ⟨j0, j1, j9, j14, hj0, hj1, hj9, hj14⟩ : ∃ j0 j1 j9 j14, j0 = t % 16 ∧ j1 = (t + 1) % 16 ∧ j9 = (t + 9) % 16 ∧ j14 = (t + 14) % 16 := ⟨_, _, _, _, rfl, rfl, rfl, rfl⟩
          obtain ⟨w0, hw0⟩ : ∃ k, k = wordS (wordsB l) n := ⟨_, rfl⟩
          obtain ⟨w1, hw1⟩ : ∃ k, k = wordS (wordsB l) (n + 1) := ⟨_, rfl⟩
          obtain ⟨w9, hw9⟩ : ∃ k, k = wordS (wordsB l) (n + 9) := ⟨_, rfl⟩
          obtain ⟨w14, hw14⟩ : ∃ k, k = wordS (wordsB l) (n + 14) := ⟨_, rfl⟩
          have hrl := ringS_length (wordsB l) t
          have d0 : wr.cell? ⟨wb, j0, none⟩ = some (.int .u32 (w0 : Nat)) := by
            have := hWr.get (k := j0) (by omega)
            rwa [show j0 = n % 16 by omega, ringS_old _ n t (by omega) (by omega), ← hw0, show n % 16 = j0 by omega] at this
          have d1 : wr.cell? ⟨wb, j1, none⟩ = some (.int .u32 (w1 : Nat)) := by
            have := hWr.get (k := j1) (by omega)
            rwa [show j1 = (n + 1) % 16 by omega, ringS_old _ (n + 1) t (by omega) (by omega), ← hw1, show (n + 1) % 16 = j1 by omega] at this
          have d9 : wr.cell? ⟨wb, j9, none⟩ = some (.int .u32 (w9 : Nat)) := by
            have := hWr.get (k := j9) (by omega)
            rwa [show j9 = (n + 9) % 16 by omega, ringS_old _ (n + 9) t (by omega) (by omega), ← hw9, show (n + 9) % 16 = j9 by omega] at this
          have d14 : wr.cell? ⟨wb, j14, none⟩ = some (.int .u32 (w14 : Nat)) := by
            have := hWr.get (k := j14) (by omega)
            rwa [show j14 = (n + 14) % 16 by omega, ringS_old _ (n + 14) t (by omega) (by omega), ← hw14, show (n + 14) % 16 = j14 by omega] at this
          have q1 : w1 < 4294967296 := hw1 ▸ hltW _
          have q14 : w14 < 4294967296 := hw14 ▸ hltW _
          obtain ⟨r1, hr1⟩ : ∃ n, n = threeS w1 7 18 3 true := ⟨_, rfl⟩
          obtain ⟨r2, hr2⟩ : ∃ n, n = threeS w14 17 19 10 true := ⟨_, rfl⟩
          obtain ⟨m1, hm1⟩ : ∃ n, n = (w0 + r1) % 4294967296 := ⟨_, rfl⟩
          obtain ⟨m2, hm2⟩ : ∃ n, n = (m1 + w9) % 4294967296 := ⟨_, rfl⟩
          obtain ⟨Wc, hm3⟩ : ∃ n, n = (m2 + r2) % 4294967296 := ⟨_, rfl⟩
          have hWc : Wc = wordS (wordsB l) t := by rw [hn, wordS_next hwl, nextV, ← hw0, ← hw1, ← hw9, ← hw14, ← hr1, ← hr2, ← hm1, ← hm2, hm3]
          have g1 := add32 w0 r1 m1 hm1
          have g2 := add32 m1 w9 m2 hm2
          have g3 := add32 m2 r2 Wc hm3
          have g4 := add32w w0 r1 m1 hm1
          have g5 := add32w m1 w9 m2 hm2
          have g6 := add32w m2 r2 Wc hm3
          have HR1 := Lib.hid hr1
          have HR2 := Lib.hid hr2
          have a0 : bits .and .i64 (t : Int) 15 = (j0 : Int) := by rw [and15 t (by omega), hj0]
          have a1 : bits .and .i64 ((t : Int) + 1) 15 = (j1 : Int) := by have := and15 (t + 1) (by omega); rw [hj1]; exact this
          have a9 : bits .and .i64 ((t : Int) + 9) 15 = (j9 : Int) := by have := and15 (t + 9) (by omega); rw [hj9]; exact this
          have a14 : bits .and .i64 ((t : Int) + 14) 15 = (j14 : Int) := by have := and15 (t + 14) (by omega); rw [hj14]; exact this
          have z1 : IntKind.i64.wrap ((t : Int) + 1) = (t : Int) + 1 := by rw [IntKind.wrap_i64]; omega
          have z9 : IntKind.i64.wrap ((t : Int) + 9) = (t : Int) + 9 := by rw [IntKind.wrap_i64]; omega
          have z14 : IntKind.i64.wrap ((t : Int) + 14) = (t : Int) + 14 := by rw [IntKind.wrap_i64]; omega
          have y0 : (j0 : Int) < 16 := by omega
          have y1 : (j1 : Int) < 16 := by omega
          have y9 : (j9 : Int) < 16 := by omega
          have y14 : (j14 : Int) < 16 := by omega
          have x0 : (0 : Int) ≤ (j0 : Int) := by omega
          have x1 : (0 : Int) ≤ (j1 : Int) := by omega
          have x9 : (0 : Int) ≤ (j9 : Int) := by omega
          have x14 : (0 : Int) ≤ (j14 : Int) := by omega
          have fW := (cells_known hWr).2.1
          have HJ := Lib.hid hj0
          have HWC := Lib.hid hWc
          clear hj0 hj1 hj9 hj14 hw0 hw1 hw9 hw14 hr1 hr2 hm1 hm2 hm3 hWc hn hwl hltW hrl
          go_wp2_with fail
          refine wp_region_quiet_tail 27 (by kernel_rfl) (by kernel_rfl) ?_
          simp only [List.take_succ_cons, List.take_zero, List.drop_succ_cons, List.drop_zero]
          repeat (go_big_quiet_step (first | (go_at_call 195; with_reducible exact Calls.quiet_of (drawn_w1 w1 r1 HR1.out q1 _)) | (go_at_call 195; with_reducible exact Calls.quiet_of (drawn_w2 w14 r2 HR2.out q14 _))))
          refine wpQuiet_nil ?_
          intro nq
          obtain ⟨Z, hZ⟩ : ∃ Z, Z = wr.drewN nq := ⟨_, rfl⟩
          rw [← hZ]
          have hWZ : wordsAt Z wb 290 (ringS (wordsB l) t) := hZ ▸ hWr
          have hAZ : wordsAt Z ab 255 (stN (wordsB l) s t).l := hZ ▸ hAr
          have huZ : Upd U Z (fun k => k = wb ∨ k = ab) := hZ ▸ hur.trans (c := wr.drewN nq) (T := fun _ => False) ⟨rfl, rfl, rfl, Nat.le_refl _, fun _ _ _ => rfl⟩ (fun _ _ h => h.elim)
          have fZ := (cells_known hWZ).2.1
          have cZ : Z.cell? ⟨wb, j0, none⟩ = some (.int .u32 (w0 : Nat)) := hZ ▸ d0
          clear hZ
          go_wp2_with fail
          go_meet
          have hs1 := hWZ.set j0 Wc
          rw [HWC.out, HJ.out, ← ringS_next] at hs1
          rw [HWC.out, HJ.out]
          exact ⟨huZ.trans (Upd.setCell Z ⟨wb, t % 16, none⟩ _) (fun k _ h => .inl h), hs1, hAZ.upd (Upd.setCell Z ⟨wb, t % 16, none⟩ _) (fun h => D.out.2.2.2.2.2.2.2.1 h.symm)⟩
      case rest =>
        obtain ⟨huc, hWc, hAc⟩ := hcut
        have hltS := stN_lt (wordsB l) s hs t
        obtain ⟨st, hst⟩ : ∃ x, x = stN (wordsB l) s t := ⟨_, rfl⟩
        have hst1 : st.step (shaK.getD t 0) (wordS (wordsB l) t) = stN (wordsB l) s (t + 1) := by rw [stN_succ, ← hst]
        rw [← hst] at hltS hAc
        obtain ⟨j0, hj0⟩ : ∃ j, j = t % 16 := ⟨_, rfl⟩
        have cK : wc.cell? ⟨kb, t, none⟩ = some (.int .u32 (shaK.getD t 0 : Nat)) :=
          (hKU.upd huc (fun h => by rcases h with h | h; exact D.out.2.2.2.2.2.1 h; exact D.out.2.2.2.2.2.2.1 h)).get (by rw [shaK_length]; exact hlt)
        have cW : wc.cell? ⟨wb, j0, none⟩ = some (.int .u32 (wordS (wordsB l) t : Nat)) := by
          have := hWc.get (k := j0) (by rw [ringS_length]; omega)
          rwa [hj0, ringS_old _ t (t + 1) (by omega) (by omega), ← hj0] at this
        have a0 : bits .and .i64 (t : Int) 15 = (j0 : Int) := by rw [and15 t (by omega), hj0]
        have y0 : (j0 : Int) < 16 := by omega
        have x0 : (0 : Int) ≤ (j0 : Int) := by omega
        have yt0 : (0 : Int) ≤ (t : Int) := by omega
        have yt1 : (t : Int) < 64 := by omega
        have lm : ∀ x, x ∈ st.l → x < 4294967296 := hltS
        obtain ⟨A, B, C, D', E, F, G, H⟩ := st
        simp only [St.l, List.mem_cons, List.not_mem_nil, or_false, forall_eq_or_imp, forall_eq] at lm
        obtain ⟨lA, lB, lC, lD, lE, lF, lG, lH⟩ := lm
        obtain ⟨x1, hx1⟩ : ∃ n, n = F ^^^ G := ⟨_, rfl⟩
        obtain ⟨x2, hx2⟩ : ∃ n, n = E &&& x1 := ⟨_, rfl⟩
        obtain ⟨x3, hx3⟩ : ∃ n, n = G ^^^ x2 := ⟨_, rfl⟩
        obtain ⟨x4, hx4⟩ : ∃ n, n = A &&& B := ⟨_, rfl⟩
        obtain ⟨x5, hx5⟩ : ∃ n, n = A ||| B := ⟨_, rfl⟩
        obtain ⟨x6, hx6⟩ : ∃ n, n = C &&& x5 := ⟨_, rfl⟩
        obtain ⟨x7, hx7⟩ : ∃ n, n = x4 ||| x6 := ⟨_, rfl⟩
        have l1 : x1 < 4294967296 := hx1 ▸ Nat.xor_lt_two_pow (n := 32) lF lG
        have l2 : x2 < 4294967296 := hx2 ▸ Nat.and_lt_two_pow (n := 32) _ l1
        have l4 : x4 < 4294967296 := hx4 ▸ Nat.and_lt_two_pow (n := 32) _ lB
        have l5 : x5 < 4294967296 := hx5 ▸ Nat.or_lt_two_pow (n := 32) lA lB
        have l6 : x6 < 4294967296 := hx6 ▸ Nat.and_lt_two_pow (n := 32) _ l5
        have b1 : bits .xor .u32 (F : Int) (G : Int) = (x1 : Int) := hx1 ▸ bits_xor_u32 F G lF lG
        have b2 : bits .and .u32 (E : Int) (x1 : Int) = (x2 : Int) := hx2 ▸ bits_and_u32 E x1 lE l1
        have b3 : bits .xor .u32 (G : Int) (x2 : Int) = (x3 : Int) := hx3 ▸ bits_xor_u32 G x2 lG l2
        have b4 : bits .and .u32 (A : Int) (B : Int) = (x4 : Int) := hx4 ▸ bits_and_u32 A B lA lB
        have b5 : bits .or .u32 (A : Int) (B : Int) = (x5 : Int) := hx5 ▸ bits_or_u32 A B lA lB
        have b6 : bits .and .u32 (C : Int) (x5 : Int) = (x6 : Int) := hx6 ▸ bits_and_u32 C x5 lC l5
        have b7 : bits .or .u32 (x4 : Int) (x6 : Int) = (x7 : Int) := hx7 ▸ bits_or_u32 x4 x6 l4 l6
        obtain ⟨t1, ht1⟩ : ∃ n, n = threeS E 6 11 25 false := ⟨_, rfl⟩
        obtain ⟨t2, ht2⟩ : ∃ n, n = threeS A 2 13 22 false := ⟨_, rfl⟩
        obtain ⟨Kc, hKc⟩ : ∃ n, n = shaK.getD t 0 := ⟨_, rfl⟩
        obtain ⟨Wc, hWcc⟩ : ∃ n, n = wordS (wordsB l) t := ⟨_, rfl⟩
        obtain ⟨n1, hn1⟩ : ∃ n, n = (H + t1) % 4294967296 := ⟨_, rfl⟩
        obtain ⟨n2, hn2⟩ : ∃ n, n = (n1 + x3) % 4294967296 := ⟨_, rfl⟩
        obtain ⟨n3, hn3⟩ : ∃ n, n = (n2 + Kc) % 4294967296 := ⟨_, rfl⟩
        obtain ⟨one, hU⟩ : ∃ n, n = (n3 + Wc) % 4294967296 := ⟨_, rfl⟩
        obtain ⟨d1, hd1⟩ : ∃ n, n = (t2 + x7) % 4294967296 := ⟨_, rfl⟩
        obtain ⟨A', hA'⟩ : ∃ n, n = (one + d1) % 4294967296 := ⟨_, rfl⟩
        obtain ⟨E', hE'⟩ : ∃ n, n = (D' + one) % 4294967296 := ⟨_, rfl⟩
        have hstep : (⟨A', A, B, C, E', E, F, G⟩ : St) = stN (wordsB l) s (t + 1) := by
          rw [← hst1]
          simp only [St.step, upS, downS]
          rw [hA', hE', hd1, hU, hn3, hn2, hn1, hKc, hWcc, ht1, ht2, hx7, hx6, hx5, hx4, hx3, hx2, hx1]
        rw [← hKc] at cK
        rw [← hWcc] at cW
        have e1 := add32 H t1 n1 hn1
        have e2 := add32 n1 x3 n2 hn2
        have e3 := add32 n2 Kc n3 hn3
        have e4 := add32 n3 Wc one hU
        have e5 := add32 t2 x7 d1 hd1
        have e6 := add32 one d1 A' hA'
        have e7 := add32 D' one E' hE'
        have hl8 : (⟨A, B, C, D', E, F, G, H⟩ : St).l.length = 8 := rfl
        have c0 : wc.cell? ⟨ab, 0, none⟩ = some (.int .u32 (A : Nat)) := hAc.get (k := 0) (by rw [hl8]; decide)
        have c1 : wc.cell? ⟨ab, 1, none⟩ = some (.int .u32 (B : Nat)) := hAc.get (k := 1) (by rw [hl8]; decide)
        have c2 : wc.cell? ⟨ab, 2, none⟩ = some (.int .u32 (C : Nat)) := hAc.get (k := 2) (by rw [hl8]; decide)
        have c4 : wc.cell? ⟨ab, 4, none⟩ = some (.int .u32 (E : Nat)) := hAc.get (k := 4) (by rw [hl8]; decide)
        have c5 : wc.cell? ⟨ab, 5, none⟩ = some (.int .u32 (F : Nat)) := hAc.get (k := 5) (by rw [hl8]; decide)
        have c6 : wc.cell? ⟨ab, 6, none⟩ = some (.int .u32 (G : Nat)) := hAc.get (k := 6) (by rw [hl8]; decide)
        have c7 : wc.cell? ⟨ab, 7, none⟩ = some (.int .u32 (H : Nat)) := hAc.get (k := 7) (by rw [hl8]; decide)
        have HST := Lib.hid hstep
        have HT1 := Lib.hid ht1
        have HT2 := Lib.hid ht2
        clear hst hst1 hltS hstep ht1 ht2 hx1 hx2 hx3 hx4 hx5 hx6 hx7 hKc hWcc hn1 hn2 hn3 hU hd1 hA' hE' l1 l2 l4 l5 l6 lB lC lD lF lG lH hj0 hl8
        go_wp2_with fail
        go_quiet ((go_at_call 196; exact Calls.quiet_of (mixed_w1 E t1 HT1.out lE _)))
        go_wp2_with (go_at_call 196; refine (mixed_w2 A t2 HT2.out lA _).mono ?_; rintro e w' ⟨rfl, nC, rfl⟩)
        rw [e5]
        obtain ⟨Y, hY⟩ : ∃ Y, Y = wc.drewN (nq + nC) := ⟨_, rfl⟩
        rw [← hY]
        have huY : Upd U Y (fun k => k = wb ∨ k = ab) := hY ▸ huc.trans (c := wc.drewN (nq + nC)) (T := fun _ => False) ⟨rfl, rfl, rfl, Nat.le_refl _, fun _ _ _ => rfl⟩ (fun _ _ h => h.elim)
        have hWY : wordsAt Y wb 290 (ringS (wordsB l) (t + 1)) := hY ▸ hWc
        have hAY : wordsAt Y ab 255 (shiftS ⟨A, B, C, D', E, F, G, H⟩ 7) := hY ▸ hAc
        obtain ⟨sv, hsv⟩ : ∃ x : St, x = ⟨A, B, C, D', E, F, G, H⟩ := ⟨_, rfl⟩
        rw [← hsv] at hAY
        have HSV := Lib.hid hsv
        clear hY hAc hWc huc c0 c1 c2 c4 c5 c6 c7 cK cW b1 b2 b3 b4 b5 b6 b7 e1 e2 e3 e4 e5 HT1 HT2 lA lE hsv
        go_loopw [14] (fun v wr => ∃ i : Nat, i ≤ 7 ∧ v = .int .i64 i ∧ Upd U wr (fun k => k = wb ∨ k = ab) ∧ wordsAt wr wb 290 (ringS (wordsB l) (t + 1)) ∧ wordsAt wr ab 255 (shiftS sv i)) (fun v _ => (intOf v).toNat)
        case atStart => exact ⟨7, by omega, rfl, huY, hWY, hAY⟩
        case round =>
          obtain ⟨i, hi, rfl, hui, hWi, hAi⟩ := hrel
          clear huY hWY hAY
          by_cases h0 : 0 < i
          · have d0 : decide ((0 : Int) < (i : Int)) = true := decide_eq_true (by omega)
            obtain ⟨k, hk⟩ : ∃ k, i = k + 1 := ⟨i - 1, by omega⟩
            have zk : (i : Int) - 1 = (k : Int) := by omega
            have yk0 : (0 : Int) ≤ (k : Int) := by omega
            have yk1 : (k : Int) < 8 := by omega
            have yi0 : (0 : Int) ≤ (i : Int) := by omega
            have yi1 : (i : Int) < 8 := by omega
            obtain ⟨x, hx⟩ : ∃ x, x = (shiftS sv i).getD k 0 := ⟨_, rfl⟩
            have cA := hAi.get (k := k) (by rw [shiftS_length]; omega)
            rw [← hx] at cA
            have cI := hAi.get (k := i) (by rw [shiftS_length]; omega)
            have fA := (cells_known hAi).2.1
            have hk7 : k ≤ 7 := by omega
            have hn : Hid (wordsAt (wr.setCell ⟨ab, i, none⟩ (.int .u32 (x : Nat))) ab 255 (shiftS sv k)) := by
              have := hAi.set i x
              unfold Hid
              rw [hx, hk, shiftS_step sv k (by omega), ← hk] at this
              rw [hx]
              exact this
            have hmu : Hid (k < i) := by unfold Hid; omega
            clear hx hk
            go_wp2_with fail
            go_roundw
            case rel => exact ⟨k, hk7, by go_num, hui.trans (Upd.setCell wr ⟨ab, i, none⟩ _) (fun k _ h => .inr h), hWi.upd (Upd.setCell wr ⟨ab, i, none⟩ _) (fun h => D.out.2.2.2.2.2.2.2.1 h), hn.out⟩
            case measure => have := hmu.out; simp [intOf]; omega
          · have d0 : decide ((0 : Int) < (i : Int)) = false := decide_eq_false (by omega)
            have hi0 : i = 0 := by omega
            rw [hi0, shiftS_end, HSV.out] at hAi
            simp only at hAi
            clear hi0
            have c4 : wr.cell? ⟨ab, 4, none⟩ = some (.int .u32 (D' : Nat)) := hAi.get (k := 4) (by simp)
            have c0 : wr.cell? ⟨ab, 0, none⟩ = some (.int .u32 (A : Nat)) := hAi.get (k := 0) (by simp)
            have fA := (cells_known hAi).2.1
            have hA4 := hAi.set 4 E'
            have hA0 := Lib.hid (hA4.set 0 A')
            have c02 := hA4.get (k := 0) (by simp)
            have fA2 := (cells_known hA4).2.1
            go_wp2_with fail
            go_roundw
            case rel =>
              have hu4 : Upd wr ((wr.setCell ⟨ab, 4, none⟩ (.int .u32 (E' : Nat))).setCell ⟨ab, 0, none⟩ (.int .u32 (A' : Nat))) (fun k => k = ab) :=
                (Upd.setCell wr ⟨ab, 4, none⟩ _).trans (Upd.setCell _ ⟨ab, 0, none⟩ _) (fun _ _ h => h)
              refine ⟨t + 1, by omega, by go_num, hui.trans hu4 (fun k _ h => .inr h), hWi.upd hu4 (fun h => D.out.2.2.2.2.2.2.2.1 h), ?_⟩
              rw [← HST.out]
              exact hA0.out
            case measure => simp [intOf]; omega
    · have dlt : decide ((t : Int) < 64) = false := decide_eq_false (by omega)
      have ht64 : Hid (t = 64) := by unfold Hid; omega
      obtain ⟨sn, hsn⟩ : ∃ x, x = stN (wordsB l) s t := ⟨_, rfl⟩
      rw [← hsn] at hAr
      have HSN := Lib.hid hsn
      have hSr := hSU.upd hur (fun h => by rcases h with h | h; exact D.out.2.1 h; exact D.out.2.2.1 h)
      clear hsn
      go_wp2_with fail
      go_loopw [15] (fun v wx => ∃ k : Nat, k ≤ 8 ∧ v = .int .i64 k ∧ Upd U wx (fun k => k = wb ∨ k = ab ∨ k = sb) ∧ wordsAt wx ab 255 sn.l ∧ wordsAt wx sb 255 (mixH s sn k).l) (fun v _ => 8 - (intOf v).toNat)
      case atStart => exact ⟨0, by omega, rfl, hur.mono (fun k _ h => by rcases h with h | h; exact .inl h; exact .inr (.inl h)), hAr, hSr⟩
      case round =>
        obtain ⟨k, hk, rfl, huk, hAk, hSk⟩ := hrel
        clear hSr hAr hur hWr
        by_cases h8 : k < 8
        · have d8 : decide ((k : Int) < 8) = true := decide_eq_true (by omega)
          obtain ⟨x, hx⟩ : ∃ x, x = s.l.getD k 0 := ⟨_, rfl⟩
          obtain ⟨y, hy⟩ : ∃ y, y = sn.l.getD k 0 := ⟨_, rfl⟩
          obtain ⟨z, hz⟩ : ∃ z, z = (x + y) % 4294967296 := ⟨_, rfl⟩
          have cS := hSk.get (k := k) (by rw [St.l_length]; exact h8)
          rw [mixH_get _ _ _ h8, ← hx] at cS
          have cA := hAk.get (k := k) (by rw [St.l_length]; exact h8)
          rw [← hy] at cA
          have fS := (cells_known hSk).2.1
          have hn := hSk.set k z
          rw [hz, hx, hy, mixH_setL _ _ _ h8, ← hx, ← hy, ← hz] at hn
          have HN := Lib.hid hn
          have g1 := add32 x y z hz
          have g2 := add32w x y z hz
          have yk0 : (0 : Int) ≤ (k : Int) := by omega
          have yk1 : (k : Int) < 8 := by omega
          clear hx hy hz hn
          go_wp2_with fail
          go_region
          all_goals go_wp2_with fail
          all_goals go_roundw
          case rel => exact ⟨k + 1, by omega, by go_num, huk.trans (Upd.setCell_drew wr sb k _) (fun k _ h => .inr (.inr h)), hAk.upd (Upd.setCell_drew wr sb k _) (fun h => D.out.2.2.1 h.symm), HN.out⟩
          case measure => simp [intOf]; omega
        · have d8 : decide ((k : Int) < 8) = false := decide_eq_false (by omega)
          have hk8 : k = 8 := by omega
          have hSe : wordsAt wr sb 255 (compressS s (wordsB l)).w8.l := by
            rw [hk8, mixH_all, HSN.out, ht64.out, ← compressS_eq] at hSk
            exact hSk
          have rS := hSe.row
          have hRe := hRU.upd huk (fun h => by rcases h with h | h | h; exact D.out.2.2.2.1 h; exact D.out.2.2.2.2.1 h; exact D.out.1 h.symm)
          clear hk8
          have hRe2 : wr.heap[rb]? = some (.cells W8.zero.arr 255 (0, 0)) := hRe
          go_wp2_with (refine wpList_storeW8 (.tmp 4) (.tmp 150) rfl rfl rb (compressS s (wordsB l)).w8 W8.zero rfl rfl hRe2 ?_; intro w2 hr2 hu2)
          have D2 := D.out
          have hbr : Below w.heap.size w wr := hbU.trans (huk.below hbU.size (fun i e => by omega))
          have hbu : Below w.heap.size wr w2 := hu2.below hbr.size (fun i e => by omega)
          exact bodyPost_ret (results_cell_row rfl _ _ rb 255 (compressS s (wordsB l)).w8.arr (0, 0) _ rfl hr2 Tryz.underlying255 rfl (by rw [size_W8]; rfl)) rfl ⟨rfl, hbr.trans hbu⟩
end Go.Proofs.YtlkojkjeklblkaaGreat
