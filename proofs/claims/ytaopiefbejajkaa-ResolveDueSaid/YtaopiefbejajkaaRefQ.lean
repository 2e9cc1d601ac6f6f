/- Sums by blocks: the last one or two blocks as the document's own text lays them. No program in sight. -/
import Derived.Test.YtaopiefbejajkaaRefP
set_option linter.unusedSimpArgs false
set_option linter.unusedVariables false
namespace Go.Proofs.Ytaopiefbejajkaa
/-- A list, of whose last eight the first 8 - j are nought. -/
def lastJ (D : List UInt8) (j : Nat) : List UInt8 := D.take (D.length - 8) ++ List.replicate (8 - j) 0 ++ D.drop (D.length - j)
theorem lastJ_length (D : List UInt8) (j : Nat) (h : 8 ≤ D.length) (hj : j ≤ 8) : (lastJ D j).length = D.length := by
  simp [lastJ]; omega
theorem lastJ_get? (D : List UInt8) (j i : Nat) (h : 8 ≤ D.length) (hj : j ≤ 8) (hi : i < D.length) : (lastJ D j)[i]? = if D.length - 8 ≤ i ∧ i < D.length - j then some 0 else D[i]? := by
  unfold lastJ
  rw [List.append_assoc, List.getElem?_append, List.length_take, List.getElem?_append, List.length_replicate]
  by_cases h1 : i < D.length - 8
  · rw [if_pos (by omega), if_neg (by omega), List.getElem?_take, if_pos h1]
  · rw [if_neg (by omega)]
    by_cases h2 : i < D.length - j
    · rw [if_pos (by omega), if_pos (by omega), List.getElem?_replicate, if_pos (by omega)]
    · rw [if_neg (by omega), if_neg (by omega), List.getElem?_drop]
      congr 1; omega
theorem lastJ_set (D : List UInt8) (j : Nat) (h : 8 ≤ D.length) (hj : j < 8) (x : UInt8) (hx : D[D.length - 1 - j]? = some x) : (lastJ D j).set (D.length - 1 - j) x = lastJ D (j + 1) := by
  apply List.ext_getElem?
  intro i
  by_cases hi : i < D.length
  · rw [List.getElem?_set, lastJ_length D j h (by omega), lastJ_get? D j i h (by omega) hi, lastJ_get? D (j + 1) i h (by omega) hi]
    by_cases e : D.length - 1 - j = i
    · subst e
      rw [if_pos rfl, if_pos hi, if_neg (by omega), hx]
    · rw [if_neg e]
      by_cases h1 : D.length - 8 ≤ i ∧ i < D.length - j
      · rw [if_pos h1, if_pos (by omega)]
      · rw [if_neg h1, if_neg (by omega)]
  · rw [List.getElem?_eq_none (by rw [List.length_set, lastJ_length D j h (by omega)]; omega), List.getElem?_eq_none (by rw [lastJ_length D (j + 1) h (by omega)]; omega)]
theorem lastJ_end (D : List UInt8) (j : Nat) (h : 8 ≤ D.length) (hj : j ≤ 8) (h0 : ∀ m, j ≤ m → m < 8 → D[D.length - 1 - m]? = some 0) : lastJ D j = D := by
  apply List.ext_getElem?
  intro i
  by_cases hi : i < D.length
  · rw [lastJ_get? D j i h hj hi]
    by_cases h1 : D.length - 8 ≤ i ∧ i < D.length - j
    · rw [if_pos h1, ← h0 (D.length - 1 - i) (by omega) (by omega)]
      congr 1; omega
    · rw [if_neg h1]
  · rw [List.getElem?_eq_none (by rw [lastJ_length D j h hj]; omega), List.getElem?_eq_none (by omega)]
/-- What the last blocks hold: the bytes left over, and what is put behind them. -/
def tailD (l : List UInt8) : List UInt8 := l.drop (64 * (l.length / 64)) ++ padS l.length
theorem tailD_length (l : List UInt8) : (tailD l).length = if l.length % 64 ≤ 55 then 64 else 128 := by
  have h8 : (bitsB l.length).length = 8 := by simp [bitsB]
  simp only [tailD, padS, List.length_append, List.length_cons, List.length_nil, List.length_replicate, List.length_drop, h8, padN]
  split <;> omega
theorem tailD_eq (l : List UInt8) (m : Nat) : (l ++ padS l.length).drop (64 * (l.length / 64 + m)) = (tailD l).drop (64 * m) := by
  unfold tailD
  rw [Nat.mul_add, ← List.drop_drop, List.drop_append_of_le_length (by omega)]
theorem tailD_start (l : List UInt8) (r : List UInt8) (hr : r = l.drop (64 * (l.length / 64))) (L : Nat) (hL : L = (tailD l).length) : (r ++ List.replicate (L - r.length) 0).set r.length 128 = lastJ (tailD l) 0 := by
  have hl := tailD_length l
  have h8 : (bitsB l.length).length = 8 := by simp [bitsB]
  have hrl : r.length = l.length % 64 := by rw [hr, List.length_drop]; omega
  have e : lastJ (tailD l) 0 = r ++ ([128] ++ List.replicate (padN ((l.length + 1) % 64)) 0) ++ List.replicate 8 0 := by
    unfold lastJ
    have e1 : (tailD l).take ((tailD l).length - 8) = r ++ ([128] ++ List.replicate (padN ((l.length + 1) % 64)) 0) := by
      have : tailD l = (r ++ ([128] ++ List.replicate (padN ((l.length + 1) % 64)) 0)) ++ bitsB l.length := by unfold tailD padS; rw [hr]; simp
      rw [this]
      apply List.take_left'
      simp [h8]; omega
    rw [e1]
    simp
  rw [e, hL]
  have hp : L - r.length = 1 + padN ((l.length + 1) % 64) + 8 := by
    have : tailD l = (r ++ ([128] ++ List.replicate (padN ((l.length + 1) % 64)) 0)) ++ bitsB l.length := by unfold tailD padS; rw [hr]; simp
    rw [hL, this]
    simp [h8]; omega
  rw [← hL, hp, show 1 + padN ((l.length + 1) % 64) + 8 = (padN ((l.length + 1) % 64) + 8) + 1 by omega, List.replicate_succ, List.set_append_right _ _ (Nat.le_refl _), Nat.sub_self, List.set_cons_zero, ← List.replicate_append_replicate]
  simp
theorem tailD_bits (l : List UInt8) (h : l.length < 1000000000000000) (m : Nat) (hm : m < 8) : (tailD l)[(tailD l).length - 1 - m]? = some (UInt8.ofNat (8 * l.length / 256 ^ m)) := by
  have h8 : (bitsB l.length).length = 8 := by simp [bitsB]
  have hlen : (tailD l).length = (l.drop (64 * (l.length / 64)) ++ ([128] ++ List.replicate (padN ((l.length + 1) % 64)) 0)).length + 8 := by
    unfold tailD padS; simp [h8]; omega
  have e : tailD l = (l.drop (64 * (l.length / 64)) ++ ([128] ++ List.replicate (padN ((l.length + 1) % 64)) 0)) ++ bitsB l.length := by unfold tailD padS; simp
  rw [hlen]
  rw [e, List.getElem?_append_right (by omega)]
  generalize (l.drop (64 * (l.length / 64)) ++ ([128] ++ List.replicate (padN ((l.length + 1) % 64)) 0)).length = q
  rw [show q + 8 - 1 - m - q = 7 - m by omega]
  simp only [bitsB, List.getElem?_map, List.getElem?_range (show 7 - m < 8 by omega), Option.map_some]
  rw [Nat.mod_eq_of_lt (by omega), show 56 - 8 * (7 - m) = 8 * m by omega, Nat.pow_mul]
theorem tailD_end (l : List UInt8) (h : l.length < 1000000000000000) (j : Nat) (hj : j ≤ 8) (h0 : 8 * l.length / 256 ^ j = 0) : lastJ (tailD l) j = tailD l := by
  have hl := tailD_length l
  refine lastJ_end _ j (by split at hl <;> omega) hj fun m h1 h2 => ?_
  rw [tailD_bits l h m h2]
  have : 8 * l.length / 256 ^ m = 0 := by
    have hp : 256 ^ j ≤ 256 ^ m := Nat.pow_le_pow_right (by decide) h1
    have : 8 * l.length < 256 ^ j := by
      rcases Nat.lt_or_ge (8 * l.length) (256 ^ j) with g | g
      · exact g
      · have := Nat.div_pos g (Nat.pow_pos (by decide)); omega
    exact Nat.div_eq_of_lt (by omega)
  rw [this]; rfl
end Go.Proofs.Ytaopiefbejajkaa
