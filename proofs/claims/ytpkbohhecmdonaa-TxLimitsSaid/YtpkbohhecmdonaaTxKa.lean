/- The law TxLimits: what it makes, and whether that may be. -/
import Derived.Test.YtpkbohhecmdonaaTxJ
set_option linter.unusedSimpArgs false
set_option linter.unusedVariables false
namespace Go.Proofs.Ytpkbohhecmdonaa
open Go.RowKit
def witL (i pre : Nat) : Witness := if 0 < pre then ⟨2, 0, ⟨(lettersL pre i).toArray⟩⟩ else ⟨1, 0, ByteArray.empty⟩
def inL (place seq : Int) (i : Nat) (x : Witness) : In := { prev := ⟨nameS i, place⟩, seq := seq, wit := x }
def outL : Out := { value := 1, script := { Script.zero with kind := 1 } }
def insL (place seq : Int) (pre k : Nat) : List In := (List.range k).map fun i => inL place seq i (witL i pre)
theorem insL_length (place seq : Int) (pre k : Nat) : (insL place seq pre k).length = k := by simp [insL]
theorem insL_succ (place seq : Int) (pre k : Nat) : insL place seq pre (k + 1) = insL place seq pre k ++ [inL place seq k (witL k pre)] := by simp [insL, List.range_succ]
def limL (ins outs : Nat) (seq place lock : Int) (pre : Nat) : Tx := { ins := insL place seq pre ins, outs := List.replicate outs outL, lock := lock }
def wantS (ins outs : Nat) (seq place lock : Int) (pre : Nat) : Int :=
  if 100 < ins ∨ 100 < outs then 3 else if ins = 0 ∨ place < 0 ∨ 99 < place ∨ seq < 0 ∨ 65535 < seq ∨ 64 < pre ∨ lock < 0 ∨ 1000000 < lock then 1 else 0
theorem nameS_inj {i j : Nat} (hi : i < 256) (hj : j < 256) (h : nameS i = nameS j) : i = j := by
  have h1 : ∀ n, n < 256 → (nameS n).l[0]? = some (UInt8.ofNat n) := by
    intro n hn
    simp [nameS, name8]
  have h2 := h1 i hi
  rw [h, h1 j hj] at h2
  have h3 := Option.some.inj h2
  have h4 := congrArg UInt8.toNat h3
  simp only [UInt8.toNat_ofNat'] at h4
  omega
theorem wth_true {n a b : Int} (h1 : a ≤ n) (h2 : n ≤ b) : wth n a b = true := wth_iff.2 ⟨h1, h2⟩
theorem wth_false {n a b : Int} (h : n < a ∨ b < n) : wth n a b = false := by
  rw [← Bool.not_eq_true, wth_iff]; omega
theorem witOk_L (i pre : Nat) : witOk (witL i pre) = decide (pre ≤ 64) := by
  unfold witL
  by_cases hp : 0 < pre
  · rw [if_pos hp]
    have hs : (⟨(lettersL pre i).toArray⟩ : ByteArray).size = pre := by
      show (lettersL pre i).toArray.size = pre
      simp [lettersL_length]
    have hl : (⟨(lettersL pre i).toArray⟩ : ByteArray).toList.isEmpty = false := by
      rw [ByteArray.toList_mk, List.isEmpty_eq_false_iff]
      intro e
      have := lettersL_length pre (i : Int)
      rw [e] at this
      simp at this
      omega
    unfold witOk
    simp only [hs, hl]
    rw [wth_true (by decide) (by decide), wth_true (by decide) (by decide)]
    have : decide ((pre : Int) ≤ 64) = decide (pre ≤ 64) := by
      rw [decide_eq_decide]; omega
    rw [this]
    simp
  · rw [if_neg hp]
    have : pre ≤ 64 := by omega
    simp only [this, decide_true]
    decide +kernel
theorem inOk_L (place seq : Int) (i pre : Nat) : inOk (inL place seq i (witL i pre)) = (wth place 0 99 && wth seq 0 65535 && decide (pre ≤ 64)) := by
  unfold inOk inL
  simp only [witOk_L]
theorem spends_none {l : List In} {p : Outpoint} (h : ∀ x ∈ l, x.prev ≠ p) : spendsAt l p = -1 := by
  unfold spendsAt
  exact firstAt_none (fun j hj => by simpa using h _ (List.getElem_mem hj))
theorem insL_get (place seq : Int) (pre k i : Nat) (h : i < (insL place seq pre k).length) : (insL place seq pre k)[i] = inL place seq i (witL i pre) := by simp [insL]
theorem insL_take (place seq : Int) (pre k i : Nat) (h : i ≤ k) : (insL place seq pre k).take i = insL place seq pre i := by
  unfold insL
  rw [← List.map_take, List.take_range, Nat.min_eq_left h]
theorem insGood_L (place seq : Int) (pre k i : Nat) (hk : k ≤ 200) (h : i < k) : inGood (insL place seq pre k) i = (wth place 0 99 && wth seq 0 65535 && decide (pre ≤ 64)) := by
  unfold inGood
  have hl : i < (insL place seq pre k).length := by rw [insL_length]; exact h
  rw [inAt_eq hl, insL_get, inOk_L, insL_take _ _ _ _ _ (by omega)]
  have : spendsAt (insL place seq pre i) (inL place seq i (witL i pre)).prev = -1 := by
    refine spends_none (fun x hx => ?_)
    unfold insL at hx
    obtain ⟨j, hj, rfl⟩ := List.mem_map.1 hx
    have hj' : j < i := by simpa using hj
    intro e
    have e2 : nameS j = nameS i := congrArg Outpoint.tx e
    have := nameS_inj (by omega) (by omega) e2
    omega
  rw [this]
  simp
theorem totalS_ones : ∀ (j : Nat) (s : Int), 0 ≤ s → s + j ≤ 2100000000000000 → (totalS s (List.replicate j 1)).2 = 0
  | 0, s, _, _ => rfl
  | j + 1, s, h0, h1 => by
    have hm : addS s 1 = (s + 1, 0) := by
      unfold addS
      rw [money_iff.2 ⟨h0, by omega⟩, money_iff.2 ⟨by omega, by omega⟩, money_iff.2 ⟨by omega, by omega⟩]; rfl
    rw [List.replicate_succ, totalS, hm]
    simp only [if_true]
    exact totalS_ones j (s + 1) (by omega) (by omega)
theorem vals_L (outs : Nat) : valsOf (List.replicate outs outL) = List.replicate outs 1 := by simp [valsOf, outL]
theorem outs_L (outs : Nat) : (List.replicate outs outL).all (fun o => scriptOk o.script) = true := by
  rw [List.all_eq_true]
  intro x hx
  rw [List.eq_of_mem_replicate hx]
  decide
theorem check_L (ins outs : Nat) (seq place lock : Int) (pre : Nat) (h1 : ins ≤ 102) : checkS (limL ins outs seq place lock pre) = wantS ins outs seq place lock pre := by
  unfold checkS wantS limL
  simp only [insL_length, List.length_replicate, outs_L]
  by_cases c1 : 100 < ins ∨ 100 < outs
  · rw [if_pos c1, if_pos c1]
  · rw [if_neg c1, if_neg c1]
    by_cases c2 : ins = 0
    · rw [if_pos (.inl c2), if_pos (.inl c2)]
    · by_cases c3 : 0 ≤ place ∧ place ≤ 99 ∧ 0 ≤ seq ∧ seq ≤ 65535 ∧ pre ≤ 64
      · have hok : insOk (insL place seq pre ins) = true := insOk_true (fun k hk => by
          rw [insL_length] at hk
          rw [insGood_L _ _ _ _ _ (by omega) hk, wth_true (by omega) (by omega), wth_true (by omega) (by omega)]
          simp; omega)
        rw [hok]
        by_cases c4 : 0 ≤ lock ∧ lock ≤ 1000000
        · rw [wth_true c4.1 c4.2, if_neg (by simp [c2]), if_neg (by omega), vals_L]
          exact totalS_ones outs 0 (by decide) (by omega)
        · rw [wth_false (by omega), if_pos (by simp), if_pos (by omega)]
      · have hok : insOk (insL place seq pre ins) = false := by
          refine insOk_false (k := 0) (by rw [insL_length]; omega) ?_
          rw [insGood_L _ _ _ _ _ (by omega) (by omega)]
          rw [Bool.and_eq_false_iff, Bool.and_eq_false_iff]
          by_cases p1 : 0 ≤ place ∧ place ≤ 99
          · by_cases p2 : 0 ≤ seq ∧ seq ≤ 65535
            · right; simp; omega
            · left; right; exact wth_false (by omega)
          · left; left; exact wth_false (by omega)
        rw [hok, if_pos (by simp), if_pos (by omega)]
/-- The first input once more. -/
theorem check_twice (ins outs : Nat) (seq place lock : Int) (pre : Nat) (h0 : 0 < ins) (h1 : ins < 100) (h2 : outs ≤ 100) :
    checkS { limL ins outs seq place lock pre with ins := insL place seq pre ins ++ [inL place seq 0 (witL 0 pre)] } = 1 := by
  unfold checkS limL
  simp only [List.length_append, insL_length, List.length_replicate, List.length_singleton]
  rw [if_neg (by omega), if_pos]
  refine .inr (.inl (insOk_false (k := ins) (by simp [insL_length]) ?_))
  unfold inGood
  have hl : ins < (insL place seq pre ins ++ [inL place seq 0 (witL 0 pre)]).length := by simp [insL_length]
  have hat : (insL place seq pre ins ++ [inL place seq 0 (witL 0 pre)])[ins] = inL place seq 0 (witL 0 pre) := by
    rw [List.getElem_append_right (by rw [insL_length]; exact Nat.le_refl _)]; simp [insL_length]
  rw [inAt_eq hl, hat]
  have htk : (insL place seq pre ins ++ [inL place seq 0 (witL 0 pre)]).take ins = insL place seq pre ins := by
    rw [List.take_append_of_le_length (by rw [insL_length]; exact Nat.le_refl _), insL_take _ _ _ _ _ (Nat.le_refl _)]
  rw [htk]
  have hs : spendsAt (insL place seq pre ins) (inL place seq 0 (witL 0 pre)).prev = 0 := by
    unfold spendsAt
    have hl0 : 0 < (insL place seq pre ins).length := by rw [insL_length]; exact h0
    have := firstAt_hit (p := fun x : In => decide (x.prev = (inL place seq 0 (witL 0 pre)).prev)) hl0 (fun j h hj => absurd hj (Nat.not_lt_zero _)) (by rw [insL_get]; simp)
    simpa using this
  rw [hs]
  simp
end Go.Proofs.Ytpkbohhecmdonaa
