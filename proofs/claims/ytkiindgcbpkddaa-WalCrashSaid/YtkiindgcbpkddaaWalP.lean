/- Package wal, plain: records framed one behind the other are read back, and what a torn one leaves. No program in sight. -/
import Derived.Test.YtkiindgcbpkddaaShaF
set_option linter.unusedSimpArgs false
set_option linter.unusedVariables false
namespace Go.Proofs.Ytkiindgcbpkddaa
open Go.RowKit
/-- A record's sum. -/
def sumB (b : List UInt8) : List UInt8 := (shaS (putS b.length ++ b)).l.take 8
theorem sumB_length (b : List UInt8) : (sumB b).length = 8 := by simp [sumB, (shaS (putS b.length ++ b)).len]
def frameS (b : List UInt8) : List UInt8 := putS b.length ++ (sumB b ++ b)
theorem frameS_length (b : List UInt8) : (frameS b).length = (putS b.length).length + 8 + b.length := by simp [frameS, sumB_length]; omega
def framesS (rs : List (List UInt8)) : List UInt8 := rs.flatMap frameS
theorem framesS_append (a b : List (List UInt8)) : framesS (a ++ b) = framesS a ++ framesS b := by simp [framesS]
theorem framesS_one (b : List UInt8) : framesS [b] = frameS b := by simp [framesS]
/-- How many bytes stand behind a mark. -/
def markN (c : UInt8) : Nat := if c = 253 then 2 else if c = 254 then 4 else if c = 255 then 8 else 0
theorem markN_le (c : UInt8) : markN c ≤ 8 := by unfold markN; split; omega; split; omega; split <;> omega
def leVal : List UInt8 → Nat
  | [] => 0
  | c :: r => c.toNat + 256 * leVal r
theorem leVal_snoc (l : List UInt8) (c : UInt8) : leVal (l ++ [c]) = leVal l + c.toNat * 256 ^ l.length := by
  induction l with
  | nil => simp [leVal]
  | cons a l ih => simp only [List.cons_append, leVal, ih, List.length_cons, Nat.pow_succ]; rw [Nat.mul_add, Nat.add_assoc, Nat.mul_left_comm, Nat.mul_comm 256 (256 ^ l.length)]
theorem leVal_lt (l : List UInt8) : leVal l < 256 ^ l.length := by
  induction l with
  | nil => simp [leVal]
  | cons a l ih =>
    have := a.toNat_lt
    simp only [leVal, List.length_cons, Nat.pow_succ]
    omega
theorem leVal_le (k n : Nat) : leVal (leBytes k n) = n % 256 ^ k := by
  induction k with
  | zero => simp [leBytes, leVal, Nat.mod_one]
  | succ k ih =>
    rw [leBytes_succ, leVal_snoc, ih, leBytes_length, UInt8.toNat_ofNat']
    have h := Nat.mod_mul (x := n) (a := 256 ^ k) (b := 256)
    rw [← Nat.pow_succ] at h
    rw [h, Nat.mul_comm (256 ^ k)]
/-- The number that bytes begin with, and how many it has. -/
def getS : List UInt8 → Option (Nat × Nat)
  | [] => none
  | c :: r =>
    if r.length < markN c then none
    else if markN c = 0 then some (c.toNat, 1)
    else if leVal (r.take (markN c)) ≤ 4611686018427387904 ∧ (putS (leVal (r.take (markN c)))).length = 1 + markN c then some (leVal (r.take (markN c)), 1 + markN c) else none
theorem getS_mark (c : UInt8) (k n : Nat) (hk : markN c = k) (h0 : k ≠ 0) (hn : n < 256 ^ k) (hn2 : n ≤ 4611686018427387904) (hp : putS n = c :: leBytes k n) (t : List UInt8) : getS (putS n ++ t) = some (n, (putS n).length) := by
  rw [hp]
  simp only [List.cons_append, getS, hk]
  rw [if_neg (by simp [leBytes_length]), if_neg h0]
  have e : (leBytes k n ++ t).take k = leBytes k n := by rw [List.take_append_of_le_length (by simp [leBytes_length]), List.take_of_length_le (by simp [leBytes_length])]
  rw [e, leVal_le, Nat.mod_eq_of_lt hn, if_pos ⟨hn2, by rw [hp]; simp [leBytes_length]; omega⟩]
  simp [leBytes_length]; omega
/-- A number's bytes: its mark. -/
theorem putS_mark (n : Nat) (hn : n ≤ 4611686018427387904) : ∃ c r, putS n = c :: r ∧ r.length = markN c ∧ (markN c ≠ 0 → r = leBytes (markN c) n ∧ n < 256 ^ markN c) ∧ (markN c = 0 → c.toNat = n) := by
  by_cases c1 : n < 253
  · refine ⟨UInt8.ofNat n, [], by simp [putS, c1], ?_⟩
    have hm : markN (UInt8.ofNat n) = 0 := by
      unfold markN
      have h1 : (UInt8.ofNat n).toNat = n := by rw [UInt8.toNat_ofNat']; omega
      rw [if_neg (fun e => by rw [e] at h1; simp at h1; omega), if_neg (fun e => by rw [e] at h1; simp at h1; omega), if_neg (fun e => by rw [e] at h1; simp at h1; omega)]
    refine ⟨by rw [hm]; rfl, fun h => absurd hm h, fun _ => by rw [UInt8.toNat_ofNat']; omega⟩
  by_cases c2 : n < 65536
  · exact ⟨253, leBytes 2 n, by simp [putS, c1, c2], by rw [leBytes_length]; rfl, fun _ => ⟨rfl, c2⟩, fun h => by cases h⟩
  by_cases c3 : n < 4294967296
  · exact ⟨254, leBytes 4 n, by simp [putS, c1, c2, c3], by rw [leBytes_length]; rfl, fun _ => ⟨rfl, c3⟩, fun h => by cases h⟩
  · exact ⟨255, leBytes 8 n, by simp [putS, c1, c2, c3], by rw [leBytes_length]; rfl, fun _ => ⟨rfl, by show n < 256 ^ 8; omega⟩, fun h => by cases h⟩
theorem getS_put (n : Nat) (hn : n ≤ 4611686018427387904) (t : List UInt8) : getS (putS n ++ t) = some (n, (putS n).length) := by
  obtain ⟨c, r, hp, hr, h1, h2⟩ := putS_mark n hn
  by_cases h0 : markN c = 0
  · rw [h0] at hr
    have : r = [] := List.eq_nil_of_length_eq_zero hr
    subst this
    rw [hp]
    simp only [List.cons_append, getS, h0]
    simp [h2 h0]
  · obtain ⟨e, hlt⟩ := h1 h0
    exact getS_mark c (markN c) n rfl h0 hlt hn (by rw [hp, ← e]) t
theorem getS_torn (n : Nat) (hn : n ≤ 4611686018427387904) (j : Nat) (hj : j < (putS n).length) : getS ((putS n).take j) = none := by
  obtain ⟨c, r, hp, hr, h1, h2⟩ := putS_mark n hn
  rw [hp] at hj ⊢
  cases j with
  | zero => rfl
  | succ j =>
    simp only [List.take_succ_cons, getS]
    simp only [List.length_cons] at hj
    rw [if_pos (by rw [List.length_take]; omega)]
theorem getS_used {p : List UInt8} {n used : Nat} (h : getS p = some (n, used)) : 1 ≤ used ∧ used ≤ 9 ∧ used ≤ p.length ∧ n ≤ 4611686018427387904 := by
  cases p with
  | nil => cases h
  | cons c r =>
    have hm := markN_le c
    have hc := c.toNat_lt
    simp only [getS] at h
    split at h
    · cases h
    · split at h
      · injection h with h; injection h with h1 h2; subst h1 h2; simp; omega
      · split at h
        · rename_i h3 h4 h5
          injection h with h; injection h with h1 h2; subst h1 h2; simp only [List.length_cons]; exact ⟨by omega, by omega, by omega, h5.1⟩
        · cases h
/-- The record that bytes begin with, and how many it takes. -/
def rd1 (p : List UInt8) : Option (List UInt8 × Nat) :=
  match getS p with
  | none => none
  | some (n, used) => if 1048576 < n ∨ p.length < used + 8 + n then none else if sumB ((p.drop (used + 8)).take n) = (p.drop used).take 8 then some ((p.drop (used + 8)).take n, used + 8 + n) else none
theorem rd1_pos {p b : List UInt8} {k : Nat} (h : rd1 p = some (b, k)) : 9 ≤ k ∧ k ≤ p.length := by
  unfold rd1 at h
  cases hg : getS p with
  | none => rw [hg] at h; cases h
  | some x =>
    obtain ⟨n, used⟩ := x
    obtain ⟨h1, h2, h3, h4⟩ := getS_used hg
    rw [hg] at h
    simp only at h
    split at h
    · cases h
    · split at h
      · injection h with h; injection h with e1 e2; omega
      · cases h
theorem rd1_frame (b t : List UInt8) (hb : b.length ≤ 1048576) : rd1 (frameS b ++ t) = some (b, (frameS b).length) := by
  have e0 : frameS b ++ t = putS b.length ++ (sumB b ++ b ++ t) := by simp [frameS, List.append_assoc]
  unfold rd1
  rw [e0, getS_put b.length (by omega)]
  simp only
  have e1 : (putS b.length ++ (sumB b ++ b ++ t)).drop ((putS b.length).length + 8) = b ++ t := by
    rw [← List.append_assoc, ← List.append_assoc, List.append_assoc (putS b.length ++ sumB b), List.drop_append_of_le_length (by simp [sumB_length]), List.drop_of_length_le (by simp [sumB_length])]; simp
  have e2 : (putS b.length ++ (sumB b ++ b ++ t)).drop (putS b.length).length = sumB b ++ b ++ t := by
    rw [List.drop_append_of_le_length (Nat.le_refl _), List.drop_length]; simp
  have e3 : (sumB b ++ b ++ t).take 8 = sumB b := by rw [List.append_assoc, List.take_append_of_le_length (by simp [sumB_length]), List.take_of_length_le (by simp [sumB_length])]
  have e4 : (b ++ t).take b.length = b := by rw [List.take_append_of_le_length (Nat.le_refl _), List.take_length]
  rw [if_neg (by simp [sumB_length]; omega), e1, e2, e3, e4, if_pos rfl, frameS_length]
theorem rd1_torn (b : List UInt8) (hb : b.length ≤ 1048576) (j : Nat) (hj : j < (frameS b).length) : rd1 ((frameS b).take j) = none := by
  by_cases h : j < (putS b.length).length
  · have e : (frameS b).take j = (putS b.length).take j := by unfold frameS; rw [List.take_append_of_le_length (by omega)]
    unfold rd1
    rw [e, getS_torn _ (by omega) j h]
  · have e : (frameS b).take j = putS b.length ++ (sumB b ++ b).take (j - (putS b.length).length) := by unfold frameS; rw [List.take_append, List.take_of_length_le (by omega)]
    unfold rd1
    have hl : ((frameS b).take j).length = j := by rw [List.length_take]; omega
    have hg : getS ((frameS b).take j) = some (b.length, (putS b.length).length) := by rw [e, getS_put _ (by omega)]
    rw [hg]
    simp only
    rw [if_pos (.inr (by rw [hl]; rw [frameS_length] at hj; omega))]
theorem rd1_nil : rd1 [] = none := rfl
/-- All records. -/
def rdA : Nat → List UInt8 → List (List UInt8) × Nat
  | 0, _ => ([], 0)
  | f + 1, p => match rd1 p with
    | none => ([], 0)
    | some (b, k) => (b :: (rdA f (p.drop k)).1, k + (rdA f (p.drop k)).2)
def readsS (p : List UInt8) : List (List UInt8) × Nat := rdA p.length p
theorem rdA_more : ∀ (f g : Nat) (p : List UInt8), p.length ≤ f → p.length ≤ g → rdA f p = rdA g p
  | 0, 0, p, _, _ => rfl
  | 0, g + 1, p, h, _ => by have : p = [] := List.eq_nil_of_length_eq_zero (by omega); subst this; rfl
  | f + 1, 0, p, _, h => by have : p = [] := List.eq_nil_of_length_eq_zero (by omega); subst this; rfl
  | f + 1, g + 1, p, hf, hg => by
    unfold rdA
    cases h : rd1 p with
    | none => rfl
    | some x =>
      obtain ⟨b, k⟩ := x
      have hk := rd1_pos h
      simp only
      rw [rdA_more f g (p.drop k) (by rw [List.length_drop]; omega) (by rw [List.length_drop]; omega)]
theorem readsS_some {p b : List UInt8} {k : Nat} (h : rd1 p = some (b, k)) : readsS p = (b :: (readsS (p.drop k)).1, k + (readsS (p.drop k)).2) := by
  have hk := rd1_pos h
  obtain ⟨f, hf⟩ : ∃ f, p.length = f + 1 := ⟨p.length - 1, by omega⟩
  unfold readsS
  rw [hf]
  conv => lhs; unfold rdA
  rw [h]
  simp only
  rw [rdA_more f (p.drop k).length (p.drop k) (by rw [List.length_drop]; omega) (Nat.le_refl _)]
theorem readsS_none {p : List UInt8} (h : rd1 p = none) : readsS p = ([], 0) := by
  unfold readsS
  cases p.length with
  | zero => rfl
  | succ f => unfold rdA; rw [h]
theorem readsS_frames (t : List UInt8) (ht : rd1 t = none) : ∀ (rs : List (List UInt8)), (∀ b ∈ rs, b.length ≤ 1048576) → readsS (framesS rs ++ t) = (rs, (framesS rs).length)
  | [], _ => readsS_none ht
  | b :: rs, h => by
    have e : framesS (b :: rs) ++ t = frameS b ++ (framesS rs ++ t) := by simp [framesS, List.append_assoc]
    rw [e, readsS_some (rd1_frame b _ (h b (by simp)))]
    have e2 : (frameS b ++ (framesS rs ++ t)).drop (frameS b).length = framesS rs ++ t := by rw [List.drop_append_of_le_length (Nat.le_refl _), List.drop_length]; simp
    rw [e2, readsS_frames t ht rs (fun x hx => h x (by simp [hx]))]
    simp [framesS]
theorem readsS_le : ∀ (n : Nat) (p : List UInt8), p.length = n → (readsS p).2 ≤ n ∧ 9 * (readsS p).1.length ≤ n := by
  intro n
  induction n using Nat.strongRecOn with
  | _ n ih =>
    intro p hp
    cases h : rd1 p with
    | none => rw [readsS_none h]; simp
    | some x =>
      obtain ⟨b, k⟩ := x
      have hk := rd1_pos h
      rw [readsS_some h]
      have := ih (n - k) (by omega) (p.drop k) (by rw [List.length_drop]; omega)
      simp only [List.length_cons]
      omega
end Go.Proofs.Ytkiindgcbpkddaa
