/- Sums (chapter 2), continued: bytes taken in one by one; the end. No program in sight. -/
import Derived.Test.YtaopiefbejajkaaShaC
set_option linter.unusedSimpArgs false
set_option linter.unusedVariables false
namespace Go.Proofs.Ytaopiefbejajkaa
def SumV.putB (s : SumV) (c : Nat) : SumV := { s with w := s.w.set (s.hv / 4) (s.w.getD (s.hv / 4) 0 ||| c * 2 ^ (24 - 8 * (s.hv % 4)) % 4294967296), hv := s.hv + 1 }
def SumV.takeB (s : SumV) (c : Nat) : SumV := if s.hv + 1 = 64 then ⟨compressS s.h ((s.putB c).w.take 16), List.replicate 64 0, 0, s.all⟩ else s.putB c
def SumV.ok (s : SumV) : Prop := s.w.length = 64 ∧ (∀ x ∈ s.w, x < 4294967296) ∧ (∀ x ∈ s.h.l, x < 4294967296) ∧ s.w.drop 16 = List.replicate 48 0 ∧ s.hv < 64
theorem SumV.putB_w {s : SumV} (h : s.ok) (c : Nat) : (s.putB c).w.length = 64 ∧ (∀ x ∈ (s.putB c).w, x < 4294967296) ∧ (s.putB c).w.drop 16 = List.replicate 48 0 := by
  obtain ⟨h1, h2, h3, h4, h5⟩ := h
  have hq : s.hv / 4 < 16 := by omega
  refine ⟨by simp [SumV.putB, h1], fun x hx => ?_, ?_⟩
  · simp only [SumV.putB] at hx
    rcases List.mem_or_eq_of_mem_set hx with hx | rfl
    · exact h2 x hx
    · refine Nat.or_lt_two_pow (n := 32) ?_ (Nat.mod_lt _ (by decide))
      have : s.hv / 4 < s.w.length := by omega
      simp only [List.getD, List.getElem?_eq_getElem this, Option.getD_some]
      exact h2 _ (List.getElem_mem this)
  · simp only [SumV.putB]
    rw [List.drop_set_of_lt hq]
    exact h4
theorem St.add_lt (s t : St) : ∀ x ∈ (s.add t).l, x < 4294967296 := by
  intro x hx
  simp only [St.l, St.add, List.mem_cons, List.not_mem_nil, or_false] at hx
  rcases hx with rfl | rfl | rfl | rfl | rfl | rfl | rfl | rfl <;> exact Nat.mod_lt _ (by decide)
theorem SumV.takeB_ok {s : SumV} (h : s.ok) (c : Nat) : (s.takeB c).ok := by
  obtain ⟨p1, p2, p3⟩ := SumV.putB_w h c
  obtain ⟨h1, h2, h3, h4, h5⟩ := h
  unfold SumV.takeB
  split
  · refine ⟨by simp, fun x hx => ?_, St.add_lt _ _, by simp, (by show (0 : Nat) < 64; decide)⟩
    rw [List.eq_of_mem_replicate hx]; decide
  · exact ⟨p1, p2, h3, p3, by simp only [SumV.putB]; omega⟩
theorem SumV.takeB_all (s : SumV) (c x : Nat) : ({ s with all := x } : SumV).takeB c = { s.takeB c with all := x } := by
  unfold SumV.takeB SumV.putB
  split <;> rfl
theorem SumV.takeB_all' (s : SumV) (c : Nat) : (s.takeB c).all = s.all := by
  unfold SumV.takeB SumV.putB
  split <;> rfl
theorem SumV.takeB_hv (s : SumV) (c : Nat) (h : s.hv < 64) : (s.takeB c).hv = (s.hv + 1) % 64 := by
  unfold SumV.takeB
  split
  · rename_i h'; show 0 = _; omega
  · show s.hv + 1 = _; omega
/-- Bytes taken in. -/
def SumV.feed (s : SumV) (l : List UInt8) : SumV := l.foldl (fun s c => s.takeB c.toNat) s
theorem SumV.feed_nil (s : SumV) : s.feed [] = s := rfl
theorem SumV.feed_append (s : SumV) (l m : List UInt8) : s.feed (l ++ m) = (s.feed l).feed m := by simp [SumV.feed]
theorem SumV.feed_one (s : SumV) (c : UInt8) : s.feed [c] = s.takeB c.toNat := rfl
theorem SumV.feed_ok {s : SumV} (h : s.ok) : ∀ l : List UInt8, (s.feed l).ok := by
  intro l
  induction l generalizing s with
  | nil => exact h
  | cons c l ih => exact ih (SumV.takeB_ok h _)
theorem SumV.feed_all (x : Nat) : ∀ (l : List UInt8) (s : SumV), ({ s with all := x } : SumV).feed l = { s.feed l with all := x }
  | [], s => rfl
  | c :: l, s => by
    show (({ s with all := x } : SumV).takeB _).feed l = _
    rw [SumV.takeB_all, SumV.feed_all x l]
    rfl
theorem SumV.feed_all' (l : List UInt8) : ∀ s : SumV, (s.feed l).all = s.all := by
  induction l with
  | nil => intro s; rfl
  | cons c l ih => intro s; exact (ih _).trans (SumV.takeB_all' _ _)
theorem SumV.feed_hv : ∀ (l : List UInt8) (s : SumV), s.ok → (s.feed l).hv = (s.hv + l.length) % 64
  | [], s, h => by have := h.2.2.2.2; simp [SumV.feed]; omega
  | c :: l, s, h => by
    show ((s.takeB c.toNat).feed l).hv = _
    rw [SumV.feed_hv l _ (SumV.takeB_ok h _), SumV.takeB_hv _ _ h.2.2.2.2]
    simp only [List.length_cons]; omega
def SumV.ini : SumV := ⟨ivS, List.replicate 64 0, 0, 0⟩
theorem SumV.ini_ok : SumV.ini.ok := by
  refine ⟨by simp [SumV.ini], fun x hx => ?_, ?_, by simp [SumV.ini], by decide⟩
  · rw [List.eq_of_mem_replicate hx]; decide
  · decide
/-- How many bytes fill a block up to its last eight, behind the mark. -/
def padN (hv : Nat) : Nat := (56 + 64 - hv) % 64
/-- The number of bits, the greatest byte first. -/
def bitsB (n : Nat) : List UInt8 := (List.range 8).map fun i => UInt8.ofNat (8 * n % 18446744073709551616 / 2 ^ (56 - 8 * i))
def SumV.ended (s : SumV) : SumV := ((s.feed [128]).feed (List.replicate (padN (s.feed [128]).hv) 0)).feed (bitsB s.all)
def hashB (h : St) : List UInt8 := (List.range 32).map fun i => UInt8.ofNat (h.l.getD (i / 4) 0 / 2 ^ (24 - 8 * (i % 4)))
theorem hashB_length (h : St) : (hashB h).length = 32 := by simp [hashB]
/-- The sum of bytes. -/
def shaS (l : List UInt8) : Hash := ⟨hashB ({ SumV.ini.feed l with all := l.length } : SumV).ended.h, hashB_length _⟩
def twiceS (l : List UInt8) : Hash := shaS (shaS l).l
end Go.Proofs.Ytaopiefbejajkaa
