/- The law FileSafe: its files, in plain words. -/
import Derived.Test.YtaopiefbejajkaaFileK
set_option linter.unusedSimpArgs false
set_option linter.unusedVariables false
namespace Go.Proofs.Ytaopiefbejajkaa
open Go.RowKit
theorem names_sorted {M : FsM} {ns l : List Nm} (h : NamesOf M ns) (hl : l.Pairwise (fun a b => bytesN a ≤ bytesN b)) (hn : l.Nodup) (hm : ∀ t, (M.files t).isSome = true ↔ t ∈ l) : ns = l := by
  refine List.Perm.eq_of_pairwise (le := fun a b => bytesN a ≤ bytesN b) (fun a b _ _ h1 h2 => bytesN_inj (List.le_antisymm h1 h2)) h.sorted hl ?_
  exact (List.perm_ext_iff_of_nodup h.nodup hn).2 (fun t => (h.mem t).trans (hm t))
def nF : Nm := ⟨⟨#[102]⟩, by decide⟩
def nG : Nm := ⟨⟨#[103]⟩, by decide⟩
def nH : Nm := ⟨⟨#[104]⟩, by decide⟩
section
variable (A B : List UInt8)
def sa1 : FsM := appM fs0 nF A
def sa2 : FsM := syncM (sa1 A) nF
def sa3 : FsM := appM (sa2 A) nF B
def sa4 : FsM := appM (sa3 A B) nG B
def sa5 : FsM := renameM (sa4 A B) nG nH
variable (hA : A.length ≤ 500) (hB : B.length ≤ 500)
include hA
theorem sa_e1 : appE fs0 nF A.length = 0 := by
  unfold appE
  rw [if_pos (by decide), if_neg]
  show ¬ 16777216 < 0 + A.length
  omega
theorem sa1_eq : sa1 A = ⟨fun t => if t = nF then some (A, 0) else none, false, false, -1, 1, 1⟩ := by
  unfold sa1 appM
  rw [if_pos (sa_e1 A hA)]
  rfl
theorem sa_e2 : hasE (sa1 A) nF [] = 0 := by rw [sa1_eq A hA]; rfl
theorem sa2_eq : sa2 A = ⟨fun t => if t = nF then some (A, A.length) else if t = nF then some (A, 0) else none, false, false, -2, 2, 1⟩ := by
  unfold sa2 syncM
  rw [if_pos (sa_e2 A hA), sa1_eq A hA]
  rfl
include hB
theorem sa_e3 : appE (sa2 A) nF B.length = 0 := by
  unfold appE
  rw [sa2_eq A hA, if_pos (by rfl), if_neg]
  show ¬ 16777216 < A.length + B.length
  omega
theorem sa3_eq : sa3 A B = ⟨fun t => if t = nF then some (A ++ B, A.length) else if t = nF then some (A, A.length) else if t = nF then some (A, 0) else none, false, false, -3, 3, 2⟩ := by
  unfold sa3 appM
  rw [if_pos (sa_e3 A B hA hB), sa2_eq A hA]
  rfl
theorem sa_e4 : appE (sa3 A B) nG B.length = 0 := by
  unfold appE
  rw [sa3_eq A B hA hB, if_pos (by rfl), if_neg]
  show ¬ 16777216 < 0 + B.length
  omega
theorem sa4_eq : sa4 A B = ⟨fun t => if t = nG then some (B, 0) else if t = nF then some (A ++ B, A.length) else if t = nF then some (A, A.length) else if t = nF then some (A, 0) else none, false, false, -4, 4, 3⟩ := by
  unfold sa4 appM
  rw [if_pos (sa_e4 A B hA hB), sa3_eq A B hA hB]
  rfl
theorem sa_e5 : hasE (sa4 A B) nG [nH] = 0 := by rw [sa4_eq A B hA hB]; rfl
theorem sa5_files (t : Nm) : (sa5 A B).files t = if t = nF then some (A ++ B, A.length) else if t = nH then some (B, 0) else none := by
  unfold sa5 renameM
  rw [if_pos (sa_e5 A B hA hB), sa4_eq A B hA hB]
  show (if t = nH then some (B, 0) else if t = nG then none else if t = nG then some (B, 0) else if t = nF then some (A ++ B, A.length) else if t = nF then some (A, A.length) else if t = nF then some (A, 0) else none) = _
  have h1 : nF ≠ nH := by decide
  have h2 : nG ≠ nF := by decide
  by_cases a1 : t = nF
  · subst a1; simp [h1, h2.symm]
  · by_cases a2 : t = nH
    · subst a2; simp [a1]
    · simp [a1, a2]
theorem sa_small : (sa1 A).small ∧ (sa2 A).small ∧ (sa3 A B).small ∧ (sa4 A B).small ∧ (sa5 A B).small := by
  refine ⟨?_, ?_, ?_, ?_, ?_⟩
  · rw [sa1_eq A hA]; unfold FsM.small; simp
  · rw [sa2_eq A hA]; unfold FsM.small; simp
  · rw [sa3_eq A B hA hB]; unfold FsM.small; simp
  · rw [sa4_eq A B hA hB]; unfold FsM.small; simp
  · unfold sa5 renameM
    rw [if_pos (sa_e5 A B hA hB), sa4_eq A B hA hB]
    unfold FsM.small FsM.put FsM.asked FsM.dark
    simp
theorem sa_names {ns : List Nm} (h : NamesOf (sa5 A B) ns) : ns = [nF, nH] := by
  refine names_sorted h (by simp [show bytesN nF ≤ bytesN nH by decide]) (by simp [show nF ≠ nH by decide]) (fun t => ?_)
  rw [sa5_files A B hA hB]
  by_cases a1 : t = nF
  · simp [a1]
  · by_cases a2 : t = nH
    · subst a2; simp [a1]
    · simp [a1, a2]
def saC (pick : Int) : FsM := crashM (sa5 A B) [nF, nH] [pick, pick]
theorem saC_files (pick : Int) (k : Nat) (hk : (k : Int) = roundS pick ((B.length : Int) + 1)) :
    (saC A B pick).files nF = some (A ++ B.take k, A.length + k) ∧ (saC A B pick).files nH = some (B.take k, k) ∧ (saC A B pick).files nG = none := by
  have hkl : k ≤ B.length := by
    have := Int.emod_lt_of_pos pick (show (0 : Int) < (B.length : Int) + 1 by omega)
    unfold roundS at hk
    omega
  have hF : (sa5 A B).files nF = some (A ++ B, A.length) := by rw [sa5_files A B hA hB]; rfl
  have hH : (sa5 A B).files nH = some (B, 0) := by rw [sa5_files A B hA hB]; rfl
  have h0 : ∀ q qs, (crashOne (B, 0) (q :: qs)).1 = if 0 < B.length then (roundS q ((B.length : Int) + 1)).toNat else 0 := by
    intro q qs
    unfold crashOne
    simp only
    split <;> simp
  have hfst : (crashOne (A ++ B, A.length) [pick, pick]).1 = A.length + k ∧ ∃ qs, (crashOne (A ++ B, A.length) [pick, pick]).2 = pick :: qs := by
    unfold crashOne
    simp only
    by_cases hb : 0 < B.length
    · rw [if_pos (show A.length < (A ++ B).length by rw [List.length_append]; omega)]
      refine ⟨?_, [], rfl⟩
      simp only [List.length_append, Nat.add_sub_cancel_left]
      rw [← hk]; simp
    · rw [if_neg (show ¬ A.length < (A ++ B).length by rw [List.length_append]; omega)]
      exact ⟨by show A.length = A.length + k; omega, [pick], rfl⟩
  obtain ⟨hf1, qs, hf2⟩ := hfst
  have hsec : (crashOne (B, 0) (pick :: qs)).1 = k := by
    rw [h0, ← hk]
    split
    · simp
    · omega
  refine ⟨?_, ?_, ?_⟩
  · show (crashStep (sa5 A B).files (crashStep (sa5 A B).files (fun _ => none, [pick, pick]) nF) nH).1 nF = _
    unfold crashStep
    simp only [hF, hH, Option.getD_some, hf1, hf2, hsec]
    rw [if_neg (by decide), if_pos trivial, List.take_length_add_append]
  · show (crashStep (sa5 A B).files (crashStep (sa5 A B).files (fun _ => none, [pick, pick]) nF) nH).1 nH = _
    unfold crashStep
    simp only [hF, hH, Option.getD_some, hf1, hf2, hsec]
    rfl
  · exact crashG_not (sa5 A B).files nG [nF, nH] (fun _ => none, [pick, pick]) (by simp [show nG ≠ nF by decide, show nG ≠ nH by decide])
end
end Go.Proofs.Ytaopiefbejajkaa
