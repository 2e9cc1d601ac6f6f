/- WalCrash: the plain law: begun anew under a cut. -/
import Derived.Test.YtkiindgcbpkddaaWalC
set_option linter.unusedSimpArgs false
set_option linter.unusedVariables false
namespace Go.Proofs.Ytkiindgcbpkddaa
open Go.RowKit Go.Sort
theorem appM_other (M : FsM) {s t : Nm} (l : List UInt8) (h : t ≠ s) : (appM M s l).files t = M.files t := by
  unfold appM
  split
  · exact if_neg h
  · rfl
theorem syncM_other (M : FsM) {s t : Nm} (h : t ≠ s) : (syncM M s).files t = M.files t := by
  unfold syncM
  split
  · exact if_neg h
  · rfl
theorem renameM_off {M : FsM} {s t : Nm} (h : hasE M s [t] ≠ 0) : (renameM M s t).files = M.files := by
  unfold renameM
  rw [if_neg h]
  rfl
theorem has_cut (M : FsM) {s : Nm} {ns : List Nm} (hok : (s :: ns).all okNm = true) (hx : (M.files s).isSome = true) : hasE M s ns = if M.dark then 7 else 0 := by
  unfold hasE
  rw [ask_cut M hok]
  cases M.dark
  · simp [hx]
  · simp
theorem LogM.fail7 (L : LogM) : L.fail 7 = { L with dead := true } := by unfold LogM.fail; rw [show ((7 : Int) == 7) = true from rfl, Bool.or_true]
theorem LogOk.reset_cut {M : FsM} {L : LogM} (h : LogOk M L) (rs : List (List UInt8)) (hb : ∀ b ∈ rs, b.length ≤ 1048576) (hsz : (framesS rs).length ≤ 16777216) :
    (rstE M L h.name rs = 0 ∧ rstL M L h.name rs = L.anew rs ∧ LogOk (rstM M L h.name rs) (L.anew rs)) ∨ (rstE M L h.name rs = 7 ∧ rstL M L h.name rs = { L with dead := true } ∧ TornAt (rstM M L h.name rs) L.name L.recs) := by
  have hok := okName h.name h.some_
  have hot := tmp_ok L.name h.name
  have hne := tmp_ne L.name h.name
  have f1 : (rstM1 M L h.name rs).files L.name = M.files L.name := appM_other M _ hne.symm
  have f2 : (rstM2 M L h.name rs).files L.name = M.files L.name := (syncM_other _ hne.symm).trans f1
  have T : ∀ X : FsM, X.files L.name = M.files L.name → TornAt X L.name L.recs := fun X hX => by
    unfold TornAt
    rw [hX]
    exact h.file.torn
  have D : rstE M L h.name rs = 7 → rstL M L h.name rs = { L with dead := true } := fun e => by
    unfold rstL
    rw [e, if_neg (by decide), LogM.fail7]
  have ho : oldF M (tmpN L.name h.name) = ([], 0) := by unfold oldF; rw [h.tmp]; rfl
  have e1 : rstE1 M L h.name rs = if M.dark then 7 else 0 := by
    unfold rstE1 appE
    rw [ask_cut M (by simp [hot]), ho]
    cases M.dark
    · simp; omega
    · simp
  cases hd : M.dark
  · rw [hd] at e1
    have e1 : rstE1 M L h.name rs = 0 := e1
    have x1 : (rstM1 M L h.name rs).files (tmpN L.name h.name) = some (framesS rs, 0) := by
      unfold rstM1 appM
      rw [if_pos (show appE M (tmpN L.name h.name) (framesS rs).length = 0 from e1), ho]
      exact if_pos rfl
    have e2 : rstE2 M L h.name rs = if (rstM1 M L h.name rs).dark then 7 else 0 := has_cut _ (by simp [hot]) (by rw [x1]; rfl)
    cases hd2 : (rstM1 M L h.name rs).dark
    · rw [hd2] at e2
      have e2 : rstE2 M L h.name rs = 0 := e2
      have x2 : (rstM2 M L h.name rs).files (tmpN L.name h.name) = some (framesS rs, (framesS rs).length) := by
        unfold rstM2 syncM
        rw [if_pos (show hasE (rstM1 M L h.name rs) (tmpN L.name h.name) [] = 0 from e2), x1]
        exact if_pos rfl
      have e3 : rstE3 M L h.name rs = if (rstM2 M L h.name rs).dark then 7 else 0 := has_cut _ (by simp [hot, hok]) (by rw [x2]; rfl)
      have hE : rstE M L h.name rs = rstE3 M L h.name rs := by unfold rstE; rw [e1, e2]; rfl
      have hM : rstM M L h.name rs = rstM3 M L h.name rs := by unfold rstM; rw [e1, e2]; rfl
      cases hd3 : (rstM2 M L h.name rs).dark
      · rw [hd3] at e3
        have e3 : rstE3 M L h.name rs = 0 := e3
        rw [e3] at hE
        have hfl : (rstM3 M L h.name rs).files = fun t => if t = L.name then some (framesS rs, (framesS rs).length) else if t = tmpN L.name h.name then none else (rstM2 M L h.name rs).files t := by
          unfold rstM3 renameM
          rw [if_pos (show hasE (rstM2 M L h.name rs) (tmpN L.name h.name) [L.name] = 0 from e3), x2]
          rfl
        refine .inl ⟨hE, by unfold rstL; rw [if_pos hE]; rfl, h.name, h.some_, h.live, .inr ?_, rfl, ?_, hb⟩
        · rw [hM, hfl]; exact if_pos rfl
        · rw [hM, hfl]
          show (if tmpN L.name h.name = L.name then _ else if tmpN L.name h.name = tmpN L.name h.name then none else _) = none
          rw [if_neg hne, if_pos rfl]
      · rw [hd3] at e3
        have e3 : rstE3 M L h.name rs = 7 := e3
        rw [e3] at hE
        refine .inr ⟨hE, D hE, T _ ?_⟩
        rw [hM]
        have : (rstM3 M L h.name rs).files = (rstM2 M L h.name rs).files := renameM_off (by show rstE3 M L h.name rs ≠ 0; rw [e3]; decide)
        rw [this, f2]
    · rw [hd2] at e2
      have e2 : rstE2 M L h.name rs = 7 := e2
      have hE : rstE M L h.name rs = 7 := by unfold rstE; rw [e1, e2]; rfl
      refine .inr ⟨hE, D hE, T _ ?_⟩
      have hM : rstM M L h.name rs = rstM2 M L h.name rs := by unfold rstM; rw [e1, e2]; rfl
      rw [hM, f2]
  · rw [hd] at e1
    have e1 : rstE1 M L h.name rs = 7 := e1
    have hE : rstE M L h.name rs = 7 := by unfold rstE; rw [e1]; rfl
    refine .inr ⟨hE, D hE, T _ ?_⟩
    have hM : rstM M L h.name rs = rstM1 M L h.name rs := by unfold rstM; rw [e1]; rfl
    rw [hM, f1]
theorem Lit.rename {M : FsM} {n : Nat} (h : Lit M n) (s t : Nm) : Lit (renameM M s t) (n + 1) := by
  unfold renameM
  split
  · exact h.asked.files _ (Nat.succ_le_succ h.few)
  · exact h.asked
theorem Lit.remove {M : FsM} {n : Nat} (h : Lit M n) (s : Nm) : Lit (removeM M s) (n + 1) := by
  unfold removeM
  split
  · exact h.asked.files _ (Nat.le_succ_of_le h.few)
  · exact h.asked
theorem Lit.trunc {M : FsM} {n : Nat} (h : Lit M n) (s : Nm) (k : Int) : Lit (truncM M s k) (n + 1) := by
  unfold truncM
  split
  · exact h.asked.files _ (Nat.le_succ_of_le h.few)
  · exact h.asked
theorem Lit.wap {M : FsM} {n : Nat} (h : Lit M n) (L : LogM) (b : List UInt8) : Lit (wapM M L b) (n + 2) := by
  unfold wapM
  split
  · exact (h.append _ _).sync _
  · exact (h.append _ _).mono (Nat.le_succ _)
theorem Lit.rst {M : FsM} {n : Nat} (h : Lit M n) (L : LogM) (h40 : L.name.1.size ≤ 40) (rs : List (List UInt8)) : Lit (rstM1 M L h40 rs) (n + 1) ∧ Lit (rstM2 M L h40 rs) (n + 2) ∧ Lit (rstM M L h40 rs) (n + 3) := by
  have h1 : Lit (rstM1 M L h40 rs) (n + 1) := h.append _ _
  have h2 : Lit (rstM2 M L h40 rs) (n + 2) := h1.sync _
  have h3 : Lit (rstM3 M L h40 rs) (n + 3) := h2.rename _ _
  refine ⟨h1, h2, ?_⟩
  unfold rstM
  split
  · exact h1.mono (by omega)
  · split
    · exact h2.mono (by omega)
    · exact h3
theorem Lit.opn {M : FsM} {n : Nat} (h : Lit M n) (s : Nm) (h40 : s.1.size ≤ 40) : Lit (opM1 M s h40) (n + 1) ∧ Lit (opM M s h40) (n + 2) := by
  have h1 : Lit (opM1 M s h40) (n + 1) := by
    unfold opM1
    split
    · exact h.remove _
    · exact h.mono (Nat.le_succ _)
  refine ⟨h1, ?_⟩
  unfold opM
  split
  · exact h1.mono (Nat.le_succ _)
  · split
    · exact h1.trunc _ _
    · exact h1.mono (Nat.le_succ _)
theorem Lit.cut {M : FsM} {n : Nat} (h : Lit M n) (k : Int) (hk : k ≤ 9223372036854775807) : Lit (cutM M k) n := by
  have h2 := h.ops
  exact ⟨h.ops, h.most, by show max k 0 ≤ _; omega, by show -M.ops ≤ max k 0; omega, h.few⟩
theorem Lit.zero : Lit fs0 0 := ⟨Int.le_refl _, Int.le_refl _, by decide, Int.le_refl _, Nat.le_refl _⟩
theorem Pow.lit {M : FsM} {n : Nat} (h : Pow M n) : Lit M n := ⟨h.ops, h.most, by have := h.left; omega, h.left2, h.few⟩
end Go.Proofs.Ytkiindgcbpkddaa
