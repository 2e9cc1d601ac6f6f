/- WalCrash: the plain law: what a torn file reads as. -/
import Derived.Test.YtkiindgcbpkddaaWalB
set_option linter.unusedSimpArgs false
set_option linter.unusedVariables false
namespace Go.Proofs.Ytkiindgcbpkddaa
open Go.RowKit Go.Sort
/-- What a record left that was not written out. -/
def TornOf (t : List UInt8) : Prop := t = [] ∨ ∃ b j, b.length ≤ 1048576 ∧ j < (frameS b).length ∧ t = (frameS b).take j
theorem TornOf.none {t : List UInt8} (h : TornOf t) : rd1 t = none := by
  rcases h with rfl | ⟨b, j, hb, hj, rfl⟩
  · exact rd1_nil
  · exact rd1_torn b hb j hj
/-- A file of records, and perhaps a torn one. -/
def TornAt (M : FsM) (s : Nm) (r : List (List UInt8)) : Prop := (r = [] ∧ M.files s = none) ∨ ∃ t k, TornOf t ∧ M.files s = some (framesS r ++ t, k) ∧ (framesS r).length ≤ k ∧ k ≤ (framesS r ++ t).length
theorem torn_reads {r : List (List UInt8)} {t : List UInt8} (ht : TornOf t) (hr : ∀ b ∈ r, b.length ≤ 1048576) : readsS (framesS r ++ t) = (r, (framesS r).length) := readsS_frames t ht.none r hr
theorem TornOf.take {t : List UInt8} (h : TornOf t) (n : Nat) : TornOf (t.take n) := by
  rcases h with rfl | ⟨b, j, hb, hj, rfl⟩
  · exact .inl (by simp)
  · exact .inr ⟨b, min n j, hb, by omega, by rw [List.take_take]⟩
theorem fileOf.torn {M : FsM} {s : Nm} {r : List (List UInt8)} (h : fileOf M s r) : TornAt M s r := by
  rcases h with h | h
  · exact .inl h
  · exact .inr ⟨[], _, .inl rfl, by rw [h]; simp, Nat.le_refl _, by simp⟩
/-- Behind a crash it is so still. -/
theorem TornAt.crash {M : FsM} {s : Nm} {r : List (List UInt8)} (h : TornAt M s r) {ns : List Nm} (hn : NamesOf M ns) (ps : List Int) : TornAt (crashM M ns ps) s r := by
  rcases h with ⟨h1, h2⟩ | ⟨t, k, ht, hf, hk, hk2⟩
  · rcases crash_files (ps := ps) hn s (fun x hx => by rw [h2] at hx; cases hx) with ⟨_, g⟩ | ⟨x, k, g, _⟩
    · exact .inl ⟨h1, g⟩
    · rw [h2] at g; cases g
  · rcases crash_files (ps := ps) hn s (fun x hx => by rw [hf] at hx; cases hx; exact hk2) with ⟨g, _⟩ | ⟨x, m, g, g1, g2, g3⟩
    · rw [hf] at g; cases g
    · rw [hf] at g
      cases g
      simp only at g1 g2 g3
      refine .inr ⟨t.take (m - (framesS r).length), m, ht.take _, ?_, by omega, ?_⟩
      · rw [g3, List.take_append]
        rw [List.take_of_length_le (by omega)]
      · simp at g2 ⊢; omega
/-- A record that was put behind, and not made safe, is there behind a crash, or is torn. -/
theorem torn_crash {M : FsM} {s : Nm} {r : List (List UInt8)} {b : List UInt8} (hb : b.length ≤ 1048576) {k : Nat} (hf : M.files s = some (framesS r ++ frameS b, k)) (hk : (framesS r).length ≤ k) (hk2 : k ≤ (framesS r ++ frameS b).length) {ns : List Nm} (hn : NamesOf M ns) (ps : List Int) :
    TornAt (crashM M ns ps) s r ∨ TornAt (crashM M ns ps) s (r ++ [b]) := by
  rcases crash_files (ps := ps) hn s (fun x hx => by rw [hf] at hx; cases hx; exact hk2) with ⟨g, _⟩ | ⟨x, m, g, g1, g2, g3⟩
  · rw [hf] at g; cases g
  · rw [hf] at g
    cases g
    simp only at g1 g2 g3
    by_cases hm : m = (framesS r ++ frameS b).length
    · refine .inr (.inr ⟨[], m, .inl rfl, ?_, ?_, ?_⟩)
      · rw [g3, List.take_of_length_le (by omega), framesS_append, framesS_one]; simp
      · rw [framesS_append, framesS_one]; omega
      · rw [framesS_append, framesS_one]; simp at hm ⊢; omega
    · refine .inl (.inr ⟨(frameS b).take (m - (framesS r).length), m, .inr ⟨b, _, hb, ?_, rfl⟩, ?_, by omega, ?_⟩)
      · simp at g2 hm; omega
      · rw [g3, List.take_append, List.take_of_length_le (by omega)]
      · simp at g2 ⊢; omega
theorem removeM_other (M : FsM) {s t : Nm} (h : t ≠ s) : (removeM M s).files t = M.files t := by
  unfold removeM
  split
  · show (if t = s then none else M.files t) = _
    rw [if_neg h]
  · rfl
theorem opM1_files (M : FsM) (s : Nm) (h40 : s.1.size ≤ 40) : (opM1 M s h40).files s = M.files s := by
  unfold opM1
  split
  · exact removeM_other M (tmp_ne s h40).symm
  · rfl
/-- Opened with the power going, or not: the file is torn no other way. -/
theorem TornAt.openM {M : FsM} {s : Nm} {r : List (List UInt8)} (h : TornAt M s r) (h40 : s.1.size ≤ 40) (hr : ∀ b ∈ r, b.length ≤ 1048576) : TornAt (opM M s h40) s r := by
  have h1 : TornAt (opM1 M s h40) s r := by
    unfold TornAt
    rw [opM1_files]
    exact h
  unfold opM
  split
  · exact h1
  · split
    · rename_i hc
      unfold truncM
      split
      · rename_i he
        rcases h1 with ⟨_, g⟩ | ⟨t, k, ht, hf, hk, hk2⟩
        · unfold opCut at hc
          rw [g] at hc
          simp at hc
        · have hP : opP M s h40 = framesS r ++ t := by unfold opP; rw [hf]; rfl
          have hR : opR M s h40 = (r, (framesS r).length) := by unfold opR; rw [hP]; exact torn_reads ht hr
          refine .inr ⟨[], (framesS r).length, .inl rfl, ?_, Nat.le_refl _, by simp⟩
          show (if s = s then _ else _) = _
          rw [if_pos rfl, hf, hR]
          simp; omega
      · exact h1
    · exact h1
/-- Opened with power: its records, and nothing else. -/
theorem TornAt.opened {M : FsM} {n : Nat} (hp : Pow M n) {s : Nm} {r : List (List UInt8)} (h : TornAt M s r) (h40 : s.1.size ≤ 40) (hs1 : 1 ≤ s.1.size) (hr : ∀ b ∈ r, b.length ≤ 1048576) :
    opE1 M s h40 = 0 ∧ Pow (opM1 M s h40) (n + 1) ∧ (opM1 M s h40).files (tmpN s h40) = none ∧ opR M s h40 = (if (M.files s).isSome then (r, (framesS r).length) else ([], 0)) := by
  have hot := tmp_ok s h40
  have h1 : opE1 M s h40 = 0 ∧ Pow (opM1 M s h40) (n + 1) ∧ (opM1 M s h40).files (tmpN s h40) = none := by
    unfold opE1 opM1
    cases hf : M.files (tmpN s h40) with
    | none =>
      have e : safeE M (tmpN s h40) = -1 := by unfold safeE; rw [hf]
      rw [e, if_neg (by omega), if_neg (by omega)]
      exact ⟨rfl, hp.mono (Nat.le_succ _), hf⟩
    | some x =>
      have e : safeE M (tmpN s h40) = (x.2 : Int) := by unfold safeE; rw [hf]
      have he := hp.hasE (s := tmpN s h40) (ns := []) (by simp [hot])
      rw [hf] at he
      simp at he
      rw [e, if_pos (by omega), if_pos (by omega)]
      refine ⟨he, ?_, ?_⟩
      · unfold removeM
        rw [if_pos he]
        exact hp.asked.files _ (Nat.le_succ_of_le hp.few)
      · unfold removeM
        rw [if_pos he]
        show (if tmpN s h40 = tmpN s h40 then none else _) = _
        rw [if_pos rfl]
  refine ⟨h1.1, h1.2.1, h1.2.2, ?_⟩
  unfold opR opP
  rw [opM1_files]
  rcases h with ⟨_, g⟩ | ⟨t, k, ht, hf, hk, hk2⟩
  · rw [g]; exact readsS_none rd1_nil
  · rw [hf]; exact torn_reads ht hr
theorem TornAt.open_ok {M : FsM} {n : Nat} (hp : Pow M n) {s : Nm} {r : List (List UInt8)} (h : TornAt M s r) (h40 : s.1.size ≤ 40) (hs1 : 1 ≤ s.1.size) (hr : ∀ b ∈ r, b.length ≤ 1048576) :
    opE M s h40 = 0 ∧ Pow (opM1 M s h40) (n + 1) ∧ Pow (opM M s h40) (n + 2) ∧ opL M s h40 = ⟨s, r, (framesS r).length, false⟩ ∧ LogOk (opM M s h40) ⟨s, r, (framesS r).length, false⟩ := by
  obtain ⟨a1, a2, a3, a4⟩ := h.opened hp h40 hs1 hr
  have hok := okName h40 hs1
  have hne := tmp_ne s h40
  have hf1 := opM1_files M s h40
  rcases h with ⟨h1, h2⟩ | ⟨t, k, ht, hf, hk, hk2⟩
  · subst h1
    rw [h2] at a4
    have hc : opCut M s h40 = false := by unfold opCut; rw [hf1, h2]; rfl
    have hM : opM M s h40 = opM1 M s h40 := by unfold opM; rw [a1, hc]; rfl
    refine ⟨by unfold opE; rw [a1, hc]; rfl, a2, hM ▸ a2.mono (Nat.le_succ _), by unfold opL; rw [a4]; rfl, ?_⟩
    rw [hM]
    exact ⟨h40, hs1, rfl, .inl ⟨rfl, hf1.trans h2⟩, rfl, a3, hr⟩
  · rw [hf] at a4 hf1
    have a5 : opR M s h40 = (r, (framesS r).length) := a4
    have hP : opP M s h40 = framesS r ++ t := by unfold opP; rw [hf1]; rfl
    by_cases htn : t = []
    · subst htn
      have hc : opCut M s h40 = false := by unfold opCut; rw [a5, hP]; simp
      have hM : opM M s h40 = opM1 M s h40 := by unfold opM; rw [a1, hc]; rfl
      refine ⟨by unfold opE; rw [a1, hc]; rfl, a2, hM ▸ a2.mono (Nat.le_succ _), by unfold opL; rw [a5], ?_⟩
      rw [hM]
      refine ⟨h40, hs1, rfl, .inr ?_, rfl, a3, hr⟩
      rw [hf1]
      simp at hk2 ⊢
      omega
    · have hlen : 0 < t.length := List.length_pos_iff.2 htn
      have hc : opCut M s h40 = true := by unfold opCut; rw [a5, hP, hf1]; simp; exact hlen
      obtain ⟨b1, b2, b3⟩ := Pow.truncate a2 hok hf1 (k := (framesS r).length) (by simp)
      have hM : opM M s h40 = truncM (opM1 M s h40) s ((framesS r).length : Nat) := by unfold opM; rw [a1, hc, a5]; rfl
      refine ⟨by unfold opE; rw [a1, hc, a5]; exact b1, a2, hM ▸ b2, by unfold opL; rw [a5], ?_⟩
      rw [hM]
      refine ⟨h40, hs1, rfl, .inr ?_, rfl, ?_, hr⟩
      · rw [b3]
        show (if s = s then _ else _) = _
        rw [if_pos rfl]
        simp; omega
      · rw [b3]
        show (if tmpN s h40 = s then _ else _) = _
        rw [if_neg hne, a3]
/-- So many acts at most, the power going or not. -/
structure Lit (M : FsM) (n : Nat) : Prop where
  ops : 0 ≤ M.ops
  most : M.ops ≤ n
  left : M.left ≤ 9223372036854775807
  left2 : -M.ops ≤ M.left
  few : M.n ≤ n
theorem Lit.small {M : FsM} {n : Nat} (h : Lit M n) (hn : n ≤ 1000000000) : M.small := by
  have h1 := h.left; have h2 := h.ops; have h3 := h.few; have h4 := h.most; have h5 := h.left2
  unfold FsM.small
  omega
theorem Lit.mono {M : FsM} {n m : Nat} (h : Lit M n) (hm : n ≤ m) : Lit M m := ⟨h.ops, by have := h.most; omega, h.left, h.left2, Nat.le_trans h.few hm⟩
theorem Lit.asked {M : FsM} {n : Nat} (h : Lit M n) : Lit M.asked (n + 1) := by
  have h1 := h.left; have h2 := h.ops; have h4 := h.most; have h5 := h.left2
  refine ⟨?_, ?_, ?_, ?_, Nat.le_succ_of_le h.few⟩
  · show 0 ≤ M.ops + 1; omega
  · show M.ops + 1 ≤ ((n + 1 : Nat) : Int); omega
  · show (if M.dark then M.left else M.left - 1) ≤ _; split <;> omega
  · show -(M.ops + 1) ≤ (if M.dark then M.left else M.left - 1); split <;> omega
theorem Lit.files {M : FsM} {n : Nat} (h : Lit M n) (F : Nm → Option (List UInt8 × Nat)) {k : Nat} (hk : k ≤ n) : Lit { M with files := F, n := k } n := ⟨h.ops, h.most, h.left, h.left2, hk⟩
theorem Lit.append {M : FsM} {n : Nat} (h : Lit M n) (s : Nm) (l : List UInt8) : Lit (appM M s l) (n + 1) := by
  unfold appM
  split
  · exact h.asked.files _ (Nat.succ_le_succ h.few)
  · exact h.asked
theorem Lit.sync {M : FsM} {n : Nat} (h : Lit M n) (s : Nm) : Lit (syncM M s) (n + 1) := by
  unfold syncM
  split
  · exact h.asked.files _ (Nat.le_succ_of_le h.few)
  · exact h.asked
theorem ask_cut (M : FsM) {ns : List Nm} (hok : ns.all okNm = true) : askE M ns = if M.dark then 7 else 0 := by
  unfold askE
  rw [hok]; rfl
/-- What a refused turn leaves. -/
def GoneAt (M : FsM) (s : Nm) (r r' : List (List UInt8)) : Prop := TornAt M s r ∨ ∃ b k, b.length ≤ 1048576 ∧ r' = r ++ [b] ∧ M.files s = some (framesS r ++ frameS b, k) ∧ (framesS r).length ≤ k ∧ k ≤ (framesS r ++ frameS b).length
theorem GoneAt.crash {M : FsM} {s : Nm} {r r' : List (List UInt8)} (h : GoneAt M s r r') {ns : List Nm} (hn : NamesOf M ns) (ps : List Int) : TornAt (crashM M ns ps) s r ∨ TornAt (crashM M ns ps) s r' := by
  rcases h with h | ⟨b, k, hb, rfl, hf, hk, hk2⟩
  · exact .inl (h.crash hn ps)
  · exact torn_crash hb hf hk hk2 hn ps
theorem LogOk.append_cut {M : FsM} {L : LogM} (h : LogOk M L) (b : List UInt8) (hb : b.length ≤ 1048576) (hsz : (framesS (L.recs ++ [b])).length ≤ 16777216) :
    (wapE M L b = 0 ∧ wapL M L b = L.put b ∧ LogOk (wapM M L b) (L.put b)) ∨ (wapE M L b = 7 ∧ wapL M L b = { L with dead := true } ∧ GoneAt (wapM M L b) L.name L.recs (L.recs ++ [b])) := by
  have hg := h.file.get
  have hok := okName h.name h.some_
  have hfs : framesS (L.recs ++ [b]) = framesS L.recs ++ frameS b := by rw [framesS_append, framesS_one]
  rw [hfs, List.length_append] at hsz
  have ha := ask_cut M (ns := [L.name]) (by simp [hok])
  by_cases hd : M.dark = true
  · rw [hd] at ha
    have ha7 : askE M [L.name] = 7 := ha
    have he : appE M L.name (frameS b).length = 7 := by unfold appE; rw [ha7]; rfl
    have hE : wapE M L b = 7 := by unfold wapE; rw [if_neg (by rw [he]; decide), he]
    refine .inr ⟨hE, ?_, .inl ?_⟩
    · unfold wapL; rw [hE, if_neg (by decide)]; unfold LogM.fail; rw [show ((7 : Int) == 7) = true from rfl, Bool.or_true]
    · have hM : (wapM M L b).files = M.files := by unfold wapM; rw [if_neg (by rw [he]; decide)]; unfold appM; rw [if_neg (by rw [he]; decide)]; rfl
      unfold TornAt
      rw [hM]
      exact h.file.torn
  · have hd' : M.dark = false := by simpa using hd
    rw [hd'] at ha
    have ha0 : askE M [L.name] = 0 := ha
    have he : appE M L.name (frameS b).length = 0 := by
      unfold appE
      rw [ha0, if_pos rfl, if_neg]
      unfold oldF
      rw [hg]
      simp only
      omega
    have hfl : (appM M L.name (frameS b)).files = fun t => if t = L.name then some (framesS L.recs ++ frameS b, (framesS L.recs).length) else M.files t := by
      unfold appM
      rw [if_pos he]
      show (fun t => if t = L.name then some ((oldF M L.name).1 ++ frameS b, (oldF M L.name).2) else M.files t) = _
      unfold oldF
      rw [hg]
    have hx : (appM M L.name (frameS b)).files L.name = some (framesS L.recs ++ frameS b, (framesS L.recs).length) := by rw [hfl]; exact if_pos rfl
    have ha2 := ask_cut (appM M L.name (frameS b)) (ns := [L.name]) (by simp [hok])
    have hM : wapM M L b = syncM (appM M L.name (frameS b)) L.name := by unfold wapM; rw [if_pos he]
    have hEq : wapE M L b = hasE (appM M L.name (frameS b)) L.name [] := by unfold wapE; rw [if_pos he]
    by_cases hd2 : (appM M L.name (frameS b)).dark = true
    · rw [hd2] at ha2
      have ha7 : askE (appM M L.name (frameS b)) [L.name] = 7 := ha2
      have hh : hasE (appM M L.name (frameS b)) L.name [] = 7 := by unfold hasE; rw [ha7]; rfl
      rw [hh] at hEq
      refine .inr ⟨hEq, ?_, .inr ⟨b, (framesS L.recs).length, hb, rfl, ?_, Nat.le_refl _, by simp⟩⟩
      · unfold wapL; rw [hEq, if_neg (by decide)]; unfold LogM.fail; rw [show ((7 : Int) == 7) = true from rfl, Bool.or_true]
      · rw [hM]; unfold syncM; rw [if_neg (by rw [hh]; decide)]; exact hx
    · have hd2' : (appM M L.name (frameS b)).dark = false := by simpa using hd2
      rw [hd2'] at ha2
      have ha0 : askE (appM M L.name (frameS b)) [L.name] = 0 := ha2
      have hh : hasE (appM M L.name (frameS b)) L.name [] = 0 := by unfold hasE; rw [ha0, if_pos rfl, hx]; rfl
      rw [hh] at hEq
      have hfin : (wapM M L b).files = fun t => if t = L.name then some (framesS L.recs ++ frameS b, (framesS L.recs ++ frameS b).length) else M.files t := by
        rw [hM]; unfold syncM; rw [if_pos hh, hx]
        funext t
        show (if t = L.name then some (framesS L.recs ++ frameS b, (framesS L.recs ++ frameS b).length) else (appM M L.name (frameS b)).files t) = _
        by_cases ht : t = L.name
        · rw [if_pos ht, if_pos ht]
        · rw [if_neg ht, if_neg ht, hfl]
          exact if_neg ht
      refine .inl ⟨hEq, by unfold wapL; rw [if_pos hEq]; rfl, h.name, h.some_, h.live, .inr ?_, ?_, ?_, ?_⟩
      · rw [hfin]
        show (if L.name = L.name then _ else _) = some (framesS (L.recs ++ [b]), (framesS (L.recs ++ [b])).length)
        rw [if_pos rfl, hfs]
      · show L.size + (frameS b).length = (framesS (L.recs ++ [b])).length
        rw [hfs, List.length_append, h.size]
      · rw [hfin]
        show (if tmpN L.name h.name = L.name then _ else M.files (tmpN L.name h.name)) = none
        rw [if_neg (tmp_ne _ _)]
        exact h.tmp
      · intro c hc
        rcases List.mem_append.1 hc with hc | hc
        · exact h.recs c hc
        · rw [List.mem_singleton.1 hc]; exact hb
end Go.Proofs.Ytkiindgcbpkddaa
