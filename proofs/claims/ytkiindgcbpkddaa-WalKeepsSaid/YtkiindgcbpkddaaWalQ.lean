/- Package wal, plain: what a log's deeds make of the files, with the power on. No memory in sight. -/
import Derived.Test.YtkiindgcbpkddaaWalK
set_option linter.unusedSimpArgs false
set_option linter.unusedVariables false
namespace Go.Proofs.Ytkiindgcbpkddaa
open Go.RowKit
/-- The power is on and stays; at most n acts were asked. -/
structure Pow (M : FsM) (n : Nat) : Prop where
  off : M.off = false
  cut : M.cut = false
  ops : 0 ≤ M.ops
  most : M.ops ≤ n
  left : M.left ≤ 0
  left2 : -M.ops ≤ M.left
  few : M.n ≤ n
section
variable {M : FsM} {n : Nat}
theorem Pow.zero : Pow fs0 0 := ⟨rfl, rfl, Int.le_refl _, Int.le_refl _, Int.le_refl _, Int.le_refl _, Nat.le_refl _⟩
theorem Pow.dark (h : Pow M n) : M.dark = false := by unfold FsM.dark; rw [h.off, h.cut]; rfl
theorem Pow.small (h : Pow M n) (hn : n ≤ 1000000000) : M.small := by
  have h1 := h.left; have h2 := h.ops; have h3 := h.few; have h4 := h.most; have h5 := h.left2
  unfold FsM.small
  omega
theorem Pow.mono (h : Pow M n) {m : Nat} (hm : n ≤ m) : Pow M m := ⟨h.off, h.cut, h.ops, by have := h.most; omega, h.left, h.left2, Nat.le_trans h.few hm⟩
theorem Pow.asked (h : Pow M n) : Pow M.asked (n + 1) := by
  have hd := h.dark
  have h1 := h.left; have h2 := h.ops; have h4 := h.most; have h5 := h.left2
  refine ⟨hd, h.cut, ?_, ?_, ?_, ?_, Nat.le_succ_of_le h.few⟩
  · show 0 ≤ M.ops + 1; omega
  · show M.ops + 1 ≤ ((n + 1 : Nat) : Int); omega
  · show (if M.dark then M.left else M.left - 1) ≤ 0; rw [hd]; simp; omega
  · show -(M.ops + 1) ≤ (if M.dark then M.left else M.left - 1); rw [hd]; simp; omega
theorem Pow.files (h : Pow M n) (F : Nm → Option (List UInt8 × Nat)) {k : Nat} (hk : k ≤ n) : Pow { M with files := F, n := k } n := ⟨h.off, h.cut, h.ops, h.most, h.left, h.left2, hk⟩
theorem Pow.askE (h : Pow M n) {ns : List Nm} (hok : ns.all okNm = true) : askE M ns = 0 := by
  unfold Go.Proofs.Ytkiindgcbpkddaa.askE
  rw [h.dark, hok]; rfl
theorem Pow.hasE (h : Pow M n) {s : Nm} {ns : List Nm} (hok : (s :: ns).all okNm = true) : hasE M s ns = if (M.files s).isSome then 0 else 5 := by
  unfold Go.Proofs.Ytkiindgcbpkddaa.hasE
  rw [h.askE hok, if_pos rfl]
theorem Pow.append (h : Pow M n) {s : Nm} {l : List UInt8} (hok : okNm s = true) (hl : ((M.files s).getD ([], 0)).1.length + l.length ≤ 16777216) :
    appE M s l.length = 0 ∧ Pow (appM M s l) (n + 1) ∧ (appM M s l).files = fun t => if t = s then some (((M.files s).getD ([], 0)).1 ++ l, ((M.files s).getD ([], 0)).2) else M.files t := by
  have he : appE M s l.length = 0 := by
    unfold appE
    rw [h.askE (by simp [hok]), if_pos rfl, if_neg]
    unfold oldF
    omega
  refine ⟨he, ?_, ?_⟩
  · unfold appM
    rw [if_pos he]
    exact h.asked.files _ (Nat.succ_le_succ h.few)
  · unfold appM
    rw [if_pos he]
    rfl
theorem Pow.sync (h : Pow M n) {s : Nm} (hok : okNm s = true) {x : List UInt8 × Nat} (hx : M.files s = some x) :
    Go.Proofs.Ytkiindgcbpkddaa.hasE M s [] = 0 ∧ Pow (syncM M s) (n + 1) ∧ (syncM M s).files = fun t => if t = s then some (x.1, x.1.length) else M.files t := by
  have he := h.hasE (s := s) (ns := []) (by simp [hok])
  rw [hx] at he
  simp only [Option.isSome_some, if_true] at he
  refine ⟨he, ?_, ?_⟩
  · unfold syncM
    rw [if_pos he]
    exact h.asked.files _ (Nat.le_succ_of_le h.few)
  · unfold syncM
    rw [if_pos he, hx]
    rfl
theorem Pow.rename (h : Pow M n) {s t : Nm} (hs : okNm s = true) (ht : okNm t = true) {x : List UInt8 × Nat} (hx : M.files s = some x) :
    Go.Proofs.Ytkiindgcbpkddaa.hasE M s [t] = 0 ∧ Pow (renameM M s t) (n + 1) ∧ (renameM M s t).files = fun u => if u = t then some x else if u = s then none else M.files u := by
  have he := h.hasE (s := s) (ns := [t]) (by simp [hs, ht])
  rw [hx] at he
  simp only [Option.isSome_some, if_true] at he
  refine ⟨he, ?_, ?_⟩
  · unfold renameM
    rw [if_pos he]
    exact h.asked.files _ (Nat.succ_le_succ h.few)
  · unfold renameM
    rw [if_pos he, hx]
    rfl
theorem Pow.remove (h : Pow M n) {s : Nm} (hs : okNm s = true) {x : List UInt8 × Nat} (hx : M.files s = some x) :
    Go.Proofs.Ytkiindgcbpkddaa.hasE M s [] = 0 ∧ Pow (removeM M s) (n + 1) ∧ (removeM M s).files = fun u => if u = s then none else M.files u := by
  have he := h.hasE (s := s) (ns := []) (by simp [hs])
  rw [hx] at he
  simp only [Option.isSome_some, if_true] at he
  refine ⟨he, ?_, ?_⟩
  · unfold removeM
    rw [if_pos he]
    exact h.asked.files _ (Nat.le_succ_of_le h.few)
  · unfold removeM
    rw [if_pos he]
    rfl
theorem Pow.truncate (h : Pow M n) {s : Nm} (hs : okNm s = true) {x : List UInt8 × Nat} (hx : M.files s = some x) {k : Nat} (hk : k ≤ x.1.length) :
    truncE M s k = 0 ∧ Pow (truncM M s k) (n + 1) ∧ (truncM M s k).files = fun u => if u = s then some (x.1.take k, min x.2 k) else M.files u := by
  have he := h.hasE (s := s) (ns := []) (by simp [hs])
  rw [hx] at he
  simp only [Option.isSome_some, if_true] at he
  have ht : truncE M s k = 0 := by
    unfold truncE
    rw [if_pos he, hx, if_neg]
    simp only [Option.getD_some]
    omega
  refine ⟨ht, ?_, ?_⟩
  · unfold truncM
    rw [if_pos ht]
    exact h.asked.files _ (Nat.le_succ_of_le h.few)
  · unfold truncM
    rw [if_pos ht, hx]
    simp only [Option.map_some, Int.toNat_natCast]
    rfl
end
/-! ### behind a crash -/
theorem crash_at (files : Nm → Option (List UInt8 × Nat)) (s : Nm) (hs : ∀ x, files s = some x → x.2 ≤ x.1.length) : ∀ (ns : List Nm) (a : (Nm → Option (List UInt8 × Nat)) × List Int), s ∈ ns → ns.Nodup → (∃ x, files s = some x) →
    ∃ x k, files s = some x ∧ x.2 ≤ k ∧ k ≤ x.1.length ∧ (ns.foldl (crashStep files) a).1 s = some (x.1.take k, k)
  | [], a, h, _, _ => by simp at h
  | t :: ns, a, h, hn, hx => by
    obtain ⟨x, hx⟩ := hx
    have hn2 := List.nodup_cons.1 hn
    rw [List.foldl_cons]
    by_cases e : s = t
    · subst e
      have hk : (ns.foldl (crashStep files) (crashStep files a s)).1 s = (crashStep files a s).1 s := by
        have key : ∀ (ns : List Nm) (b : (Nm → Option (List UInt8 × Nat)) × List Int), s ∉ ns → (ns.foldl (crashStep files) b).1 s = b.1 s := by
          intro ns
          induction ns with
          | nil => intro b _; rfl
          | cons u ns ih =>
            intro b hu
            rw [List.foldl_cons, ih _ (fun h => hu (List.mem_cons_of_mem _ h))]
            show (if s = u then _ else b.1 s) = _
            rw [if_neg (fun e => hu (by rw [e]; exact List.mem_cons_self))]
        exact key ns _ hn2.1
      rw [hk]
      have h1 : (crashStep files a s).1 s = some ((((files s).getD ([], 0)).1.take (crashOne ((files s).getD ([], 0)) a.2).1), (crashOne ((files s).getD ([], 0)) a.2).1) := by unfold crashStep; exact if_pos rfl
      rw [h1, hx]
      simp only [Option.getD_some]
      have hle := crashOne_le x a.2 (hs x hx)
      have hge : x.2 ≤ (crashOne x a.2).1 := by
        unfold crashOne
        split
        · exact Nat.le_refl _
        · split
          · exact Nat.le_add_right _ _
          · exact Nat.le_refl _
      exact ⟨x, _, rfl, hge, hle, rfl⟩
    · have hm : s ∈ ns := by
        rcases List.mem_cons.1 h with h | h
        · exact absurd h e
        · exact h
      exact crash_at files s hs ns _ hm hn2.2 ⟨x, hx⟩
theorem crash_no (files : Nm → Option (List UInt8 × Nat)) (s : Nm) : ∀ (ns : List Nm) (b : (Nm → Option (List UInt8 × Nat)) × List Int), s ∉ ns → (ns.foldl (crashStep files) b).1 s = b.1 s
  | [], b, _ => rfl
  | u :: ns, b, hu => by
    rw [List.foldl_cons, crash_no files s ns _ (fun h => hu (List.mem_cons_of_mem _ h))]
    show (if s = u then _ else b.1 s) = _
    rw [if_neg (fun e => hu (by rw [e]; exact List.mem_cons_self))]
section
variable {M : FsM} {ns : List Nm} {ps : List Int}
theorem crash_files (h : NamesOf M ns) (s : Nm) (hs : ∀ x, M.files s = some x → x.2 ≤ x.1.length) : (M.files s = none ∧ (crashM M ns ps).files s = none) ∨ ∃ x k, M.files s = some x ∧ x.2 ≤ k ∧ k ≤ x.1.length ∧ (crashM M ns ps).files s = some (x.1.take k, k) := by
  cases hf : M.files s with
  | none =>
    refine .inl ⟨rfl, ?_⟩
    have : s ∉ ns := fun hm => by have := (h.mem s).1 hm; rw [hf] at this; cases this
    exact crash_no M.files s ns _ this
  | some x =>
    refine .inr ?_
    have hm : s ∈ ns := (h.mem s).2 (by rw [hf]; rfl)
    obtain ⟨y, k, h1, h2, h3, h4⟩ := crash_at M.files s hs ns (fun _ => none, ps) hm h.nodup ⟨x, hf⟩
    rw [hf] at h1
    cases h1
    exact ⟨x, k, rfl, h2, h3, h4⟩
theorem Pow.crash (h : NamesOf M ns) : Pow (crashM M ns ps) ns.length := ⟨rfl, rfl, Int.le_refl _, by show (0 : Int) ≤ _; omega, Int.le_refl _, Int.le_refl _, Nat.le_refl _⟩
end
/-! ### a log over its files -/
theorem tmp_ne (s : Nm) (h : s.1.size ≤ 40) : tmpN s h ≠ s := by
  intro e
  have h2 : (tmpN s h).1.size = s.1.size := by rw [e]
  have h3 : (tmpN s h).1.size = s.1.size + 4 := by
    show (s.1 ++ tailB).size = _
    rw [ByteArray.size_append]; rfl
  omega
theorem tmp_ok (s : Nm) (h : s.1.size ≤ 40) : okNm (tmpN s h) = true := by
  have h3 : (tmpN s h).1.size = s.1.size + 4 := by
    show (s.1 ++ tailB).size = _
    rw [ByteArray.size_append]; rfl
  unfold okNm
  rw [h3]
  exact decide_eq_true (by omega)
/-- The file that a log's records make. -/
def fileOf (M : FsM) (s : Nm) (rs : List (List UInt8)) : Prop := (rs = [] ∧ M.files s = none) ∨ M.files s = some (framesS rs, (framesS rs).length)
structure LogOk (M : FsM) (L : LogM) : Prop where
  name : L.name.1.size ≤ 40
  some_ : 1 ≤ L.name.1.size
  live : L.dead = false
  file : fileOf M L.name L.recs
  size : L.size = (framesS L.recs).length
  tmp : M.files (tmpN L.name name) = none
  recs : ∀ b ∈ L.recs, b.length ≤ 1048576
theorem okName {s : Nm} (h : s.1.size ≤ 40) (h1 : 1 ≤ s.1.size) : okNm s = true := decide_eq_true ⟨h1, by omega⟩
theorem fileOf.get {M : FsM} {s : Nm} {rs : List (List UInt8)} (h : fileOf M s rs) : ((M.files s).getD ([], 0)) = (framesS rs, (framesS rs).length) := by
  rcases h with ⟨h1, h2⟩ | h
  · rw [h2, h1]; rfl
  · rw [h]; rfl
section
variable {M : FsM} {L : LogM} {n : Nat}
/-- A record put behind the others. -/
theorem LogOk.append (h : LogOk M L) (hp : Pow M n) (b : List UInt8) (hb : b.length ≤ 1048576) (hsz : (framesS (L.recs ++ [b])).length ≤ 16777216) :
    wapE M L b = 0 ∧ wapL M L b = { L with recs := L.recs ++ [b], size := L.size + (frameS b).length } ∧ Pow (appM M L.name (frameS b)) (n + 1) ∧ Pow (wapM M L b) (n + 2) ∧ LogOk (wapM M L b) (wapL M L b) ∧ ∀ t, t ≠ L.name → (wapM M L b).files t = M.files t := by
  have hg := h.file.get
  have hok := okName h.name h.some_
  have hfs : framesS (L.recs ++ [b]) = framesS L.recs ++ frameS b := by rw [framesS_append, framesS_one]
  rw [hfs, List.length_append] at hsz
  obtain ⟨a1, a2, a3⟩ := hp.append (s := L.name) (l := frameS b) hok (by rw [hg]; exact hsz)
  rw [hg] at a3
  have hx : (appM M L.name (frameS b)).files L.name = some (framesS L.recs ++ frameS b, (framesS L.recs).length) := by rw [a3]; exact if_pos rfl
  obtain ⟨b1, b2, b3⟩ := a2.sync hok hx
  have hE : wapE M L b = 0 := by unfold wapE; rw [if_pos a1, b1]
  have hL : wapL M L b = { L with recs := L.recs ++ [b], size := L.size + (frameS b).length } := by unfold wapL; rw [if_pos hE]
  have hM : wapM M L b = syncM (appM M L.name (frameS b)) L.name := by unfold wapM; rw [if_pos a1]
  have hother : ∀ t, t ≠ L.name → (wapM M L b).files t = M.files t := by
    intro t ht
    rw [hM, b3, a3]
    simp only [if_neg ht]
  refine ⟨hE, hL, a2, by rw [hM]; exact b2, ?_, hother⟩
  rw [hL]
  refine ⟨h.name, h.some_, h.live, .inr ?_, ?_, ?_, ?_⟩
  · rw [hM, b3, hfs]
    exact if_pos rfl
  · simp only [hfs, List.length_append, h.size]
  · exact (hother _ (tmp_ne _ _)).trans h.tmp
  · intro c hc
    rcases List.mem_append.1 hc with hc | hc
    · exact h.recs c hc
    · rw [List.mem_singleton.1 hc]; exact hb
/-- A file that reads as records and no more: opened, it is they. -/
theorem open_ok (s : Nm) (h40 : s.1.size ≤ 40) (rs : List (List UInt8)) (hf : fileOf M s rs) (ht : M.files (tmpN s h40) = none) (hr : ∀ b ∈ rs, b.length ≤ 1048576) :
    opE M s h40 = 0 ∧ opM1 M s h40 = M ∧ opM M s h40 = M ∧ opL M s h40 = ⟨s, rs, (framesS rs).length, false⟩ := by
  have hs : safeE M (tmpN s h40) = -1 := by unfold safeE; rw [ht]
  have h1 : opM1 M s h40 = M := by unfold opM1; rw [hs]; rfl
  have h0 : opE1 M s h40 = 0 := by unfold opE1; rw [hs]; rfl
  have hP : opP M s h40 = framesS rs := by unfold opP; rw [h1, hf.get]
  have hR : opR M s h40 = (rs, (framesS rs).length) := by
    unfold opR
    rw [hP]
    have := readsS_frames [] rd1_nil rs hr
    rwa [List.append_nil] at this
  have hC : opCut M s h40 = false := by
    unfold opCut
    rw [hR, hP]
    simp
  refine ⟨?_, h1, ?_, ?_⟩
  · unfold opE; rw [h0, hC]; rfl
  · unfold opM; rw [h0, hC, h1]; rfl
  · unfold opL; rw [hR]
theorem LogOk.opened (h : LogOk M L) : opE M L.name h.name = 0 ∧ opM1 M L.name h.name = M ∧ opM M L.name h.name = M ∧ opL M L.name h.name = L := by
  obtain ⟨a, b, c, d⟩ := open_ok L.name h.name L.recs h.file h.tmp h.recs
  refine ⟨a, b, c, d.trans ?_⟩
  have e := h.size
  have f := h.live
  obtain ⟨name, recs, size, dead⟩ := L
  simp only at e f
  rw [e, f]
/-- Behind a crash the log is the same. -/
theorem LogOk.crash (h : LogOk M L) {ns : List Nm} (hn : NamesOf M ns) (ps : List Int) : LogOk (crashM M ns ps) L := by
  refine ⟨h.name, h.some_, h.live, ?_, h.size, ?_, h.recs⟩
  · rcases h.file with ⟨h1, h2⟩ | h1
    · rcases crash_files (ps := ps) hn L.name (fun x hx => by rw [h2] at hx; cases hx) with ⟨_, g⟩ | ⟨x, k, g, _⟩
      · exact .inl ⟨h1, g⟩
      · rw [h2] at g; cases g
    · rcases crash_files (ps := ps) hn L.name (fun x hx => by rw [h1] at hx; cases hx; exact Nat.le_refl _) with ⟨g, _⟩ | ⟨x, k, g, g2, g3, g4⟩
      · rw [h1] at g; cases g
      · rw [h1] at g
        cases g
        simp only at g2 g3
        have : k = (framesS L.recs).length := by omega
        subst this
        rw [List.take_length] at g4
        exact .inr g4
  · rcases crash_files (ps := ps) hn (tmpN L.name h.name) (fun x hx => by rw [h.tmp] at hx; cases hx) with ⟨_, g⟩ | ⟨x, k, g, _⟩
    · exact g
    · rw [h.tmp] at g; cases g
/-- Files that are not the log's may change. -/
theorem LogOk.other (h : LogOk M L) {M' : FsM} (h1 : M'.files L.name = M.files L.name) (h2 : M'.files (tmpN L.name h.name) = M.files (tmpN L.name h.name)) : LogOk M' L :=
  ⟨h.name, h.some_, h.live, by unfold fileOf; rw [h1]; exact h.file, h.size, h2.trans h.tmp, h.recs⟩
theorem LogOk.new (s : Nm) (h40 : s.1.size ≤ 40) (h1 : 1 ≤ s.1.size) (hs : M.files s = none) (ht : M.files (tmpN s h40) = none) : LogOk M ⟨s, [], 0, false⟩ := ⟨h40, h1, rfl, .inl ⟨rfl, hs⟩, rfl, ht, fun b hb => by simp at hb⟩
end
end Go.Proofs.Ytkiindgcbpkddaa
