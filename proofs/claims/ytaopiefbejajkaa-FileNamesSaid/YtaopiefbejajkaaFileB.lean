/- Package file: files in memory, and the deeds that find a file first. -/
import Derived.Test.YtaopiefbejajkaaFileA
import Derived.Test.YtaopiefbejajkaaSlc
set_option linter.unusedSimpArgs false
set_option linter.unusedVariables false
namespace Go.Proofs.Ytaopiefbejajkaa
open Go.RowKit
/-- A file as it lies: its block, its bytes, how many are safe. -/
structure FileR where
  blk : Nat
  b : Sl
  l : List UInt8
  safe : Nat
def FileR.arr (r : FileR) : Array Value := (FileV.mk r.b r.safe).arr
/-- One file's blocks. -/
structure FileAt (w : World) (base : Nat → Prop) (r : FileR) : Prop where
  above : base r.blk
  cells : w.heap[r.blk]? = some (.cells r.arr 170 (0, 0))
  own : ownB w base r.b r.l
  safe : r.safe ≤ r.l.length
  size : r.l.length ≤ 16777216
/-- A map of at most so many entries. -/
def mapEx {κ : Type} (w : World) (enc : κ → Value) (b N : Nat) (f : κ → Option Value) : Prop := ∃ n, n ≤ N ∧ mapAt w enc b n f
theorem mapEx.lt {κ : Type} {w : World} {enc : κ → Value} {b N : Nat} {f : κ → Option Value} (h : mapEx w enc b N f) : b < w.heap.size := h.choose_spec.2.lt
theorem mapEx.of_block {κ : Type} {w w' : World} {enc : κ → Value} {b N : Nat} {f : κ → Option Value} (h : mapEx w enc b N f) (hb : w'.heap[b]? = w.heap[b]?) : mapEx w' enc b N f := ⟨h.choose, h.choose_spec.1, h.choose_spec.2.of_block hb⟩
theorem mapEx.mono {κ : Type} {w : World} {enc : κ → Value} {b N N' : Nat} {f : κ → Option Value} (h : mapEx w enc b N f) (hN : N ≤ N') : mapEx w enc b N' f := ⟨h.choose, Nat.le_trans h.choose_spec.1 hN, h.choose_spec.2⟩
/-- The files of a system, as they lie. -/
structure FsRep (w : World) (base : Nat → Prop) (p mb : Nat) (F : Nm → Option FileR) (M : FsM) : Prop where
  hp : base p
  hm : base mb
  hd : w.heap[p]? = some (.cells (M.head mb).arr 166 (0, 0))
  map : mapEx w nmV mb M.n (fun s => (F s).map fun r => .pointer (some ⟨r.blk, 0, none⟩))
  files : ∀ s, M.files s = (F s).map fun r => (r.l, r.safe)
  file : ∀ s r, F s = some r → FileAt w base r
  apart : ∀ s t r q, F s = some r → F t = some q → s ≠ t → r.blk ≠ q.blk ∧ ∀ k, r.b.own = some k → q.b.own ≠ some k
theorem apart_type {w : World} {a b : Nat} {c d : Array Value} {t u : TypeId} {fr gr : Nat × Nat} (h1 : w.heap[a]? = some (.cells c t fr)) (h2 : w.heap[b]? = some (.cells d u gr)) (h : t ≠ u) : a ≠ b := by
  rintro rfl
  rw [h1] at h2
  have := Option.some.inj h2
  injection this with e1 e2
  exact h e2
theorem apart_map {κ : Type} {w : World} {a b N : Nat} {c : Array Value} {t : TypeId} {fr : Nat × Nat} {enc : κ → Value} {f : κ → Option Value} (h1 : w.heap[a]? = some (.cells c t fr)) (h2 : mapEx w enc b N f) : a ≠ b := by
  rintro rfl
  obtain ⟨n, hn, es, clock, hb, _⟩ := h2
  rw [h1] at hb
  cases hb
theorem ownB.block {w : World} {base : Nat → Prop} {s : Sl} {l : List UInt8} (h : ownB w base s l) {k : Nat} (hk : s.own = some k) : ∃ cur, w.heap[k]? = some (.cells cur 5 (0, 0)) := by
  unfold Sl.own at hk
  split at hk
  · cases hk
  · rename_i hc
    obtain ⟨g, cur, ha, hg, hh, _⟩ := h.2.2.2 hc
    rw [ha] at hk
    cases hk
    exact ⟨cur, hh⟩
theorem FileAt.lt {w : World} {base : Nat → Prop} {r : FileR} (h : FileAt w base r) : r.blk < w.heap.size := (cells_known h.cells).2.2
theorem FileAt.upd {w w' : World} {base : Nat → Prop} {r : FileR} {S : Nat → Prop} (h : FileAt w base r) (hu : Upd w w' S) (h1 : ¬ S r.blk) (h2 : ∀ k, r.b.own = some k → ¬ S k) : FileAt w' base r :=
  ⟨h.above, (hu.block _ h.lt h1).trans h.cells, h.own.upd hu h2, h.safe, h.size⟩
section
variable {w w' : World} {base : Nat → Prop} {p mb : Nat} {F : Nm → Option FileR} {M : FsM}
theorem FsRep.lt (h : FsRep w base p mb F M) : p < w.heap.size ∧ mb < w.heap.size := ⟨(cells_known h.hd).2.2, h.map.lt⟩
theorem FsRep.upd {S : Nat → Prop} (h : FsRep w base p mb F M) (hu : Upd w w' S) (h1 : ¬ S p) (h2 : ¬ S mb) (h3 : ∀ s r, F s = some r → ¬ S r.blk ∧ ∀ k, r.b.own = some k → ¬ S k) : FsRep w' base p mb F M :=
  ⟨h.hp, h.hm, (hu.block _ h.lt.1 h1).trans h.hd, h.map.of_block (hu.block _ h.lt.2 h2), h.files, fun s r e => (h.file s r e).upd hu (h3 s r e).1 (h3 s r e).2, h.apart⟩
theorem FsRep.below (h : FsRep w base p mb F M) (hb : Below w.heap.size w w') : FsRep w' base p mb F M := h.upd (Upd.of_below hb (fun _ => False)) (fun h => h) (fun h => h) (fun _ _ _ => ⟨fun h => h, fun _ _ h => h⟩)
theorem FsRep.ne_blk (h : FsRep w base p mb F M) {s : Nm} {r : FileR} (e : F s = some r) : r.blk ≠ p ∧ r.blk ≠ mb ∧ ∀ k, r.b.own = some k → k ≠ p ∧ k ≠ mb ∧ ∀ t q, F t = some q → k ≠ q.blk := by
  have h1 := h.file s r e
  refine ⟨apart_type h1.cells h.hd (by decide), apart_map h1.cells h.map, fun k hk => ?_⟩
  obtain ⟨cur, hcur⟩ := h1.own.block hk
  exact ⟨apart_type hcur h.hd (by decide), apart_map hcur h.map, fun t q eq => apart_type hcur (h.file t q eq).cells (by decide)⟩
/-- Another head. -/
theorem FsRep.head {M' : FsM} (h : FsRep w base p mb F M) (hu : Upd w w' (fun k => k = p)) (hd : w'.heap[p]? = some (.cells (M'.head mb).arr 166 (0, 0))) (hf : M'.files = M.files) (hn : M'.n = M.n) : FsRep w' base p mb F M' := by
  have hne : p ≠ mb := apart_map h.hd h.map
  refine ⟨h.hp, h.hm, hd, ?_, fun s => by rw [hf]; exact h.files s, fun s r e => (h.file s r e).upd hu (h.ne_blk e).1 (fun k hk => ((h.ne_blk e).2.2 k hk).1), h.apart⟩
  rw [hn]
  exact h.map.of_block (hu.block _ h.lt.2 (fun e => hne e.symm))
theorem FsRep.looks (h : FsRep w base p mb F M) (s : Nm) : (Instr.lookup 164 (.map (some mb)) (.string s.1) false).run Try.prog w = .ok (.pointer ((F s).map fun r => ⟨r.blk, 0, none⟩)) w := by
  have hz : (Try.prog.info? 168).map (·.zero) = some (some (.pointer none)) := by kernel_rfl
  have := run_lookup nm_enc Try.underlying164 (zeroValue_run hz w) h.map.choose_spec.2 s false
  rw [show nmV s = .string s.1 from rfl] at this
  rw [this]
  cases hf : F s <;> simp [look, hf]
end
/-- What comes of it when a file is asked for. -/
def hasE (M : FsM) (s : Nm) (ns : List Nm) : Int := if askE M (s :: ns) = 0 then (if (M.files s).isSome then 0 else 5) else askE M (s :: ns)
def hasR (F : Nm → Option FileR) (M : FsM) (s : Nm) (ns : List Nm) : Value := .tuple #[.pointer (if hasE M s ns = 0 then (F s).map fun r => ⟨r.blk, 0, none⟩ else none), .int .i64 (hasE M s ns)]
set_option maxRecDepth 100000 in
set_option maxHeartbeats 1000000 in
theorem has_file (base : Nat → Prop) (p mb b c : Nat) (F : Nm → Option FileR) (M : FsM) (s : Nm) (ns : List Nm) (w : World) (h : FsRep w base p mb F M) (hM : M.small) (hl : (s :: ns).length ≤ 1000) (hb : w.heap[b]? = some (.cells ((s :: ns).map nmV).toArray 9 (0, 0))) :
    Calls Try.prog 98 #[.pointer (some ⟨p, 0, none⟩), .slice (some ⟨b, 0, none⟩) (s :: ns).length c] w fun e w' => e = .returned (hasR F M s ns) ∧ FsRep w' base p mb F M.asked ∧ Upd w w' (fun k => k = p) := by
  have hbp : b ≠ p := apart_type hb h.hd (by decide)
  have hask := asked_file p mb b c M (s :: ns) w hM hl h.hd hb hbp
  obtain ⟨L, hL⟩ : ∃ L, L = (s :: ns).length := ⟨_, rfl⟩
  rw [← hL] at hask ⊢
  have hL0 : 0 < L := by rw [hL]; simp
  have hL1 : (0 : Int) < (L : Int) := by omega
  obtain ⟨E, hE⟩ : ∃ E, E = askE M (s :: ns) := ⟨_, rfl⟩
  rw [← hE] at hask
  have hbl := (cells_known hb).2.2
  have HRep := Lib.hid h
  by_cases h0 : E = 0
  · have hE0 := Lib.hid (hE.symm.trans h0)
    subst h0
    clear hE h hL
    go_enter Try.func98, Try.ntmps98
    go_wp2_with fail
    refine hask.mono ?_
    rintro e w1 ⟨rfl, hd1, hu1⟩
    have hr1 := HRep.out.head hu1 hd1 rfl rfl
    have c0 : w1.cell? ⟨p, 0, none⟩ = some (.map (some mb)) := by rw [(cells_known hd1).1]; simp [FsM.head]
    have cb : w1.cell? ⟨b, 0, none⟩ = some (.string s.1) := by
      rw [(cells_known ((hu1.block b hbl hbp).trans hb)).1]; simp [nmV]
    have hlk : ∀ m, (Instr.lookup 164 (.map (some mb)) (.string s.1) false).run Try.prog (w1.drewN m) = .ok (.pointer ((F s).map fun r => ⟨r.blk, 0, none⟩)) (w1.drewN m) := fun m => FsRep.looks (w := w1.drewN m) (hr1.below (below_drewN (Below.refl _ _) m)) s
    have HR1 := Lib.hid hr1
    have HU1 := Lib.hid hu1
    clear hask hr1 hd1 hu1 hb
    cases hF : F s with
    | none =>
      have hv : Hid (hasR F M s ns = .tuple #[.pointer none, .int .i64 5]) := by
        unfold Hid hasR hasE
        rw [hE0.out, HRep.out.files s, hF]; rfl
      rw [hF] at hlk
      simp only [Option.map_none] at hlk
      clear hF
      go_wp2_with fail
      go_quiet (fail)
      go_wp2_with fail
      go_ret2
      exact ⟨by rw [hv.out]; rfl, HR1.out.below (below_drewN (Below.refl _ _) _), HU1.out.trans (Upd.of_below (below_drewN (Below.refl _ _) _) (fun _ => False)) (fun _ _ h => h.elim)⟩
    | some r =>
      have hv : Hid (hasR F M s ns = .tuple #[.pointer (some ⟨r.blk, 0, none⟩), .int .i64 0]) := by
        unfold Hid hasR hasE
        rw [hE0.out, HRep.out.files s, hF]; rfl
      rw [hF] at hlk
      simp only [Option.map_some] at hlk
      clear hF
      go_wp2_with fail
      go_quiet (fail)
      go_wp2_with fail
      go_ret2
      exact ⟨by rw [hv.out]; rfl, HR1.out.below (below_drewN (Below.refl _ _) _), HU1.out.trans (Upd.of_below (below_drewN (Below.refl _ _) _) (fun _ => False)) (fun _ _ h => h.elim)⟩
  · have hv : Hid (hasR F M s ns = .tuple #[.pointer none, .int .i64 E]) := by
      unfold Hid hasR hasE
      rw [← hE, if_neg h0, if_neg h0]
    have hE0 : (E != 0) = true := by simp [h0]
    clear hE h hL h0
    go_enter Try.func98, Try.ntmps98
    go_wp2_with fail
    refine hask.mono ?_
    rintro e w1 ⟨rfl, hd1, hu1⟩
    have HR1 := Lib.hid (HRep.out.head hu1 hd1 rfl rfl)
    have HU1 := Lib.hid hu1
    clear hask hd1 hu1 hb
    go_wp2_with fail
    go_ret2
    exact ⟨by rw [hv.out]; rfl, HR1.out, HU1.out⟩
end Go.Proofs.Ytaopiefbejajkaa
