/- Package file: deeds on a file that is there. -/
import Derived.Test.YtaopiefbejajkaaFileB
set_option linter.unusedSimpArgs false
set_option linter.unusedVariables false
namespace Go.Proofs.Ytaopiefbejajkaa
open Go.RowKit
/-- A pointer to a system of files, all of it from base on. -/
def fsAt (w : World) (base : Nat → Prop) (p : Nat) (M : FsM) : Prop := ∃ mb F, FsRep w base p mb F M
theorem fsAt.below {w w' : World} {base : Nat → Prop} {p : Nat} {M : FsM} (h : fsAt w base p M) (hb : Below w.heap.size w w') : fsAt w' base p M := by
  obtain ⟨mb, F, h⟩ := h
  exact ⟨mb, F, h.below hb⟩
def FsM.put (M : FsM) (s : Nm) (x : Option (List UInt8 × Nat)) : FsM := { M with files := fun t => if t = s then x else M.files t }
section
variable {w w' : World} {base : Nat → Prop} {p mb : Nat} {F : Nm → Option FileR} {M : FsM}
/-- One file's contents are other ones. -/
theorem FsRep.write (h : FsRep w base p mb F M) {s : Nm} {r r' : FileR} (e : F s = some r) (hblk : r'.blk = r.blk) (hown : ∀ k, r'.b.own = some k → r.b.own = some k ∨ w.heap.size ≤ k) (hu : Upd w w' (fun k => k = r.blk ∨ r.b.own = some k)) (hr : FileAt w' base r') :
    FsRep w' base p mb (fun t => if t = s then some r' else F t) (M.put s (some (r'.l, r'.safe))) := by
  have hne := h.ne_blk e
  refine ⟨h.hp, h.hm, (hu.block _ h.lt.1 ?_).trans h.hd, ?_, ?_, ?_, ?_⟩
  · rintro (e1 | e1)
    · exact hne.1 e1.symm
    · exact ((hne.2.2 p e1).1) rfl
  · have e2 : (fun t => (if t = s then some r' else F t).map fun r => Value.pointer (some ⟨r.blk, 0, none⟩)) = fun t => (F t).map fun r => Value.pointer (some ⟨r.blk, 0, none⟩) := by
      funext t
      by_cases ht : t = s
      · subst ht; rw [if_pos rfl, e]; simp [hblk]
      · rw [if_neg ht]
    rw [e2]
    refine h.map.of_block (hu.block _ h.lt.2 ?_)
    rintro (e1 | e1)
    · exact hne.2.1 e1.symm
    · exact ((hne.2.2 mb e1).2.1) rfl
  · intro t
    show (if t = s then _ else M.files t) = _
    by_cases ht : t = s
    · subst ht; rw [if_pos rfl, if_pos rfl]; rfl
    · rw [if_neg ht, if_neg ht]; exact h.files t
  · intro t q hq
    by_cases ht : t = s
    · subst ht
      rw [if_pos rfl] at hq
      cases hq
      exact hr
    · rw [if_neg ht] at hq
      obtain ⟨a1, a2⟩ := h.apart s t r q e hq (fun x => ht x.symm)
      have hq1 := h.file t q hq
      refine hq1.upd hu ?_ (fun k hk => ?_)
      · rintro (e1 | e1)
        · exact a1 e1.symm
        · exact ((hne.2.2 _ e1).2.2 t q hq) rfl
      · rintro (e1 | e1)
        · exact ((h.ne_blk hq).2.2 k hk).2.2 s r e e1
        · exact a2 k e1 hk
  · intro t u q x hq hx htu
    have key : ∀ t q, t ≠ s → F t = some q → r'.blk ≠ q.blk ∧ ∀ k, r'.b.own = some k → q.b.own ≠ some k := by
      intro t q ht hq
      obtain ⟨a1, a2⟩ := h.apart s t r q e hq (fun x => ht x.symm)
      refine ⟨by rw [hblk]; exact a1, fun k hk hq2 => ?_⟩
      rcases hown k hk with g | g
      · exact a2 k g hq2
      · have := ((h.file t q hq).own.lt hq2).2; omega
    by_cases ht : t = s
    · subst ht
      rw [if_pos rfl] at hq
      cases hq
      rw [if_neg (fun e => htu e.symm)] at hx
      exact key u x (fun e => htu e.symm) hx
    · rw [if_neg ht] at hq
      by_cases hus : u = s
      · subst hus
        rw [if_pos rfl] at hx
        cases hx
        obtain ⟨a1, a2⟩ := key t q ht hq
        exact ⟨fun e => a1 e.symm, fun k hk hk2 => a2 k hk2 hk⟩
      · rw [if_neg hus] at hx
        exact h.apart t u q x hq hx htu
/-- Other names for the files, some of which go. -/
theorem FsRep.remap (h : FsRep w base p mb F M) {F' : Nm → Option FileR} {n : Nat} (hu : Upd w w' (fun k => k = mb)) (hmap : mapEx w' nmV mb n (fun s => (F' s).map fun r => .pointer (some ⟨r.blk, 0, none⟩))) (g : Nm → Nm) (hg : ∀ s r, F' s = some r → F (g s) = some r) (hinj : ∀ s t r q, F' s = some r → F' t = some q → s ≠ t → g s ≠ g t) :
    FsRep w' base p mb F' { M with files := fun s => (F' s).map fun r => (r.l, r.safe), n := n } := by
  have hne : p ≠ mb := apart_map h.hd h.map
  refine ⟨h.hp, h.hm, (hu.block _ h.lt.1 hne).trans h.hd, hmap, fun _ => rfl, fun s r e => ?_, fun s t r q e1 e2 hst => h.apart _ _ r q (hg s r e1) (hg t q e2) (hinj s t r q e1 e2 hst)⟩
  have e2 := hg s r e
  exact (h.file _ r e2).upd hu (h.ne_blk e2).2.1 (fun k hk => ((h.ne_blk e2).2.2 k hk).2.1)
end
/-- A name's slice of one. -/
theorem names_one (w : World) (s : Nm) : (w.alloc (.cells #[.string s.1] 9)).heap[w.heap.size]? = some (.cells ([s].map nmV).toArray 9 (0, 0)) := heap_alloc_new w _
theorem hasE_some {w : World} {base : Nat → Prop} {p mb : Nat} {F : Nm → Option FileR} {M : FsM} (h : FsRep w base p mb F M) {s : Nm} {ns : List Nm} (he : hasE M s ns = 0) : ∃ r, F s = some r := by
  unfold hasE at he
  have hf := h.files s
  cases hF : F s with
  | some r => exact ⟨r, rfl⟩
  | none =>
    rw [hF] at hf
    simp only [Option.map_none] at hf
    rw [hf] at he
    split at he
    · simp at he
    · rename_i h1; exact absurd he h1
/-- A file that is there is found. -/
theorem has_yes (base : Nat → Prop) (p mb : Nat) (F : Nm → Option FileR) (M : FsM) (s : Nm) (ns : List Nm) (w : World) (h : FsRep w base p mb F M) (hM : M.small) (hl : (s :: ns).length ≤ 1000) (hbase : Fr base w) (he : hasE M s ns = 0) {r : FileR} (hr : F s = some r) (N : Nat) (hN : N = (s :: ns).length) (C : Array Value) (hC : C = ((s :: ns).map nmV).toArray) :
    Calls Try.prog 98 #[.pointer (some ⟨p, 0, none⟩), .slice (some ⟨w.heap.size, 0, none⟩) N N] (w.alloc (.cells C 9)) fun e w' => e = .returned (.tuple #[.pointer (some ⟨r.blk, 0, none⟩), .int .i64 0]) ∧ FsRep w' base p mb F M.asked ∧ Zb base w w' ∧ w.heap.size ≤ w'.heap.size := by
  subst hC hN
  have hbV : Below w.heap.size w (w.alloc (.cells ((s :: ns).map nmV).toArray 9)) := (Below.refl _ _).alloc (Nat.le_refl _) _
  refine (has_file base p mb w.heap.size (s :: ns).length F M s ns _ (h.below hbV) hM hl (heap_alloc_new w _)).mono ?_
  rintro e w' ⟨rfl, h1, h2⟩
  refine ⟨?_, h1, (zoned hbV hbase).trans (h2.zone (hbase.grow hbV.size) (fun k e => by rw [e]; exact h.hp)), Nat.le_trans hbV.size h2.size⟩
  unfold hasR
  rw [he, if_pos rfl, hr]
  rfl
/-- A file that is not there, or that may not be asked for. -/
theorem has_no (base : Nat → Prop) (p mb : Nat) (F : Nm → Option FileR) (M : FsM) (s : Nm) (ns : List Nm) (w : World) (h : FsRep w base p mb F M) (hM : M.small) (hl : (s :: ns).length ≤ 1000) (hbase : Fr base w) (he : hasE M s ns ≠ 0) (N : Nat) (hN : N = (s :: ns).length) (C : Array Value) (hC : C = ((s :: ns).map nmV).toArray) (E : Int) (hE : E = hasE M s ns) :
    Calls Try.prog 98 #[.pointer (some ⟨p, 0, none⟩), .slice (some ⟨w.heap.size, 0, none⟩) N N] (w.alloc (.cells C 9)) fun e w' => e = .returned (.tuple #[.pointer none, .int .i64 E]) ∧ FsRep w' base p mb F M.asked ∧ Zb base w w' ∧ w.heap.size ≤ w'.heap.size := by
  subst hC hN hE
  have hbV : Below w.heap.size w (w.alloc (.cells ((s :: ns).map nmV).toArray 9)) := (Below.refl _ _).alloc (Nat.le_refl _) _
  refine (has_file base p mb w.heap.size (s :: ns).length F M s ns _ (h.below hbV) hM hl (heap_alloc_new w _)).mono ?_
  rintro e w' ⟨rfl, h1, h2⟩
  refine ⟨?_, h1, (zoned hbV hbase).trans (h2.zone (hbase.grow hbV.size) (fun k e => by rw [e]; exact h.hp)), Nat.le_trans hbV.size h2.size⟩
  unfold hasR
  rw [if_neg he]
def syncM (M : FsM) (s : Nm) : FsM := if hasE M s [] = 0 then M.asked.put s ((M.files s).map fun x => (x.1, x.1.length)) else M.asked
set_option maxRecDepth 100000 in
set_option maxHeartbeats 1000000 in
theorem sync_file (base : Nat → Prop) (p : Nat) (M : FsM) (s : Nm) (w : World) (h : fsAt w base p M) (hM : M.small) (hbase : Fr base w) :
    Calls Try.prog 45 #[.pointer (some ⟨p, 0, none⟩), .string s.1] w fun e w' => e = .returned (.int .i64 (hasE M s [])) ∧ fsAt w' base p (syncM M s) ∧ Zb base w w' := by
  obtain ⟨mb, F, h⟩ := h
  obtain ⟨E, hE⟩ : ∃ E, E = hasE M s [] := ⟨_, rfl⟩
  by_cases h0 : E = 0
  · obtain ⟨r, hr⟩ := hasE_some h (hE.symm.trans h0)
    have hhas := has_yes base p mb F M s [] w h hM (by simp) hbase (hE.symm.trans h0) hr 1 rfl #[.string s.1] rfl
    have hfs := (h.files s)
    rw [hr] at hfs
    have HE := Lib.hid (hE.symm.trans h0)
    have HR := Lib.hid hr
    have HS := Lib.hid hfs
    clear hE h0 h hr hfs
    go_enter Try.func45, Try.ntmps45
    go_wp2_with fail
    refine hhas.mono ?_
    rintro e w1 ⟨rfl, h1, hb1, hz1⟩
    have hf := h1.file s r HR.out
    have c0 : w1.cell? ⟨r.blk, 0, none⟩ = some (.slice r.b.a r.b.n r.b.c) := by rw [(cells_known hf.cells).1]; simp [FileR.arr]
    have c1 : w1.cell? ⟨r.blk, 1, none⟩ = some (.int .i64 r.safe) := by rw [(cells_known hf.cells).1]; simp [FileR.arr]
    have f1 := (cells_known hf.cells).2.1 1
    have H1 := Lib.hid h1
    have HF := Lib.hid hf
    clear hhas h1 hf
    go_wp2_with fail
    go_ret
    have hn := HF.out.own.1
    refine ⟨by rw [HE.out]; rfl, ⟨mb, fun t => if t = s then some { r with safe := r.l.length } else F t, ?_⟩, hb1.trans ((Upd.setCell w1 ⟨r.blk, 1, none⟩ _).zone (hbase.grow hz1) (fun k e => by rw [e]; exact HF.out.above))⟩
    unfold syncM
    rw [if_pos HE.out, HS.out]
    refine H1.out.write (r' := { r with safe := r.l.length }) HR.out rfl (fun k hk => .inl hk) ((Upd.setCell w1 ⟨r.blk, 1, none⟩ (.int .i64 (r.b.n : Nat))).mono (fun k _ e => .inl e)) ⟨HF.out.above, ?_, HF.out.own.upd (Upd.setCell w1 ⟨r.blk, 1, none⟩ _) (fun k hk => ((H1.out.ne_blk HR.out).2.2 k hk).2.2 s r HR.out), Nat.le_refl _, HF.out.size⟩
    rw [heap_set HF.out.cells, hn]
    simp [FileR.arr]
  · have hhas := has_no base p mb F M s [] w h hM (by simp) hbase (fun x => h0 (hE.trans x)) 1 rfl #[.string s.1] rfl E hE
    have hE0 : (E == 0) = false := by simp [h0]
    have HE := Lib.hid hE
    have HN := Lib.hid h0
    clear hE h0 h
    go_enter Try.func45, Try.ntmps45
    go_wp2_with fail
    refine hhas.mono ?_
    rintro e w1 ⟨rfl, h1, hb1, hz1⟩
    have H1 := Lib.hid h1
    clear hhas h1
    go_wp2_with fail
    go_ret
    refine ⟨by rw [← HE.out]; rfl, ⟨mb, F, ?_⟩, hb1⟩
    unfold syncM
    rw [← HE.out, if_neg HN.out]
    exact H1.out
end Go.Proofs.Ytaopiefbejajkaa
