/- Package file: deeds on a file that is there. Package file: removing, renaming, truncating. Package file: truncating, and what is told of a file. -/
import Derived.Test.YtkiindgcbpkddaaFileB
import Derived.BigQuiet
set_option linter.unusedSimpArgs false
set_option linter.unusedVariables false
namespace Go.Proofs.Ytkiindgcbpkddaa
open Go.RowKit
/-- A pointer to a system of files, all of it from base on. -/
def fsAt (w : World) (base : Nat → Prop) (p : Nat) (M : FsM) : Prop := ∃ mb F, FsRep w base p mb F M
theorem fsAt.below {w w' : World} {base : Nat → Prop} {p : Nat} {M : FsM} (h : fsAt w base p M) (hb : Below w.heap.size w w') : fsAt w' base p M := by
  obtain ⟨mb, F, h⟩ := h
  exact ⟨mb, F, h.below hb⟩
def FsM.put (M : FsM) (s : Nm) (x : Option (List UInt8 × Nat)) : FsM := { M with files := fun t => if t = s then x else M.files t }
section
variable {w w' : World} {base : Nat → Prop} {p mb : Nat} {F : Nm → Option FileR} {M : FsM}
/-- One file's contents are other ones. -/
theorem FsRep.write (h : FsRep w base p mb F M) {s : Nm} {r r' : FileR} (e : F s = some r) (hblk : r'.blk = r.blk) (hown : ∀ k, r'.b.own = some k → r.b.own = some k ∨ w.heap.size ≤ k) (hu : Upd w w' (fun k => k = r.blk ∨ r.b.own = some k)) (hr : FileAt w' base r') :
    FsRep w' base p mb (fun t => if t = s then some r' else F t) (M.put s (some (r'.l, r'.safe))) := by
  have hne := h.ne_blk e
  refine ⟨h.hp, h.hm, (hu.block _ h.lt.1 ?_).trans h.hd, ?_, ?_, ?_, ?_⟩
  · rintro (e1 | e1)
    · exact hne.1 e1.symm
    · exact ((hne.2.2 p e1).1) rfl
  · have e2 : (fun t => (if t = s then some r' else F t).map fun r => Value.pointer (some ⟨r.blk, 0, none⟩)) = fun t => (F t).map fun r => Value.pointer (some ⟨r.blk, 0, none⟩) := by
      funext t
      by_cases ht : t = s
      · subst ht; rw [if_pos rfl, e]; simp [hblk]
      · rw [if_neg ht]
    rw [e2]
    refine h.map.of_block (hu.block _ h.lt.2 ?_)
    rintro (e1 | e1)
    · exact hne.2.1 e1.symm
    · exact ((hne.2.2 mb e1).2.1) rfl
  · intro t
    show (if t = s then _ else M.files t) = _
    by_cases ht : t = s
    · subst ht; rw [if_pos rfl, if_pos rfl]; rfl
    · rw [if_neg ht, if_neg ht]; exact h.files t
  · intro t q hq
    by_cases ht : t = s
    · subst ht
      rw [if_pos rfl] at hq
      cases hq
      exact hr
    · rw [if_neg ht] at hq
      obtain ⟨a1, a2⟩ := h.apart s t r q e hq (fun x => ht x.symm)
      have hq1 := h.file t q hq
      refine hq1.upd hu ?_ (fun k hk => ?_)
      · rintro (e1 | e1)
        · exact a1 e1.symm
        · exact ((hne.2.2 _ e1).2.2 t q hq) rfl
      · rintro (e1 | e1)
        · exact ((h.ne_blk hq).2.2 k hk).2.2 s r e e1
        · exact a2 k e1 hk
  · intro t u q x hq hx htu
    have key : ∀ t q, t ≠ s → F t = some q → r'.blk ≠ q.blk ∧ ∀ k, r'.b.own = some k → q.b.own ≠ some k := by
      intro t q ht hq
      obtain ⟨a1, a2⟩ := h.apart s t r q e hq (fun x => ht x.symm)
      refine ⟨by rw [hblk]; exact a1, fun k hk hq2 => ?_⟩
      rcases hown k hk with g | g
      · exact a2 k g hq2
      · have := ((h.file t q hq).own.lt hq2).2; omega
    by_cases ht : t = s
    · subst ht
      rw [if_pos rfl] at hq
      cases hq
      rw [if_neg (fun e => htu e.symm)] at hx
      exact key u x (fun e => htu e.symm) hx
    · rw [if_neg ht] at hq
      by_cases hus : u = s
      · subst hus
        rw [if_pos rfl] at hx
        cases hx
        obtain ⟨a1, a2⟩ := key t q ht hq
        exact ⟨fun e => a1 e.symm, fun k hk hk2 => a2 k hk2 hk⟩
      · rw [if_neg hus] at hx
        exact h.apart t u q x hq hx htu
/-- Other names for the files, some of which go. -/
theorem FsRep.remap (h : FsRep w base p mb F M) {F' : Nm → Option FileR} {n : Nat} (hu : Upd w w' (fun k => k = mb)) (hmap : mapEx w' nmV mb n (fun s => (F' s).map fun r => .pointer (some ⟨r.blk, 0, none⟩))) (g : Nm → Nm) (hg : ∀ s r, F' s = some r → F (g s) = some r) (hinj : ∀ s t r q, F' s = some r → F' t = some q → s ≠ t → g s ≠ g t) :
    FsRep w' base p mb F' { M with files := fun s => (F' s).map fun r => (r.l, r.safe), n := n } := by
  have hne : p ≠ mb := apart_map h.hd h.map
  refine ⟨h.hp, h.hm, (hu.block _ h.lt.1 hne).trans h.hd, hmap, fun _ => rfl, fun s r e => ?_, fun s t r q e1 e2 hst => h.apart _ _ r q (hg s r e1) (hg t q e2) (hinj s t r q e1 e2 hst)⟩
  have e2 := hg s r e
  exact (h.file _ r e2).upd hu (h.ne_blk e2).2.1 (fun k hk => ((h.ne_blk e2).2.2 k hk).2.1)
end
/-- A name's slice of one. -/
theorem names_one (w : World) (s : Nm) : (w.alloc (.cells #[.string s.1] 9)).heap[w.heap.size]? = some (.cells ([s].map nmV).toArray 9 (0, 0)) := heap_alloc_new w _
theorem hasE_some {w : World} {base : Nat → Prop} {p mb : Nat} {F : Nm → Option FileR} {M : FsM} (h : FsRep w base p mb F M) {s : Nm} {ns : List Nm} (he : hasE M s ns = 0) : ∃ r, F s = some r := by
  unfold hasE at he
  have hf := h.files s
  cases hF : F s with
  | some r => exact ⟨r, rfl⟩
  | none =>
    rw [hF] at hf
    simp only [Option.map_none] at hf
    rw [hf] at he
    split at he
    · simp at he
    · rename_i h1; exact absurd he h1
/-- A file that is there is found. -/
theorem has_yes (base : Nat → Prop) (p mb : Nat) (F : Nm → Option FileR) (M : FsM) (s : Nm) (ns : List Nm) (w : World) (h : FsRep w base p mb F M) (hM : M.small) (hl : (s :: ns).length ≤ 1000) (hbase : Fr base w) (he : hasE M s ns = 0) {r : FileR} (hr : F s = some r) (N : Nat) (hN : N = (s :: ns).length) (C : Array Value) (hC : C = ((s :: ns).map nmV).toArray) :
    Calls Try.prog 139 #[.pointer (some ⟨p, 0, none⟩), .slice (some ⟨w.heap.size, 0, none⟩) N N] (w.alloc (.cells C 9)) fun e w' => e = .returned (.tuple #[.pointer (some ⟨r.blk, 0, none⟩), .int .i64 0]) ∧ FsRep w' base p mb F M.asked ∧ Zb base w w' ∧ w.heap.size ≤ w'.heap.size := by
  subst hC hN
  have hbV : Below w.heap.size w (w.alloc (.cells ((s :: ns).map nmV).toArray 9)) := (Below.refl _ _).alloc (Nat.le_refl _) _
  refine (has_file base p mb w.heap.size (s :: ns).length F M s ns _ (h.below hbV) hM hl (heap_alloc_new w _)).mono ?_
  rintro e w' ⟨rfl, h1, h2⟩
  refine ⟨?_, h1, (zoned hbV hbase).trans (h2.zone (hbase.grow hbV.size) (fun k e => by rw [e]; exact h.hp)), Nat.le_trans hbV.size h2.size⟩
  unfold hasR
  rw [he, if_pos rfl, hr]
  rfl
/-- A file that is not there, or that may not be asked for. -/
theorem has_no (base : Nat → Prop) (p mb : Nat) (F : Nm → Option FileR) (M : FsM) (s : Nm) (ns : List Nm) (w : World) (h : FsRep w base p mb F M) (hM : M.small) (hl : (s :: ns).length ≤ 1000) (hbase : Fr base w) (he : hasE M s ns ≠ 0) (N : Nat) (hN : N = (s :: ns).length) (C : Array Value) (hC : C = ((s :: ns).map nmV).toArray) (E : Int) (hE : E = hasE M s ns) :
    Calls Try.prog 139 #[.pointer (some ⟨p, 0, none⟩), .slice (some ⟨w.heap.size, 0, none⟩) N N] (w.alloc (.cells C 9)) fun e w' => e = .returned (.tuple #[.pointer none, .int .i64 E]) ∧ FsRep w' base p mb F M.asked ∧ Zb base w w' ∧ w.heap.size ≤ w'.heap.size := by
  subst hC hN hE
  have hbV : Below w.heap.size w (w.alloc (.cells ((s :: ns).map nmV).toArray 9)) := (Below.refl _ _).alloc (Nat.le_refl _) _
  refine (has_file base p mb w.heap.size (s :: ns).length F M s ns _ (h.below hbV) hM hl (heap_alloc_new w _)).mono ?_
  rintro e w' ⟨rfl, h1, h2⟩
  refine ⟨?_, h1, (zoned hbV hbase).trans (h2.zone (hbase.grow hbV.size) (fun k e => by rw [e]; exact h.hp)), Nat.le_trans hbV.size h2.size⟩
  unfold hasR
  rw [if_neg he]
def syncM (M : FsM) (s : Nm) : FsM := if hasE M s [] = 0 then M.asked.put s ((M.files s).map fun x => (x.1, x.1.length)) else M.asked
set_option maxRecDepth 100000 in
set_option maxHeartbeats 1000000 in
theorem sync_file (base : Nat → Prop) (p : Nat) (M : FsM) (s : Nm) (w : World) (h : fsAt w base p M) (hM : M.small) (hbase : Fr base w) :
    Calls Try.prog 99 #[.pointer (some ⟨p, 0, none⟩), .string s.1] w fun e w' => e = .returned (.int .i64 (hasE M s [])) ∧ fsAt w' base p (syncM M s) ∧ Zb base w w' := by
  obtain ⟨mb, F, h⟩ := h
  obtain ⟨E, hE⟩ : ∃ E, E = hasE M s [] := ⟨_, rfl⟩
  by_cases h0 : E = 0
  · obtain ⟨r, hr⟩ := hasE_some h (hE.symm.trans h0)
    have hhas := has_yes base p mb F M s [] w h hM (by simp) hbase (hE.symm.trans h0) hr 1 rfl #[.string s.1] rfl
    have hfs := (h.files s)
    rw [hr] at hfs
    have HE := Lib.hid (hE.symm.trans h0)
    have HR := Lib.hid hr
    have HS := Lib.hid hfs
    clear hE h0 h hr hfs
    go_enter Try.func99, Try.ntmps99
    go_wp2_with fail
    refine hhas.mono ?_
    rintro e w1 ⟨rfl, h1, hb1, hz1⟩
    have hf := h1.file s r HR.out
    have c0 : w1.cell? ⟨r.blk, 0, none⟩ = some (.slice r.b.a r.b.n r.b.c) := by rw [(cells_known hf.cells).1]; simp [FileR.arr]
    have c1 : w1.cell? ⟨r.blk, 1, none⟩ = some (.int .i64 r.safe) := by rw [(cells_known hf.cells).1]; simp [FileR.arr]
    have f1 := (cells_known hf.cells).2.1 1
    have H1 := Lib.hid h1
    have HF := Lib.hid hf
    clear hhas h1 hf
    go_wp2_with fail
    go_ret
    have hn := HF.out.own.1
    refine ⟨by rw [HE.out]; rfl, ⟨mb, fun t => if t = s then some { r with safe := r.l.length } else F t, ?_⟩, hb1.trans ((Upd.setCell w1 ⟨r.blk, 1, none⟩ _).zone (hbase.grow hz1) (fun k e => by rw [e]; exact HF.out.above))⟩
    unfold syncM
    rw [if_pos HE.out, HS.out]
    refine H1.out.write (r' := { r with safe := r.l.length }) HR.out rfl (fun k hk => .inl hk) ((Upd.setCell w1 ⟨r.blk, 1, none⟩ (.int .i64 (r.b.n : Nat))).mono (fun k _ e => .inl e)) ⟨HF.out.above, ?_, HF.out.own.upd (Upd.setCell w1 ⟨r.blk, 1, none⟩ _) (fun k hk => ((H1.out.ne_blk HR.out).2.2 k hk).2.2 s r HR.out), Nat.le_refl _, HF.out.size⟩
    rw [heap_set HF.out.cells, hn]
    simp [FileR.arr]
  · have hhas := has_no base p mb F M s [] w h hM (by simp) hbase (fun x => h0 (hE.trans x)) 1 rfl #[.string s.1] rfl E hE
    have hE0 : (E == 0) = false := by simp [h0]
    have HE := Lib.hid hE
    have HN := Lib.hid h0
    clear hE h0 h
    go_enter Try.func99, Try.ntmps99
    go_wp2_with fail
    refine hhas.mono ?_
    rintro e w1 ⟨rfl, h1, hb1, hz1⟩
    have H1 := Lib.hid h1
    clear hhas h1
    go_wp2_with fail
    go_ret
    refine ⟨by rw [← HE.out]; rfl, ⟨mb, F, ?_⟩, hb1⟩
    unfold syncM
    rw [← HE.out, if_neg HN.out]
    exact H1.out
end Go.Proofs.Ytkiindgcbpkddaa
namespace Go.Proofs.Ytkiindgcbpkddaa
open Go.RowKit
section
variable {P : Program} {k : TypeId} {κ : Type} {enc : κ → Value} {f : κ → Option Value} {w : World} {b N : Nat} {t e : TypeId} {ops : Array Oper} {rest : List Oper} {o : Oper} {a : Act} {Q : Exit → Act → World → Prop}
theorem wpList_mapDrop [DecidableEq κ] (KE : KeyEnc P k enc) (hg : o.guard = none) (m x : Operand) (hop : o.op = Op.call { callee := Callee.builtin Builtin.delete, args := #[m, x], argTypes := #[t, k] }) (ht : P.underlying t = some (.map k e))
    (hm : a.eval m = .map (some b)) (h : mapEx w enc b N f) (y : κ) (hx : a.eval x = enc y)
    (hK : ∀ w', mapEx w' enc b (if (f y).isSome then N - 1 else N) (upd f y none) → Upd w w' (fun i => i = b) → wpList P ops Q rest (a.put o.dst (.tuple #[])) w') : wpList P ops Q (o :: rest) a w := by
  refine wpList_plain hg fun K' hK' => ?_
  obtain ⟨n, hnN, h⟩ := h
  obtain ⟨w', hrun, r1, r2⟩ := run_mapDrop (ty := o.type) KE ht h y
  unfold Oper.wp
  simp [execOp, hop, hm, hx, hrun, Result.andThen, resolve, invoke, builtin]
  exact hK' _ _ (hK w' ⟨_, by split <;> omega, r1⟩ ((Upd.grown r2).mono (fun k _ e => (Option.some.inj e).symm)))
theorem wpList_mapPut [DecidableEq κ] (KE : KeyEnc P k enc) (hg : o.guard = none) (m x v : Operand) (hop : o.op = Op.mapUpdate t m x v) (ht : P.underlying t = some (.map k e))
    (hm : a.eval m = .map (some b)) (h : mapEx w enc b N f) (y : κ) (hx : a.eval x = enc y) (u : Value) (hv : a.eval v = u)
    (hK : ∀ w', mapEx w' enc b (if (f y).isSome then N else N + 1) (upd f y (some u)) → Upd w w' (fun i => i = b) → wpList P ops Q rest (a.put o.dst undef) w') : wpList P ops Q (o :: rest) a w := by
  obtain ⟨n, hnN, h⟩ := h
  exact wpList_mapStore KE hg m x v hop ht hm h y hx u hv (fun w' h1 h2 => hK w' ⟨_, by split <;> omega, h1⟩ ((Upd.grown h2).mono (fun k _ e => (Option.some.inj e).symm)))
end
def removeM (M : FsM) (s : Nm) : FsM := if hasE M s [] = 0 then M.asked.put s none else M.asked
theorem FsRep.cell0 {w : World} {base : Nat → Prop} {p mb : Nat} {F : Nm → Option FileR} {M : FsM} (h : FsRep w base p mb F M) : w.cell? ⟨p, 0, none⟩ = some (.map (some mb)) := by rw [(cells_known h.hd).1]; simp [FsM.head]
set_option maxRecDepth 100000 in
set_option maxHeartbeats 1000000 in
theorem remove_file (base : Nat → Prop) (p : Nat) (M : FsM) (s : Nm) (w : World) (h : fsAt w base p M) (hM : M.small) (hbase : Fr base w) :
    Calls Try.prog 91 #[.pointer (some ⟨p, 0, none⟩), .string s.1] w fun e w' => e = .returned (.int .i64 (hasE M s [])) ∧ fsAt w' base p (removeM M s) ∧ Zb base w w' := by
  obtain ⟨mb, F, h⟩ := h
  obtain ⟨E, hE⟩ : ∃ E, E = hasE M s [] := ⟨_, rfl⟩
  by_cases h0 : E = 0
  · obtain ⟨r, hr⟩ := hasE_some h (hE.symm.trans h0)
    have hhas := has_yes base p mb F M s [] w h hM (by simp) hbase (hE.symm.trans h0) hr 1 rfl #[.string s.1] rfl
    have HE := Lib.hid (hE.symm.trans h0)
    have HR := Lib.hid hr
    clear hE h0 h hr
    go_enter Try.func91, Try.ntmps91
    go_wp2_with fail
    refine hhas.mono ?_
    rintro e w1 ⟨rfl, h1, hb1, hz1⟩
    have c0 := h1.cell0
    have H1 := Lib.hid h1
    clear hhas h1
    go_wp2_with (refine wpList_mapDrop nm_enc rfl _ _ rfl Try.underlying163 rfl H1.out.map s rfl ?_; intro w2 hm2 hu2)
    go_ret
    refine ⟨by rw [HE.out]; rfl, ⟨mb, fun t => if t = s then none else F t, ?_⟩, hb1.trans (hu2.zone (hbase.grow hz1) (fun k e => by rw [e]; exact H1.out.hm))⟩
    unfold removeM
    rw [if_pos HE.out]
    have e1 : (upd (fun s => Option.map (fun r : FileR => Value.pointer (some ⟨r.blk, 0, none⟩)) (F s)) s none) = fun t => Option.map (fun r : FileR => Value.pointer (some ⟨r.blk, 0, none⟩)) (if t = s then none else F t) := by
      funext t; unfold upd; by_cases ht : t = s <;> simp [ht]
    rw [e1] at hm2
    have := H1.out.remap (F' := fun t => if t = s then none else F t) (n := M.asked.n) hu2 (hm2.mono (by split <;> omega)) id (fun t r e => by by_cases ht : t = s <;> simp [ht] at e; exact e) (fun _ _ _ _ _ _ h => h)
    have e2 : ({ M.asked with files := fun t => Option.map (fun r : FileR => (r.l, r.safe)) (if t = s then none else F t), n := M.asked.n } : FsM) = M.asked.put s none := by
      refine congrArg (fun f => ({ M.asked with files := f } : FsM)) (funext fun t => ?_)
      by_cases ht : t = s
      · simp [ht]
      · simp [ht, H1.out.files t]
    rw [e2] at this
    exact this
  · have hhas := has_no base p mb F M s [] w h hM (by simp) hbase (fun x => h0 (hE.trans x)) 1 rfl #[.string s.1] rfl E hE
    have hE0 : (E == 0) = false := by simp [h0]
    have HE := Lib.hid hE
    have HN := Lib.hid h0
    clear hE h0 h
    go_enter Try.func91, Try.ntmps91
    go_wp2_with fail
    refine hhas.mono ?_
    rintro e w1 ⟨rfl, h1, hb1, hz1⟩
    have H1 := Lib.hid h1
    clear hhas h1
    go_wp2_with fail
    go_ret
    refine ⟨by rw [← HE.out]; rfl, ⟨mb, F, ?_⟩, hb1⟩
    unfold removeM
    rw [← HE.out, if_neg HN.out]
    exact H1.out
def renameM (M : FsM) (s t : Nm) : FsM := if hasE M s [t] = 0 then { (M.asked.put s none).put t (M.files s) with n := M.n + 1 } else M.asked
set_option maxRecDepth 100000 in
set_option maxHeartbeats 1000000 in
theorem rename_file (base : Nat → Prop) (p : Nat) (M : FsM) (s t : Nm) (w : World) (h : fsAt w base p M) (hM : M.small) (hbase : Fr base w) :
    Calls Try.prog 106 #[.pointer (some ⟨p, 0, none⟩), .string s.1, .string t.1] w fun e w' => e = .returned (.int .i64 (hasE M s [t])) ∧ fsAt w' base p (renameM M s t) ∧ Zb base w w' := by
  obtain ⟨mb, F, h⟩ := h
  obtain ⟨E, hE⟩ : ∃ E, E = hasE M s [t] := ⟨_, rfl⟩
  by_cases h0 : E = 0
  · obtain ⟨r, hr⟩ := hasE_some h (hE.symm.trans h0)
    have hhas := has_yes base p mb F M s [t] w h hM (by simp) hbase (hE.symm.trans h0) hr 2 rfl #[.string s.1, .string t.1] rfl
    have hfs := (h.files s)
    rw [hr] at hfs
    have HE := Lib.hid (hE.symm.trans h0)
    have HR := Lib.hid hr
    have HS := Lib.hid hfs
    clear hE h0 h hr hfs
    go_enter Try.func106, Try.ntmps106
    go_wp2_with fail
    refine hhas.mono ?_
    rintro e w1 ⟨rfl, h1, hb1, hz1⟩
    have c0 := h1.cell0
    have hpm : p ≠ mb := apart_map h1.hd h1.map
    have H1 := Lib.hid h1
    have HPM := Lib.hid hpm
    clear hhas h1 hpm
    go_wp2_with (first | (refine wpList_mapDrop nm_enc rfl _ _ rfl Try.underlying163 rfl H1.out.map s rfl ?_; intro w2 hm2 hu2; have c2 := (hu2.cell H1.out.lt.1 HPM.out 0).trans c0; have HM2 := Lib.hid hm2; clear hm2) | (refine wpList_mapPut nm_enc rfl _ _ _ rfl Try.underlying163 rfl HM2.out t rfl (.pointer (some ⟨r.blk, 0, none⟩)) rfl ?_; intro w3 hm3 hu3))
    go_ret
    have hu := hu2.trans hu3 (fun _ _ h => h)
    refine ⟨by rw [HE.out]; rfl, ⟨mb, fun x => if x = t then some r else if x = s then none else F x, ?_⟩, hb1.trans (hu.zone (hbase.grow hz1) (fun k e => by rw [e]; exact H1.out.hm))⟩
    unfold renameM
    rw [if_pos HE.out]
    have e1 : (upd (upd (fun s => Option.map (fun r : FileR => Value.pointer (some ⟨r.blk, 0, none⟩)) (F s)) s none) t (some (.pointer (some ⟨r.blk, 0, none⟩)))) = fun x => Option.map (fun r : FileR => Value.pointer (some ⟨r.blk, 0, none⟩)) (if x = t then some r else if x = s then none else F x) := by
      funext x; unfold upd; by_cases ht : x = t
      · simp [ht]
      · by_cases hs : x = s <;> simp [ht, hs]
    rw [e1] at hm3
    have := H1.out.remap (F' := fun x => if x = t then some r else if x = s then none else F x) (n := M.n + 1) hu (hm3.mono (by have : M.asked.n = M.n := rfl; split <;> split <;> omega)) (fun x => if x = t then s else x) (fun x q e => by
        by_cases ht : x = t
        · simp [ht] at e ⊢; rw [← e]; exact HR.out
        · by_cases hs : x = s
          · simp [ht, hs] at e
            rw [hs] at ht
            simp [ht] at e
          · simp [ht, hs] at e ⊢; exact e)
      (fun x y q z e1 e2 hxy => by
        by_cases hx : x = t
        · by_cases hy : y = t
          · exact absurd (hx.trans hy.symm) hxy
          · by_cases hys : y = s
            · rw [if_neg hy, if_pos hys] at e2; cases e2
            · simp [hx, hy]; exact fun e => hys e.symm
        · by_cases hy : y = t
          · by_cases hxs : x = s
            · rw [if_neg hx, if_pos hxs] at e1; cases e1
            · simp [hx, hy]; exact hxs
          · simp [hx, hy]; exact hxy)
    have e2 : ({ M.asked with files := fun x => Option.map (fun r : FileR => (r.l, r.safe)) (if x = t then some r else if x = s then none else F x), n := M.n + 1 } : FsM) = { (M.asked.put s none).put t (M.files s) with n := M.n + 1 } := by
      refine congrArg (fun f => ({ M.asked with files := f, n := M.n + 1 } : FsM)) (funext fun x => ?_)
      show _ = if x = t then M.files s else if x = s then none else M.files x
      by_cases ht : x = t
      · simp [ht, HS.out]
      · by_cases hs : x = s
        · subst hs; simp [ht]
        · simp [ht, hs, ← H1.out.files x]; rfl
    rw [e2] at this
    exact this
  · have hhas := has_no base p mb F M s [t] w h hM (by simp) hbase (fun x => h0 (hE.trans x)) 2 rfl #[.string s.1, .string t.1] rfl E hE
    have hE0 : (E == 0) = false := by simp [h0]
    have HE := Lib.hid hE
    have HN := Lib.hid h0
    clear hE h0 h
    go_enter Try.func106, Try.ntmps106
    go_wp2_with fail
    refine hhas.mono ?_
    rintro e w1 ⟨rfl, h1, hb1, hz1⟩
    have H1 := Lib.hid h1
    clear hhas h1
    go_wp2_with fail
    go_ret
    refine ⟨by rw [← HE.out]; rfl, ⟨mb, F, ?_⟩, hb1⟩
    unfold renameM
    rw [← HE.out, if_neg HN.out]
    exact H1.out
end Go.Proofs.Ytkiindgcbpkddaa
namespace Go.Proofs.Ytkiindgcbpkddaa
open Go.RowKit
theorem Sl.own_cut {s : Sl} {k : Nat} (h : k ≤ s.c) {g : Nat} (hg : (⟨s.a, k, k⟩ : Sl).own = some g) : s.own = some g := by
  unfold Sl.own at hg ⊢
  simp only at hg
  split at hg
  · cases hg
  · rw [if_neg (by omega)]; exact hg
/-- What comes of a truncation. -/
def truncE (M : FsM) (s : Nm) (n : Int) : Int := if hasE M s [] = 0 then (if n < 0 ∨ ((((M.files s).getD ([], 0)).1.length : Nat) : Int) < n then 1 else 0) else hasE M s []
def truncM (M : FsM) (s : Nm) (n : Int) : FsM := if truncE M s n = 0 then M.asked.put s ((M.files s).map fun x => (x.1.take n.toNat, min x.2 n.toNat)) else M.asked
set_option maxRecDepth 100000 in
set_option maxHeartbeats 2000000 in
theorem truncate_file (base : Nat → Prop) (p : Nat) (M : FsM) (s : Nm) (n : Int) (w : World) (h : fsAt w base p M) (hM : M.small) (hbase : Fr base w) :
    Calls Try.prog 94 #[.pointer (some ⟨p, 0, none⟩), .string s.1, .int .i64 n] w fun e w' => e = .returned (.int .i64 (truncE M s n)) ∧ fsAt w' base p (truncM M s n) ∧ Zb base w w' := by
  obtain ⟨mb, F, h⟩ := h
  obtain ⟨E, hE⟩ : ∃ E, E = hasE M s [] := ⟨_, rfl⟩
  by_cases h0 : E = 0
  · obtain ⟨r, hr⟩ := hasE_some h (hE.symm.trans h0)
    have hhas := has_yes base p mb F M s [] w h hM (by simp) hbase (hE.symm.trans h0) hr 1 rfl #[.string s.1] rfl
    have hfs := (h.files s)
    rw [hr] at hfs
    have hlen := (h.file s r hr).own.1
    have hcap := (h.file s r hr).own.2.1
    have hsz := (h.file s r hr).size
    have hsf := (h.file s r hr).safe
    have HE := Lib.hid (hE.symm.trans h0)
    have HR := Lib.hid hr
    have HS := Lib.hid hfs
    clear hE h0 h hr hfs
    by_cases hbad : n < 0 ∨ (r.l.length : Int) < n
    · have hT : Hid (truncE M s n = 1) := by unfold Hid truncE; rw [HE.out, if_pos rfl, HS.out]; exact if_pos hbad
      have hb2 : n < 0 ∨ (0 ≤ n ∧ (r.b.n : Int) < n) := by omega
      have HL := Lib.hid hlen
      clear hbad hlen hcap hsz hsf
      rcases hb2 with hb2 | ⟨hb3, hb2⟩
      · have d1 : decide (n < 0) = true := decide_eq_true hb2
        clear hb2
        go_enter Try.func94, Try.ntmps94
        go_wp2_with fail
        refine hhas.mono ?_
        rintro e w1 ⟨rfl, h1, hb1, hz1⟩
        have H1 := Lib.hid h1
        clear hhas h1
        go_wp2_with fail
        go_ret
        refine ⟨by rw [hT.out]; rfl, ⟨mb, F, ?_⟩, hb1⟩
        unfold truncM
        rw [hT.out, if_neg (by decide)]
        exact H1.out
      · have d1 : decide (n < 0) = false := decide_eq_false (by omega)
        have d2 : decide ((r.b.n : Int) < n) = true := decide_eq_true hb2
        clear hb2
        go_enter Try.func94, Try.ntmps94
        go_wp2_with fail
        refine hhas.mono ?_
        rintro e w1 ⟨rfl, h1, hb1, hz1⟩
        have hf := h1.file s r HR.out
        have c0 : w1.cell? ⟨r.blk, 0, none⟩ = some (.slice r.b.a r.b.n r.b.c) := by rw [(cells_known hf.cells).1]; simp [FileR.arr]
        have H1 := Lib.hid h1
        clear hhas h1 hf
        go_wp2_with fail
        go_ret
        refine ⟨by rw [hT.out]; rfl, ⟨mb, F, ?_⟩, hb1⟩
        unfold truncM
        rw [hT.out, if_neg (by decide)]
        exact H1.out
    · have hT : Hid (truncE M s n = 0) := by unfold Hid truncE; rw [HE.out, if_pos rfl, HS.out]; exact if_neg hbad
      obtain ⟨k, rfl⟩ := Int.eq_ofNat_of_zero_le (show 0 ≤ n by omega)
      have hkl : k ≤ r.b.n := by omega
      have hkc : k ≤ r.b.c := by omega
      have d1 : decide ((k : Int) < 0) = false := decide_eq_false (by omega)
      have d2 : decide (r.b.n < k) = false := decide_eq_false (by omega)
      have hkc2 : (k : Int) ≤ (r.b.c : Int) := by omega
      have hn0 : (r.b.n : Int) ≤ 16777216 := by omega
      have hs0 : (r.safe : Int) ≤ 16777216 := by omega
      have HL := Lib.hid hlen
      clear hbad hlen
      go_enter Try.func94, Try.ntmps94
      go_wp2_with fail
      refine hhas.mono ?_
      rintro e w1 ⟨rfl, h1, hb1, hz1⟩
      have hf := h1.file s r HR.out
      have c0 : w1.cell? ⟨r.blk, 0, none⟩ = some (.slice r.b.a r.b.n r.b.c) := by rw [(cells_known hf.cells).1]; simp [FileR.arr]
      have c1 : w1.cell? ⟨r.blk, 1, none⟩ = some (.int .i64 r.safe) := by rw [(cells_known hf.cells).1]; simp [FileR.arr]
      have f1 := (cells_known hf.cells).2.1
      have H1 := Lib.hid h1
      have HF := Lib.hid hf
      clear hhas h1 hf
      go_wp2_with fail
      have hmn : ((r.safe : Int) ≤ (k : Int)) ∨ ((k : Int) < (r.safe : Int)) := by omega
      rcases hmn with hmn | hmn
      · have hmn2 : min r.safe k = r.safe := by omega
        have HMN := Lib.hid hmn2
        clear hmn2
        go_region
        go_wp2_with fail
        go_ret
        have hu := ((Upd.setCell w1 ⟨r.blk, 0, none⟩ (.slice r.b.a k k)).trans (Upd.setCell _ ⟨r.blk, 1, none⟩ (.int .i64 (r.safe : Nat))) (fun _ _ h => h)).trans (c := ((w1.setCell ⟨r.blk, 0, none⟩ (.slice r.b.a k k)).setCell ⟨r.blk, 1, none⟩ (.int .i64 (r.safe : Nat))).drew) (T := fun _ => False) ⟨rfl, rfl, rfl, Nat.le_refl _, fun _ _ _ => rfl⟩ (fun _ _ h => h.elim)
        have hu' : Upd w1 _ (fun i => i = r.blk) := hu
        refine ⟨by rw [hT.out]; rfl, ⟨mb, fun t => if t = s then some { r with b := ⟨r.b.a, k, k⟩, l := r.l.take k, safe := min r.safe k } else F t, ?_⟩, hb1.trans (hu'.zone (hbase.grow hz1) (fun i e => by rw [e]; exact HF.out.above))⟩
        unfold truncM
        rw [hT.out, if_pos rfl, HS.out]
        refine H1.out.write (r' := { r with b := ⟨r.b.a, k, k⟩, l := r.l.take k, safe := min r.safe k }) HR.out rfl (fun g hg => .inl (Sl.own_cut hkc hg)) (hu'.mono (fun i _ e => .inl e)) ⟨HF.out.above, ?_, (HF.out.own.cutTo k (by rw [← HL.out]; exact hkl)).upd hu' (fun g hg => ((H1.out.ne_blk HR.out).2.2 g (Sl.own_cut hkc hg)).2.2 s r HR.out), by simp; omega, by simp; omega⟩
        show ((w1.setCell ⟨r.blk, 0, none⟩ (.slice r.b.a k k)).setCell ⟨r.blk, 1, none⟩ (.int .i64 (r.safe : Nat))).heap[r.blk]? = _
        rw [heap_set (heap_set HF.out.cells 0 _) 1 _]
        simp [FileR.arr, HMN.out]
      · have hmn2 : min r.safe k = k := by omega
        have HMN := Lib.hid hmn2
        clear hmn2
        go_region
        go_wp2_with fail
        go_ret
        have hu := ((Upd.setCell w1 ⟨r.blk, 0, none⟩ (.slice r.b.a k k)).trans (Upd.setCell _ ⟨r.blk, 1, none⟩ (.int .i64 (k : Nat))) (fun _ _ h => h)).trans (c := ((w1.setCell ⟨r.blk, 0, none⟩ (.slice r.b.a k k)).setCell ⟨r.blk, 1, none⟩ (.int .i64 (k : Nat))).drew) (T := fun _ => False) ⟨rfl, rfl, rfl, Nat.le_refl _, fun _ _ _ => rfl⟩ (fun _ _ h => h.elim)
        have hu' : Upd w1 _ (fun i => i = r.blk) := hu
        refine ⟨by rw [hT.out]; rfl, ⟨mb, fun t => if t = s then some { r with b := ⟨r.b.a, k, k⟩, l := r.l.take k, safe := min r.safe k } else F t, ?_⟩, hb1.trans (hu'.zone (hbase.grow hz1) (fun i e => by rw [e]; exact HF.out.above))⟩
        unfold truncM
        rw [hT.out, if_pos rfl, HS.out]
        refine H1.out.write (r' := { r with b := ⟨r.b.a, k, k⟩, l := r.l.take k, safe := min r.safe k }) HR.out rfl (fun g hg => .inl (Sl.own_cut hkc hg)) (hu'.mono (fun i _ e => .inl e)) ⟨HF.out.above, ?_, (HF.out.own.cutTo k (by rw [← HL.out]; exact hkl)).upd hu' (fun g hg => ((H1.out.ne_blk HR.out).2.2 g (Sl.own_cut hkc hg)).2.2 s r HR.out), by simp; omega, by simp; omega⟩
        show ((w1.setCell ⟨r.blk, 0, none⟩ (.slice r.b.a k k)).setCell ⟨r.blk, 1, none⟩ (.int .i64 (k : Nat))).heap[r.blk]? = _
        rw [heap_set (heap_set HF.out.cells 0 _) 1 _]
        simp [FileR.arr, HMN.out]
  · have hhas := has_no base p mb F M s [] w h hM (by simp) hbase (fun x => h0 (hE.trans x)) 1 rfl #[.string s.1] rfl E hE
    have hE0 : (E != 0) = true := by simp [h0]
    have hT : Hid (truncE M s n = E) := by unfold Hid truncE; rw [← hE, if_neg h0]
    have HN := Lib.hid h0
    clear hE h0 h
    go_enter Try.func94, Try.ntmps94
    go_wp2_with fail
    refine hhas.mono ?_
    rintro e w1 ⟨rfl, h1, hb1, hz1⟩
    have H1 := Lib.hid h1
    clear hhas h1
    go_wp2_with fail
    go_ret
    refine ⟨by rw [hT.out]; rfl, ⟨mb, F, ?_⟩, hb1⟩
    unfold truncM
    rw [hT.out, if_neg HN.out]
    exact H1.out
end Go.Proofs.Ytkiindgcbpkddaa
