/- Package file: removing, renaming, truncating. -/
import Derived.Test.YtaopiefbejajkaaFileC
set_option linter.unusedSimpArgs false
set_option linter.unusedVariables false
namespace Go.Proofs.Ytaopiefbejajkaa
open Go.RowKit
section
variable {P : Program} {k : TypeId} {κ : Type} {enc : κ → Value} {f : κ → Option Value} {w : World} {b N : Nat} {t e : TypeId} {ops : Array Oper} {rest : List Oper} {o : Oper} {a : Act} {Q : Exit → Act → World → Prop}
theorem wpList_mapDrop [DecidableEq κ] (KE : KeyEnc P k enc) (hg : o.guard = none) (m x : Operand) (hop : o.op = Op.call { callee := Callee.builtin Builtin.delete, args := #[m, x], argTypes := #[t, k] }) (ht : P.underlying t = some (.map k e))
    (hm : a.eval m = .map (some b)) (h : mapEx w enc b N f) (y : κ) (hx : a.eval x = enc y)
    (hK : ∀ w', mapEx w' enc b (if (f y).isSome then N - 1 else N) (upd f y none) → Upd w w' (fun i => i = b) → wpList P ops Q rest (a.put o.dst (.tuple #[])) w') : wpList P ops Q (o :: rest) a w := by
  refine wpList_plain hg fun K' hK' => ?_
  obtain ⟨n, hnN, h⟩ := h
  obtain ⟨w', hrun, r1, r2⟩ := run_mapDrop (ty := o.type) KE ht h y
  unfold Oper.wp
  simp [execOp, hop, hm, hx, hrun, Result.andThen, resolve, invoke, builtin]
  exact hK' _ _ (hK w' ⟨_, by split <;> omega, r1⟩ ((Upd.grown r2).mono (fun k _ e => (Option.some.inj e).symm)))
theorem wpList_mapPut [DecidableEq κ] (KE : KeyEnc P k enc) (hg : o.guard = none) (m x v : Operand) (hop : o.op = Op.mapUpdate t m x v) (ht : P.underlying t = some (.map k e))
    (hm : a.eval m = .map (some b)) (h : mapEx w enc b N f) (y : κ) (hx : a.eval x = enc y) (u : Value) (hv : a.eval v = u)
    (hK : ∀ w', mapEx w' enc b (if (f y).isSome then N else N + 1) (upd f y (some u)) → Upd w w' (fun i => i = b) → wpList P ops Q rest (a.put o.dst undef) w') : wpList P ops Q (o :: rest) a w := by
  obtain ⟨n, hnN, h⟩ := h
  exact wpList_mapStore KE hg m x v hop ht hm h y hx u hv (fun w' h1 h2 => hK w' ⟨_, by split <;> omega, h1⟩ ((Upd.grown h2).mono (fun k _ e => (Option.some.inj e).symm)))
end
def removeM (M : FsM) (s : Nm) : FsM := if hasE M s [] = 0 then M.asked.put s none else M.asked
theorem FsRep.cell0 {w : World} {base : Nat → Prop} {p mb : Nat} {F : Nm → Option FileR} {M : FsM} (h : FsRep w base p mb F M) : w.cell? ⟨p, 0, none⟩ = some (.map (some mb)) := by rw [(cells_known h.hd).1]; simp [FsM.head]
set_option maxRecDepth 100000 in
set_option maxHeartbeats 1000000 in
theorem remove_file (base : Nat → Prop) (p : Nat) (M : FsM) (s : Nm) (w : World) (h : fsAt w base p M) (hM : M.small) (hbase : Fr base w) :
    Calls Try.prog 54 #[.pointer (some ⟨p, 0, none⟩), .string s.1] w fun e w' => e = .returned (.int .i64 (hasE M s [])) ∧ fsAt w' base p (removeM M s) ∧ Zb base w w' := by
  obtain ⟨mb, F, h⟩ := h
  obtain ⟨E, hE⟩ : ∃ E, E = hasE M s [] := ⟨_, rfl⟩
  by_cases h0 : E = 0
  · obtain ⟨r, hr⟩ := hasE_some h (hE.symm.trans h0)
    have hhas := has_yes base p mb F M s [] w h hM (by simp) hbase (hE.symm.trans h0) hr 1 rfl #[.string s.1] rfl
    have HE := Lib.hid (hE.symm.trans h0)
    have HR := Lib.hid hr
    clear hE h0 h hr
    go_enter Try.func54, Try.ntmps54
    go_wp2_with fail
    refine hhas.mono ?_
    rintro e w1 ⟨rfl, h1, hb1, hz1⟩
    have c0 := h1.cell0
    have H1 := Lib.hid h1
    clear hhas h1
    go_wp2_with (refine wpList_mapDrop nm_enc rfl _ _ rfl Try.underlying164 rfl H1.out.map s rfl ?_; intro w2 hm2 hu2)
    go_ret
    refine ⟨by rw [HE.out]; rfl, ⟨mb, fun t => if t = s then none else F t, ?_⟩, hb1.trans (hu2.zone (hbase.grow hz1) (fun k e => by rw [e]; exact H1.out.hm))⟩
    unfold removeM
    rw [if_pos HE.out]
    have e1 : (upd (fun s => Option.map (fun r : FileR => Value.pointer (some ⟨r.blk, 0, none⟩)) (F s)) s none) = fun t => Option.map (fun r : FileR => Value.pointer (some ⟨r.blk, 0, none⟩)) (if t = s then none else F t) := by
      funext t; unfold upd; by_cases ht : t = s <;> simp [ht]
    rw [e1] at hm2
    have := H1.out.remap (F' := fun t => if t = s then none else F t) (n := M.asked.n) hu2 (hm2.mono (by split <;> omega)) id (fun t r e => by by_cases ht : t = s <;> simp [ht] at e; exact e) (fun _ _ _ _ _ _ h => h)
    have e2 : ({ M.asked with files := fun t => Option.map (fun r : FileR => (r.l, r.safe)) (if t = s then none else F t), n := M.asked.n } : FsM) = M.asked.put s none := by
      refine congrArg (fun f => ({ M.asked with files := f } : FsM)) (funext fun t => ?_)
      by_cases ht : t = s
      · simp [ht]
      · simp [ht, H1.out.files t]
    rw [e2] at this
    exact this
  · have hhas := has_no base p mb F M s [] w h hM (by simp) hbase (fun x => h0 (hE.trans x)) 1 rfl #[.string s.1] rfl E hE
    have hE0 : (E == 0) = false := by simp [h0]
    have HE := Lib.hid hE
    have HN := Lib.hid h0
    clear hE h0 h
    go_enter Try.func54, Try.ntmps54
    go_wp2_with fail
    refine hhas.mono ?_
    rintro e w1 ⟨rfl, h1, hb1, hz1⟩
    have H1 := Lib.hid h1
    clear hhas h1
    go_wp2_with fail
    go_ret
    refine ⟨by rw [← HE.out]; rfl, ⟨mb, F, ?_⟩, hb1⟩
    unfold removeM
    rw [← HE.out, if_neg HN.out]
    exact H1.out
def renameM (M : FsM) (s t : Nm) : FsM := if hasE M s [t] = 0 then { (M.asked.put s none).put t (M.files s) with n := M.n + 1 } else M.asked
set_option maxRecDepth 100000 in
set_option maxHeartbeats 1000000 in
theorem rename_file (base : Nat → Prop) (p : Nat) (M : FsM) (s t : Nm) (w : World) (h : fsAt w base p M) (hM : M.small) (hbase : Fr base w) :
    Calls Try.prog 46 #[.pointer (some ⟨p, 0, none⟩), .string s.1, .string t.1] w fun e w' => e = .returned (.int .i64 (hasE M s [t])) ∧ fsAt w' base p (renameM M s t) ∧ Zb base w w' := by
  obtain ⟨mb, F, h⟩ := h
  obtain ⟨E, hE⟩ : ∃ E, E = hasE M s [t] := ⟨_, rfl⟩
  by_cases h0 : E = 0
  · obtain ⟨r, hr⟩ := hasE_some h (hE.symm.trans h0)
    have hhas := has_yes base p mb F M s [t] w h hM (by simp) hbase (hE.symm.trans h0) hr 2 rfl #[.string s.1, .string t.1] rfl
    have hfs := (h.files s)
    rw [hr] at hfs
    have HE := Lib.hid (hE.symm.trans h0)
    have HR := Lib.hid hr
    have HS := Lib.hid hfs
    clear hE h0 h hr hfs
    go_enter Try.func46, Try.ntmps46
    go_wp2_with fail
    refine hhas.mono ?_
    rintro e w1 ⟨rfl, h1, hb1, hz1⟩
    have c0 := h1.cell0
    have hpm : p ≠ mb := apart_map h1.hd h1.map
    have H1 := Lib.hid h1
    have HPM := Lib.hid hpm
    clear hhas h1 hpm
    go_wp2_with (first | (refine wpList_mapDrop nm_enc rfl _ _ rfl Try.underlying164 rfl H1.out.map s rfl ?_; intro w2 hm2 hu2; have c2 := (hu2.cell H1.out.lt.1 HPM.out 0).trans c0; have HM2 := Lib.hid hm2; clear hm2) | (refine wpList_mapPut nm_enc rfl _ _ _ rfl Try.underlying164 rfl HM2.out t rfl (.pointer (some ⟨r.blk, 0, none⟩)) rfl ?_; intro w3 hm3 hu3))
    go_ret
    have hu := hu2.trans hu3 (fun _ _ h => h)
    refine ⟨by rw [HE.out]; rfl, ⟨mb, fun x => if x = t then some r else if x = s then none else F x, ?_⟩, hb1.trans (hu.zone (hbase.grow hz1) (fun k e => by rw [e]; exact H1.out.hm))⟩
    unfold renameM
    rw [if_pos HE.out]
    have e1 : (upd (upd (fun s => Option.map (fun r : FileR => Value.pointer (some ⟨r.blk, 0, none⟩)) (F s)) s none) t (some (.pointer (some ⟨r.blk, 0, none⟩)))) = fun x => Option.map (fun r : FileR => Value.pointer (some ⟨r.blk, 0, none⟩)) (if x = t then some r else if x = s then none else F x) := by
      funext x; unfold upd; by_cases ht : x = t
      · simp [ht]
      · by_cases hs : x = s <;> simp [ht, hs]
    rw [e1] at hm3
    have := H1.out.remap (F' := fun x => if x = t then some r else if x = s then none else F x) (n := M.n + 1) hu (hm3.mono (by have : M.asked.n = M.n := rfl; split <;> split <;> omega)) (fun x => if x = t then s else x) (fun x q e => by
        by_cases ht : x = t
        · simp [ht] at e ⊢; rw [← e]; exact HR.out
        · by_cases hs : x = s
          · simp [ht, hs] at e
            rw [hs] at ht
            simp [ht] at e
          · simp [ht, hs] at e ⊢; exact e)
      (fun x y q z e1 e2 hxy => by
        by_cases hx : x = t
        · by_cases hy : y = t
          · exact absurd (hx.trans hy.symm) hxy
          · by_cases hys : y = s
            · rw [if_neg hy, if_pos hys] at e2; cases e2
            · simp [hx, hy]; exact fun e => hys e.symm
        · by_cases hy : y = t
          · by_cases hxs : x = s
            · rw [if_neg hx, if_pos hxs] at e1; cases e1
            · simp [hx, hy]; exact hxs
          · simp [hx, hy]; exact hxy)
    have e2 : ({ M.asked with files := fun x => Option.map (fun r : FileR => (r.l, r.safe)) (if x = t then some r else if x = s then none else F x), n := M.n + 1 } : FsM) = { (M.asked.put s none).put t (M.files s) with n := M.n + 1 } := by
      refine congrArg (fun f => ({ M.asked with files := f, n := M.n + 1 } : FsM)) (funext fun x => ?_)
      show _ = if x = t then M.files s else if x = s then none else M.files x
      by_cases ht : x = t
      · simp [ht, HS.out]
      · by_cases hs : x = s
        · subst hs; simp [ht]
        · simp [ht, hs, ← H1.out.files x]; rfl
    rw [e2] at this
    exact this
  · have hhas := has_no base p mb F M s [t] w h hM (by simp) hbase (fun x => h0 (hE.trans x)) 2 rfl #[.string s.1, .string t.1] rfl E hE
    have hE0 : (E == 0) = false := by simp [h0]
    have HE := Lib.hid hE
    have HN := Lib.hid h0
    clear hE h0 h
    go_enter Try.func46, Try.ntmps46
    go_wp2_with fail
    refine hhas.mono ?_
    rintro e w1 ⟨rfl, h1, hb1, hz1⟩
    have H1 := Lib.hid h1
    clear hhas h1
    go_wp2_with fail
    go_ret
    refine ⟨by rw [← HE.out]; rfl, ⟨mb, F, ?_⟩, hb1⟩
    unfold renameM
    rw [← HE.out, if_neg HN.out]
    exact H1.out
end Go.Proofs.Ytaopiefbejajkaa
